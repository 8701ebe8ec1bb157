/- A part of the proof. -/
import Derived.Test.YthoojemlmhliaaaGreatDoorT8
import Derived.Test.YthoojemlmhliaaaGreatDoorT5
import Derived.Lib.AtoiTie
import Derived.Test.YthoojemlmhliaaaGreatDoorT7
set_option linter.unusedSimpArgs false
set_option linter.unusedVariables false
set_option maxRecDepth 100000
namespace Go.Ax.Sx.Sc
open Go.Ax
section
variable{s:ae} {w:W}
theorem QU {f:Int→Bool}:∀{k:Nat} {l:List Int},(bn k l).filter (fun g=>g.all f)=bn k (l.filter f)
 |0,l=>by simp[bn]
 |k+1,[]=>rfl
 | k + 1, x :: r => by
  simp only[bn,qN]
  rw[QU (k:=k+1) (l:=r),List.filter_map]
  cases hx:f x with
  |true=>
   rw[aeN hx]
   simp only[bn]
   rw[←QU (k:=k) (l:=r)]
   congr 2
   apply NG
   intro g _
   simp[Function.comp,hx]
  |false=>
   rw[aeM (by simp[hx])]
   rw[Ut.2 (by intro g _;simp[Function.comp,hx])]
   rfl
theorem ahz {n:Nat} {l g:List Int} {k:Nat} (h:(bn (n+1) l)[k]? =some g):gR none 1 (p8 (n+1) l) (I k)=some (.bd [(oX (n+1) g).v aC] 0):=
 MF (by rw[iL,h];rfl)
def Ab (n:Nat) (p:P):P:=⟨p.req,p.start,oX n p.an.l⟩
theorem avz {i st:Int}:mD w i st=((bn (w.rq i).need.toNat (w.rq i).an.l).filter fun g=>g.all fun a=>cU w a st (w.rq i).len).map fun g=>⟨i,st,fg g⟩:=by
 rw[QU];rfl
theorem awj (hs:Ok s) (hw:Wk w) {i:Int} (h0:0≤i) (h1:i<w.rs.l.length):aw AP (.fn 57) [w.v,I i] s=some (bB 3 (((ct w i).map (Ab (w.rq i).need.toNat)).map aq),s):=by
 have hq:=hw.rq h0 h1
 have dK:=hw.v.n2
 have fC:=hw.v.al
 have qw:=W.oe h0 h1
 have hqo:=hw.ok.an _ qw
 have HI:=hw.si.an _ qw
 have amK:=hq.pK
 have amw:=hq.bH
 have amL:=hq.CX
 have amH:=hq.pJ
 have L5:=hq.kJ
 have aBl:=hq.Ia
 have aBm:=hq.Ib
 have eD:=oQ hw h0 h1
 obtain⟨m,hm⟩:∃m:Nat,(w.rq i).need=((m+1:Nat):Int):=⟨((w.rq i).need-1).toNat,by omega⟩
 have ZI:(w.rq i).need.toNat=m+1:=by omega
 have vx:=z7 hw h0 h1
 have iD:ct w i=jN w i (w.rq i).lo ((w.rq i).hi-(w.rq i).len+2-(w.rq i).lo).toNat:=rfl
 have fD:∀st,mD w i st=((bn (m+1) (w.rq i).an.l).filter fun g=>g.all fun a=>cU w a st (w.rq i).len).map fun g=>⟨i,st,fg g⟩:=fun st=>by rw[avz,ZI]
 have Cm:∀r,aw AP (.fn 91) [.slice (w.rq i).an.o (w.rq i).an.e ((w.rq i).an.l.map aC),I (w.rq i).need] (s.push r)=some (p8 (m+1) (w.rq i).an.l,s.push r):=fun r=>by
  rw[hm];exact acF (m+1) (hs.push r) hqo.1 (by omega) (by omega)
 have alL:=hq.tG
 rw[ZI]
 have sM:IntKind.i64.wrap ((w.rq i).hi-(w.rq i).len)=(w.rq i).hi-(w.rq i).len:=bq (by omega) (by omega)
 have vO:IntKind.i64.wrap ((w.rq i).hi-(w.rq i).len+1)=(w.rq i).hi-(w.rq i).len+1:=bq (by omega) (by omega)
 generalize Mc:w.rq i=q at*
 have hsc:(bn (m+1) q.an.l).length≤64:=mN B8 (mb (show 0<2 by omega) HI)
 have outer : ∀ (st : Int) ρ x, (ρ 1 = I i ∧ ρ 2 = .ptr s.ag.length 0 0 ∧ ρ 5 = .ptr s.ag.length 1 0 ∧ ρ 6 = p8 (m + 1) q.an.l ∧ ρ 8 = I st ∧ q.lo ≤ st ∧ st ≤ q.hi - q.len + 2 ∧ ∃ D y og tk bx, D ++ jN w i st (q.hi - q.len + 2 - st).toNat = ct w i ∧ Acc s.ag.length 3 ((D.map (Ab (m + 1))).map aq) y og tk ∧ ρ 7 = y ∧ x = s.push ⟨aW w :: aS q :: bx, tk⟩) →
   go AP X1 (.c (.loop Ea)::aqT) ⟨ρ,x⟩=some (bB 3 (((ct w i).map (Ab (m+1))).map aq),s):=by
  refine SK (q.hi-q.len+1) _ _ ?_ ?_
  ·rintro st ρ x bu ⟨g1,g2,g5,g6,g8,CM,Mk,D,y,og,tk,bx,hD,hA,g7,rfl⟩ ih
   have hle:decide (st≤q.hi-q.len+1)=true:=by simp;omega
   have an2:IntKind.i64.wrap (st+1)=st+1:=bq (by omega) (by omega)
   have anU:(q.hi-q.len+2-st).toNat=(q.hi-q.len+2-(st+1)).toNat+1:=by omega
   rw[anU]at hD
   simp only[jN]at hD
   have inner:∀(j:Nat) ρ x,j≤(bn (m+1) q.an.l).length→(ρ 1=I i∧ρ 2=.ptr s.ag.length 0 0∧ρ 5=.ptr s.ag.length 1 0∧ρ 6=p8 (m+1) q.an.l∧ρ 8=I st∧ρ 9=I j∧∃y og tk bx,Acc s.ag.length 3 (((D++(((bn (m+1) q.an.l).take j).filter fun g=>g.all fun a=>cU w a st q.len).map fun g=>(⟨i,st,fg g⟩:P)).map (Ab (m+1))).map aq) y og tk∧ρ 7=y∧x=s.push ⟨aW w::aS q::bx,tk⟩)→
     go AP X1 (.c (.loop Eb)::aqU) ⟨ρ,x⟩=some (bB 3 (((ct w i).map (Ab (m+1))).map aq),s):=by
    refine bA _ _ _ ?_ ?_
    ·rintro j ρ x hj ⟨g1,g2,g5,g6,g8,g9,y,og,tk,bx,hA,g7,rfl⟩ eQ
     obtain⟨g,hg⟩:=get_some hj
     have bf:=ahz hg
     have hgm:=G8 (bE hg)
     have kz:=xJ (bE hg)
     have oM:bJ w ⟨i,st,oX (m+1) g⟩:=⟨h0,h1,by show 0≤st;omega,by show st≤200;omega,fun a ha=>alL a (hgm.subset ha),adE,by show(g.length:Int)<_;omega⟩
     have iH:∀r,aw AP (.fn 92) [w.v,.agg (aq ⟨i,st,oX (m+1) g⟩)] (s.push r)=some (B (!(g.all fun a=>cU w a st q.len)),s.push r):=fun r=>by
      rw[acG (hs.push r) hw oM]
      simp only[Mc]
      rw[List.not_all_eq_any_not];rfl
     have aQ:closeAll [I i,I st,(oX (m+1) g).v aC]=some (aq ⟨i,st,oX (m+1) g⟩):=by
      simp only[ie,jW,nC,Sl.close (f:=aC) (adE (n:=m+1) (g:=g))];rfl
     have vw:((bn (m+1) q.an.l).length:Int)<9223372036854775808:=by omega
     have hDl:D.length≤13000:=by rw[←hD,cG]at vx;omega
     have uq:((bn (m+1) q.an.l).take j).length≤64:=by rw[ez];omega
     have ud:(((bn (m+1) q.an.l).take j).filter fun g=>g.all fun a=>cU w a st q.len).length≤64:=mN (rW _ _) uq
     simp only[aq,Sl.v,W.v,aW]at aQ iH bf
     cases jF:g.all fun a=>cU w a st q.len with
     | false =>
      have fj:((bn (m+1) q.an.l).take (j+1)).filter (fun g=>g.all fun a=>cU w a st q.len)=((bn (m+1) q.an.l).take j).filter (fun g=>g.all fun a=>cU w a st q.len):=by
       rw[du hg,qN,aeM (by simp[jF]),IW,kR]
      rw[←fj]at hA
      obtain⟨oa,ea,ra,rfl⟩:=Acc.sl hA
      simp only[go_sem,Eb,g1,g2,g6,g8,g9,hs,Gy,aL hj,bf,iH,jF,th,bh hj vw,simprocAttr]
      refine eQ _ _ ?_
      exact⟨g1,g2,g5,g6,g8,rfl,_,og,tk,_,hA,g7,rfl⟩
     | true =>
      have fj:(D++(((bn (m+1) q.an.l).take (j+1)).filter fun g=>g.all fun a=>cU w a st q.len).map fun g=>(⟨i,st,fg g⟩:P))=(D++(((bn (m+1) q.an.l).take j).filter fun g=>g.all fun a=>cU w a st q.len).map fun g=>(⟨i,st,fg g⟩:P))++[⟨i,st,fg g⟩]:=by
       rw[du hg,qN,aeN (by simp[jF]),IW,fH,gK];rfl
      obtain⟨x2,fb,mK,ik,iB,hb3,hb4⟩:=hA.append hs .full (ys:=[aq ⟨i,st,oX (m+1) g⟩]) (by simp) (by rw[cg,cg,cG,cg,pV];omega)
      obtain⟨oa,ea,ra,rfl⟩:=Acc.sl hA
      obtain⟨ob,eb,rb,rfl⟩:=Acc.sl iB
      simp only[aq,Sl.v]at ik
      simp only[go_sem,Eb,g1,g2,g6,g7,g8,g9,hs,Gy,aL hj,bf,aQ,iH,jF,ik,ov,bh hj vw,simprocAttr]
      refine eQ _ _ ?_
      refine⟨g1,g2,g5,g6,g8,rfl,_,fb,mK,_,?_,rfl,rfl⟩
      rw[fj,fH,fH];exact iB
    ·rintro ρ x ⟨g1,g2,g5,g6,g8,g9,y,og,tk,bx,hA,g7,rfl⟩
     rw[er,←fD]at hA
     simp only[go_sem,Eb,OL,g6,g8,g9,Gy,bg,an2,simprocAttr]
     refine ih _ _ ?_
     exact⟨g1,g2,g5,g6,rfl,by omega,by omega,_,y,og,tk,bx,by rw[gK];exact hD,hA,g7,rfl⟩
   simp only[go_sem,Ea,g5,g8,sM,vO,hle,simprocAttr]
   refine inner 0 _ _ (aV _) ?_
   refine⟨g1,g2,g5,g6,g8,rfl,y,og,tk,bx,?_,g7,rfl⟩
   rw[DM,IW,pb,kR];exact hA
  ·rintro st ρ x bu ⟨g1,g2,g5,g6,g8,CM,Mk,D,y,og,tk,bx,hD,hA,g7,rfl⟩
   have hle:decide (st≤q.hi-q.len+1)=false:=by simp;omega
   have hz:(q.hi-q.len+2-st).toNat=0:=by omega
   rw[hz]at hD
   simp only[jN,kR]at hD
   rw[hD]at hA
   have dc:=fun q:ae=>hA.leave q
   obtain⟨oa,ea,ra,rfl⟩:=Acc.sl hA
   simp only[go_sem,Ea,JI,g5,g7,g8,sM,vO,hle,dc,simprocAttr]
 rw[aG (show AP 57=some Fp from rfl) rfl]
 simp only[aS,Sl.v]at eD Cm
 simp only[go_sem,VR,hs,eD,Cm,simprocAttr]
 refine outer q.lo _ _ ?_
 refine⟨rfl,rfl,rfl,rfl,rfl,by omega,by omega,[],_,none,[],[],?_,Acc.start,rfl,rfl⟩
 rw[gL,iD]
end
section
variable{s:ae} {w:W}
end
def lexB:List Int→List Int→Bool
 |[],[]=>false
 |[],_::_=>true
 |_::_,[]=>false
 |x::r,y::t=>if x=y then lexB r t else decide (x<y)
def kP (p:P):List Int:=p.req::p.start::p.an.l
def vg (p q:P):Int:=if lexB (kP p) (kP q)=true then-1 else if lexB (kP q) (kP p)=true then 1 else 0
def wh:List P→List P→Bool
 |[],[]=>true
 |x::r,y::t=>decide (vg x y=0)&&wh r t
 |_,_=>false
theorem H6:∀{l:List Int},lexB l l=false
 |[]=>rfl
 |x::r=>by simp only[lexB,cI];exact H6
theorem ahP {p q:P} (h:kP p=kP q):vg p q=0:=by
 unfold vg;rw[h,H6];simp
theorem ac5 {f g:P→P} (h:∀p,kP (f p)=kP (g p)):∀{l:List P},wh (l.map f) (l.map g)=true
 |[]=>rfl
 |x::r=>by simp only[fR,wh,ahP (h x),tO,kQ];exact ac5 h
section
variable{s:ae} {w:W}
theorem Vv {a b:List Int} {o1 o2:Own} {e1 e2:Nat} (h1:a=[]∨e1=1) (h2:b=[]∨e2=1) (l1:a.length≤100000) (l2:b.length≤100000):
  aw AP (.fn 88) [.slice o1 e1 (a.map aC),.slice o2 e2 (b.map aC)] s=some (B (lexB a b),s):=by
 have key : ∀ (k : Nat) ρ m, k ≤ min a.length b.length → (ρ 0 = .slice o1 e1 (a.map aC) ∧ ρ 1 = .slice o2 e2 (b.map aC) ∧ ρ 5 = I k ∧ m = s.push ⟨[], []⟩) →
   go AP aiX (.c (.loop AO)::aqy) ⟨ρ,m⟩=some (B (lexB (a.drop k) (b.drop k)),s):=by
  refine bA (min a.length b.length) _ _ ?_ ?_
  ·rintro k ρ m hk ⟨g0,g1,g5,rfl⟩ ih
   obtain⟨x,hx⟩:=get_some (l:=a) (k:=k) (by omega)
   obtain⟨y,hy⟩:=get_some (l:=b) (k:=k) (by omega)
   have lO:e1=1:=by rcases h1 with h|h;(rw[h]at hx;simp at hx);exact h
   have kv:e2=1:=by rcases h2 with h|h;(rw[h]at hy;simp at hy);exact h
   subst lO;subst kv
   have ha:=cz (f:=aC) (o:=o1) (es:=1) hx
   have hb:=cz (f:=aC) (o:=o2) (es:=1) hy
   have d1:decide ((k:Int)<(a.length:Int))=true:=by simp;omega
   have d2:decide ((k:Int)<(b.length:Int))=true:=by simp;omega
   rw[gO hx,gO hy,lexB]
   by_cases dX:x=y
   ·rw[aj dX]
    have hd:decide (¬x=y)=false:=by simp[dX]
    have ur:IntKind.i64.wrap ((k:Int)+1)=((k+1:Nat):Int):=by rw[bq (by omega) (by omega)];omega
    simp only[go_sem,AO,g0,g1,g5,d1,d2,ha,hb,hd,bV,ur,simprocAttr]
    exact ih _ _ ⟨g0,g1,rfl,rfl⟩
   ·rw[ak dX]
    have hd:decide (¬x=y)=true:=by simp[dX]
    simp only[go_sem,AO,g0,g1,g5,d1,d2,ha,hb,hd,bV,simprocAttr]
  ·rintro ρ m ⟨g0,g1,g5,rfl⟩
   by_cases jY:a.length≤b.length
   ·have rp:min a.length b.length=a.length:=by omega
    rw[rp]at g5⊢
    have d1:decide ((a.length:Int)<(a.length:Int))=false:=by simp
    rw[fe]
    simp only[go_sem,AO,Jr,g0,g1,g5,d1,simprocAttr]
    by_cases aB:a.length<b.length
    ·have:∃y r,b.drop a.length=y::r:=by
      obtain⟨y,hy⟩:=get_some aB
      exact⟨y,_,gO hy⟩
     obtain⟨y,r,hd⟩:=this
     rw[hd]
     simp only[lexB]
     have:decide ((a.length:Int)<(b.length:Int))=true:=by simp;omega
     rw[this]
    ·rw[DC (by omega)]
     simp only[lexB]
     have:decide ((a.length:Int)<(b.length:Int))=false:=by simp;omega
     rw[this]
   ·have rp:min a.length b.length=b.length:=by omega
    rw[rp]at g5⊢
    have d1:decide ((b.length:Int)<(a.length:Int))=true:=by simp;omega
    have d2:decide ((b.length:Int)<(b.length:Int))=false:=by simp
    obtain⟨x,hx⟩:=get_some (l:=a) (k:=b.length) (by omega)
    have d3:decide ((a.length:Int)<(b.length:Int))=false:=by simp;omega
    simp only[go_sem,AO,Jr,g0,g1,g5,d1,d2,d3,simprocAttr]
    rw[gO hx,fe];rfl
 rw[aG (show AP 88=some EZ from rfl) rfl]
 simp only[go_sem,Vy,simprocAttr]
 exact key 0 _ _ (aV _) ⟨rfl,rfl,rfl,rfl⟩
theorem aqx {p:P}:[[I p.req],[I p.start]]++p.an.l.map aC=(kP p).map aC:=rfl
theorem awo {p q:P} (hs:Ok s) (hp:p.an.ok 1) (hq:q.an.ok 1) (lp:p.an.l.length≤1000) (lq:q.an.l.length≤1000):
  aw AP (.fn 54) [.agg (aq p),.agg (aq q)] s=some (I (vg p q),s):=by
 obtain⟨o1,IG,cp,_,_⟩:=Oj (q:=s) (b:=[]) (tk:=[]) (lit:=[[I p.req],[I p.start]]) (ys:=p.an.l.map aC) (o:=p.an.o) (e:=p.an.e) (by rcases hp.1 with h|h;exact .inl (by rw[h];rfl);exact .inr h) (by simp;omega)
 obtain⟨o2,mK,di,_,_⟩:=Oj (q:=s) (b:=[]) (tk:=IG) (lit:=[[I q.req],[I q.start]]) (ys:=q.an.l.map aC) (o:=q.an.o) (e:=q.an.e) (by rcases hq.1 with h|h;exact .inl (by rw[h];rfl);exact .inr h) (by simp;omega)
 rw[aqx]at cp di
 have ik:∀m:ae,aw AP (.fn 88) [.slice o1 1 ((kP p).map aC),.slice o2 1 ((kP q).map aC)] m=some (B (lexB (kP p) (kP q)),m):=fun m=>Vv (.inr rfl) (.inr rfl) (by simp[kP];omega) (by simp[kP];omega)
 have iB:∀m:ae,aw AP (.fn 88) [.slice o2 1 ((kP q).map aC),.slice o1 1 ((kP p).map aC)] m=some (B (lexB (kP q) (kP p)),m):=fun m=>Vv (.inr rfl) (.inr rfl) (by simp[kP];omega) (by simp[kP];omega)
 rw[aG (show AP 54=some Fw from rfl) rfl]
 unfold vg
 cases h1:lexB (kP p) (kP q)with
 |true=>simp only[go_sem,JP,cp,di,ik,h1,simprocAttr]
 |false=>
  cases h2:lexB (kP q) (kP p)with
  |true=>simp only[go_sem,JP,cp,di,ik,iB,h1,h2,ew,simprocAttr]
  |false=>simp only[go_sem,JP,cp,di,ik,iB,h1,h2,ew,simprocAttr]
structure Jf (l:List P):Prop where
 len:l.length≤100000
 ok:∀p∈l,p.an.ok 1∧p.an.l.length≤1000
theorem awk {a b : List P} {o1 o2 : Own} {e1 e2 : Nat} (hs : Ok s) (h1 : a = [] ∨ e1 = 3) (h2 : b = [] ∨ e2 = 3) (l1 : Jf a) (l2 : Jf b) :
    aw AP (.fn 19) [.slice o1 e1 (a.map aq),.slice o2 e2 (b.map aq)] s=some (B (wh a b),s):=by
  have xS:=l1.len
  have L2:=l2.len
  by_cases jY:a.length=b.length
  · have key : ∀ (k : Nat) ρ m, k ≤ a.length → (ρ 0 = .slice o1 e1 (a.map aq) ∧ ρ 1 = .slice o2 e2 (b.map aq) ∧ ρ 5 = I k ∧ m = s.push ⟨[], []⟩) →
        go AP ai5 (.c (.loop Ee)::aqX) ⟨ρ,m⟩=some (B (wh (a.drop k) (b.drop k)),s):=by
      refine bA a.length _ _ ?_ ?_
      · rintro k ρ m hk ⟨g0, g1, g5, rfl⟩ ih
        obtain⟨x,hx⟩:=get_some (l:=a) (k:=k) (by omega)
        obtain⟨y,hy⟩:=get_some (l:=b) (k:=k) (by omega)
        have lO:e1=3:=by rcases h1 with h|h;(rw[h]at hx;simp at hx);exact h
        have kv:e2=3:=by rcases h2 with h|h;(rw[h]at hy;simp at hy);exact h
        subst lO;subst kv
        have ha:=cz (f:=aq) (o:=o1) (es:=3) hx
        have hb:=cz (f:=aq) (o:=o2) (es:=3) hy
        have rB:=l1.ok x (bE hx)
        have CQ:=l2.ok y (bE hy)
        have sE:∀r,aw AP (.fn 54) [.agg (aq x),.agg (aq y)] (s.push r)=some (I (vg x y),s.push r):=fun r=>awo (hs.push r) rB.1 CQ.1 rB.2 CQ.2
        rw[gO hx,gO hy,wh]
        simp only[aq,Sl.v]at sE ha hb
        by_cases hc:vg x y=0
        · have hd : decide (¬ vg x y = 0) = false := by simp [hc]
          rw[bS hc,kQ]
          simp only[go_sem,Ee,g0,g1,g5,aL hk,ha,hb,sE,hd,bV,bh hk (show(a.length:Int)<_ by omega),simprocAttr]
          refine ih _ _ ?_
          exact⟨g0,g1,rfl,rfl⟩
        · have hd : decide (¬ vg x y = 0) = true := by simp [hc]
          rw[bX hc,lr]
          simp only[go_sem,Ee,g0,g1,g5,aL hk,ha,hb,sE,hd,bV,simprocAttr]
      · rintro ρ m ⟨g0, g1, g5, rfl⟩
        simp only[go_sem,Ee,OQ,g0,g5,bg,simprocAttr]
        rw[fe,DC (by omega)];rfl
    have hd:decide (¬(a.length:Int)=(b.length:Int))=false:=by simp[jY]
    rw[aG (show AP 19=some Bh from rfl) rfl]
    simp only[go_sem,OP,hd,bV,simprocAttr]
    exact key 0 _ _ (aV _) ⟨rfl,rfl,rfl,rfl⟩
  · have uo : ∀ {a b : List P}, a.length ≠ b.length → wh a b = false := by
      intro a
      induction a with
      | nil => intro b h; cases b with
        |nil=>exact absurd rfl h
        |cons _ _=>rfl
      | cons x r ih => intro b h; cases b with
        |nil=>rfl
        |cons y t=>simp only[wh];rw[ih (b:=t) (by simpa using h),l8]
    have hd:decide (¬(a.length:Int)=(b.length:Int))=true:=by simp;omega
    rw[uo jY]
    rw[aG (show AP 19=some Bh from rfl) rfl]
    simp only[go_sem,OP,hd,bV,simprocAttr]
end
theorem aij {n:Nat} (h:n<100):eO n=Lib.decDigits n:=by
 unfold eO
 rw[Lib.decDigits]
 by_cases h1:n<10
 ·rw[aj h1,tP h1]
 ·rw[ak h1,K2 h1,Lib.decDigits,tP (by omega)];rfl
theorem aik {n:Int} (h0:0≤n) (h1:n<100):eO n.toNat=Lib.itoa n:=by
 rw[Lib.itoa,ak (by omega),aij (by omega)]
theorem Qm {u:Nat}:∀{k:Nat},u<10^(k+1)→(Lib.decDigits u).length≤k+1:=by
 induction u using Nat.strongRecOn with
 | _ u ih =>
  intro k h
  rw[Lib.decDigits]
  by_cases hu:u<10
  ·rw[tP hu];simp
  ·rw[K2 hu]
   cases k with
   |zero=>simp at h;omega
   |succ k=>
    have:=ih (u/10) (by omega) (k:=k) (by rw[UT]at h;omega)
    simp only[cG,pV];omega
theorem CV {n:Int} (h0:-9223372036854775808≤n) (h1:n≤9223372036854775807):(Lib.itoa n).length≤21:=by
 unfold Lib.itoa
 split
 ·have:=Qm (u:=n.natAbs) (k:=19) (by have:(10:Nat)^20=100000000000000000000:=(by decide);omega)
  simp only[cH];omega
 ·have:=Qm (u:=n.toNat) (k:=19) (by have:(10:Nat)^20=100000000000000000000:=(by decide);omega)
  omega
def pH (c:UInt8):Bool:=decide (48≤c.toNat)&&decide (c.toNat≤57)
def dv (c:UInt8):Nat:=c.toNat-48
def ait (a:Nat) (c:UInt8):Nat:=10*a+dv c
def kU (acc:Nat) (l:List UInt8):Nat:=l.foldl ait acc
theorem GJ {acc:Nat}:kU acc []=acc:=by unfold kU;exact List.foldl_nil
theorem K4 {acc:Nat} {c:UInt8} {r:List UInt8}:kU acc (c::r)=kU (10*acc+dv c) r:=by unfold kU;rw[ma];rfl
def bZ (l:List UInt8):Option Int:=
 if(l.length≤4∧l.all pH=true)∧(l≠[]∧(l.length=1∨l.head?≠some 48))then some (kU 0 l)else none
theorem XP {l:List UInt8} {c:UInt8} {acc:Nat}:kU acc (l++[c])=10*kU acc l+dv c:=by
 unfold kU;rw[DD];rfl
theorem TY {d:Nat} (h:d<10):(UInt8.ofNat (48+d)).toNat=48+d:=by
 rw[UInt8.toNat_ofNat']
 exact DP (by omega)
theorem aaA {d:Nat} (h:d<10):pH (UInt8.ofNat (48+d))=true:=by
 unfold pH;rw[TY h];simp only[dE,fB];omega
theorem XO {d:Nat} (h:d<10):dv (UInt8.ofNat (48+d))=d:=by unfold dv;rw[TY h];omega
theorem MD {c:UInt8} (h:pH c=true):48≤c.toNat∧c.toNat≤57:=by simpa[pH]using h
theorem XK {u:Nat}:Lib.decDigits u≠[]:=by
 rw[Lib.decDigits];split<;>simp
theorem XL (u:Nat):(Lib.decDigits u).all pH=true∧kU 0 (Lib.decDigits u)=u∧((Lib.decDigits u).length=1∨(Lib.decDigits u).head?≠some 48):=by
 induction u using Nat.strongRecOn with
 | _ u ih =>
  rw[Lib.decDigits]
  by_cases hu:u<10
  ·rw[tP hu]
   refine⟨by rw[tm,aaA hu];rfl,?_,.inl rfl⟩
   rw[K4,GJ,XO hu];omega
  ·rw[K2 hu]
   obtain⟨h1,h2,h3⟩:=ih (u/10) (by omega)
   have hm:u%10<10:=uN _ (by decide)
   refine⟨by rw[List.all_append,h1,tm,aaA hm];rfl,by rw[XP,h2,XO hm];omega,.inr ?_⟩
   have aF:=XK (u:=u/10)
   have Ct:∀(a b:List UInt8),a≠[]→(a++b).head?=a.head?:=fun a b h=>by cases a<;>simp_all
   rw[Ct _ _ aF]
   rcases h3 with h3|h3
   ·obtain⟨c,hc⟩:=List.length_eq_one_iff.1 h3
    rw[hc]at h2⊢
    rw[K4,GJ]at h2
    intro e
    simp only[List.head?_cons,fI]at e
    subst e
    have:dv 48=0:=rfl
    omega
   ·exact h3
theorem aii:∀(n:Nat) {l:List UInt8},l.length=n→l.all pH=true→l≠[]→(l.length=1∨l.head?≠some 48)→Lib.decDigits (kU 0 l)=l:=by
 intro n
 induction n with
 |zero=>intro l hl _ hn _;exact absurd (rV hl) hn
 | succ n ih =>
  intro l hl ha hn hh
  obtain⟨r,c,rfl⟩:∃r c,l=r++[c]:=⟨l.dropLast,l.getLast hn,(List.dropLast_concat_getLast hn).symm⟩
  rw[List.all_append,dE]at ha
  have hc:48≤c.toNat∧c.toNat≤57:=MD (by have:=ha.2;simpa using this)
  have hv:dv c=c.toNat-48:=rfl
  rw[XP]
  have lL:UInt8.ofNat (48+dv c)=c:=by
   apply UInt8.toNat_inj.1
   rw[TY (by omega)];omega
  cases r with
  |nil=>
   rw[GJ,gL,Lib.decDigits,tP (by omega)]
   rw[show 10*0+dv c=dv c by omega,lL]
  | cons x t =>
   have hx:x≠48:=by
    rcases hh with h|h
    ·simp at h
    ·intro e;subst e;exact h rfl
   have hr:Lib.decDigits (kU 0 (x::t))=x::t:=ih (by simp at hl⊢;omega) ha.1 (by simp) (by
    by_cases ht:t=[]
    ·left;rw[ht];rfl
    ·right;simpa using hx)
   have xX:kU 0 (x::t)≠0:=by
    intro e
    rw[e]at hr
    rw[Lib.decDigits,tP (by decide)]at hr
    simp only[DB]at hr
    exact hx hr.1.symm
   rw[Lib.decDigits,K2 (by omega)]
   rw[show(10*kU 0 (x::t)+dv c)/10=kU 0 (x::t)by omega,hr,show(10*kU 0 (x::t)+dv c)%10=dv c by omega,lL]
theorem aiu {l:List UInt8} (h:l.all pH=true):∀{acc:Nat},kU acc l<(acc+1)*10^l.length:=by
 induction l with
 |nil=>intro acc;rw[GJ];simp
 | cons c r ih =>
  intro acc
  simp only[tm,dE]at h
  have hc:=MD h.1
  have hv:dv c=c.toNat-48:=rfl
  have:=ih h.2 (acc:=10*acc+dv c)
  have h2:(10*acc+dv c+1)*10^r.length≤(10*acc+10)*10^r.length:=pd _ (by omega)
  rw[K4,cH,UT]
  have h3:(acc+1)*(10^r.length*10)=(10*acc+10)*10^r.length:=by
   rw[N0 (10^r.length) 10,←Nat.mul_assoc,show(acc+1)*10=10*acc+10 by omega]
  omega
theorem S0 {l:List UInt8} {v:Int} (h:bZ l=some v):0≤v∧v<10000∧Lib.itoa v=l∧l.length≤4∧l≠[]∧v=kU 0 l∧l.all pH=true:=by
 unfold bZ at h
 split at h
 ·rename_i hc
  injection h with h
  obtain⟨⟨h1,h2⟩,h3,h4⟩:=hc
  have aB:=aiu h2 (acc:=0)
  have hp:10^l.length≤10^4:=mb (by decide) h1
  have h5:=aii _ rfl h2 h3 h4
  refine⟨by omega,by omega,?_,h1,h3,h.symm,h2⟩
  rw[Lib.itoa,ak (by omega),←h]
  simpa using h5
 ·cases h
theorem abE {v:Int} (h0:0≤v) (h1:(Lib.itoa v).length≤4):bZ (Lib.itoa v)=some v:=by
 have e:Lib.itoa v=Lib.decDigits v.toNat:=by rw[Lib.itoa,ak (by omega)]
 rw[e]at h1⊢
 obtain⟨a,b,c⟩:=XL v.toNat
 rw[bZ,aj ⟨⟨h1,a⟩,XK,c⟩,b]
 congr 1
 omega
theorem SZ {v:Int} (h0:0≤v) (h1:v<10000):bZ (Lib.itoa v)=some v:=by
 refine abE h0 ?_
 rw[Lib.itoa,ak (by omega)]
 exact Qm (k:=3) (by omega)
theorem ail {l:List UInt8} (h:l.all pH=true):∀{acc:Nat},Lib.decFrom acc l=some (kU acc l):=by
 induction l with
 |nil=>intro acc;rw[GJ];rfl
 |cons c r ih=>
  intro acc
  simp only[tm,dE]at h
  have hc:=MD h.1
  have e:Lib.digitVal c=some (dv c):=by rw[Lib.digitVal,aj hc];rfl
  have:=ih h.2 (acc:=acc*10+dv c)
  rw[K4,show 10*acc+dv c=acc*10+dv c by omega,←this]
  simp only[Lib.decFrom,e]
theorem atH {l:List UInt8} {v:Int} (h:bZ l=some v):Lib.atoiAll l=.ok v:=by
 obtain⟨h0,h1,h2,h3,h4,h5,h6⟩:=S0 h
 rw[Lib.atoiAll_short l (by omega)]
 cases l with
 |nil=>exact absurd rfl h4
 | cons c r =>
  have hc:48≤c.toNat∧c.toNat≤57:=by
   simp only[tm,dE]at h6
   exact MD h6.1
  have n1:(c==45)=false:=WU.2 fun e=>by subst e;have:(45:UInt8).toNat=45:=rfl;omega
  have n2:(c==43)=false:=WU.2 fun e=>by subst e;have:(43:UInt8).toNat=43:=rfl;omega
  have e:Lib.atoi (c::r)=some v:=by
   have hd:Lib.decNat (c::r)=some (kU 0 (c::r)):=by rw[Lib.decNat];simp only[List.isEmpty_cons,ew,eu];exact ail h6
   unfold Lib.atoi
   show(if(c==45)=true then _ else if(c==43)=true then _ else Option.map _ (Lib.decNat (c::r)))=_
   rw[n1,n2,hd,h5];rfl
  rw[e];rfl
section
variable{s:ae} {w:W}
theorem Dr {l:List UInt8}:(tx l).data.toList=l:=by simp[tx]
theorem ad7 {a b:List UInt8} (h:tx a=tx b):a=b:=by
 have:=gX (fun x:ByteArray=>x.data.toList) h
 simpa[Dr]using this
theorem HY {n:Int} (h0:-9223372036854775808≤n) (h1:n≤9223372036854775807):aw AP (.fn 52) [I n] s=some (S (tx (Lib.itoa n)),s):=by
 rw[xj (show AP 52=some zW from rfl)]
 simp only[ie,jW,nC,dI,dJ,HZ]
 by_cases h:0≤n∧n<100
 ·rw[aj h,aik h.1 h.2];rfl
 ·rw[ak h,aj ⟨h0,h1⟩];rfl
theorem Vu {l:List UInt8} {v:Int} (hl:l.length≤1000000) (h:Lib.atoiAll l=.ok v):aw AP (.fn 82) [S (tx l)] s=some (.tuple [I v,.v .nilIface],s):=by
 rw[xj (show AP 82=some zV from rfl)]
 simp only[ie,jW,vf,dI,dJ,DZ]
 rw[aj (by rw[pQ];exact hl),Dr,h];rfl
theorem af2 {l:List UInt8} (hl:l.length≤1000000) (h:∀v,Lib.atoiAll l≠.ok v):∃n,aw AP (.fn 82) [S (tx l)] s=some (.tuple [I n,.qF],s):=by
 rw[xj (show AP 82=some zV from rfl)]
 simp only[ie,jW,vf,dI,dJ,DZ]
 rw[aj (by rw[pQ];exact hl),Dr]
 cases e:Lib.atoiAll l
 ·exact absurd e (h _)
 ·exact⟨_,rfl⟩
 ·exact⟨_,rfl⟩
theorem K6:pg .iface (.v .nilIface) (.v .nilIface)=some true:=rfl
theorem aiG:pg .iface .qF (.v .nilIface)=some false:=rfl
theorem TE {l:List UInt8} (hl:l.length≤1000000):∃n,aw AP (.fn 50) [S (tx l)] s=some (.tuple [I n,B (bZ l).isSome],s)∧∀v,bZ l=some v→n=v:=by
 cases e:bZ l with
 |some v=>
  obtain⟨v0,v1,v2,v3,v4,_,_⟩:=S0 e
  have h1:∀q:ae,aw AP (.fn 82) [S (tx l)] q=some (.tuple [I v,.v .nilIface],q):=fun q=>Vu hl (atH e)
  have h2:∀q:ae,aw AP (.fn 52) [I v] q=some (S (tx l),q):=fun q=>by rw[HY (by omega) (by omega),v2]
  have d:decide (0≤v)=true:=by simp[v0]
  have d2:decide (((tx l).size:Int)≤4)=true:=by rw[pQ];simp only[fB];omega
  refine⟨v,?_,fun u hu=>by injection hu⟩
  rw[aG (show AP 50=some yT from rfl) rfl]
  simp only[go_sem,A4,K6,h1,h2,d,d2,simprocAttr];rfl
 | none =>
  by_cases ha:∃v,Lib.atoiAll l=.ok v
  ·obtain⟨v,hv⟩:=ha
   have hb:=Lib.atoiAll_bounds hv
   have h1:∀q:ae,aw AP (.fn 82) [S (tx l)] q=some (.tuple [I v,.v .nilIface],q):=fun q=>Vu hl hv
   have h2:∀q:ae,aw AP (.fn 52) [I v] q=some (S (tx (Lib.itoa v)),q):=fun q=>HY hb.1 hb.2
   refine⟨v,?_,fun u hu=>by cases hu⟩
   rw[aG (show AP 50=some yT from rfl) rfl]
   by_cases h0:0≤v
   ·have d:decide (0≤v)=true:=by simp[h0]
    by_cases hi:Lib.itoa v=l
    ·have d1:decide (tx (Lib.itoa v)=tx l)=true:=by rw[hi];simp
     have d2:decide (((tx l).size:Int)≤4)=false:=by
      rw[pQ]
      simp only[tN]
      intro h
      have:=abE h0 (by rw[hi];omega)
      rw[hi,e]at this
      cases this
     simp only[go_sem,A4,K6,h1,h2,d,d1,d2,simprocAttr];rfl
    ·have d1:decide (tx (Lib.itoa v)=tx l)=false:=by simp only[tN];exact fun h=>hi (ad7 h)
     simp only[go_sem,A4,K6,h1,h2,d,d1,simprocAttr];rfl
   ·have d:decide (0≤v)=false:=by simp[h0]
    simp only[go_sem,A4,K6,h1,d,simprocAttr];rfl
  ·obtain⟨n,h1⟩:=af2 (s:=s.push ⟨[],[]⟩) hl (fun v hv=>ha ⟨v,hv⟩)
   refine⟨n,?_,fun u hu=>by cases hu⟩
   rw[aG (show AP 50=some yT from rfl) rfl]
   simp only[go_sem,A4,aiG,h1,simprocAttr];rfl
end
abbrev qH (b:List UInt8):List AV:=[S (tx b)]
theorem Dn {c:UInt8}:∀{l:List UInt8},cd c l≠[]
 |[]=>by simp[cd]
 |x::r=>by
  rw[cd]
  split
  ·simp
  ·split<;>simp
def oj (c:UInt8) (pre l:List UInt8):List (List UInt8):=match cd c l with
 |h::t=>(pre++h)::t
 |[]=>[]
theorem wu {c:UInt8} {l:List UInt8}:oj c [] l=cd c l:=by
 unfold oj
 cases h:cd c l with
 |nil=>rfl
 |cons a r=>rfl
theorem IC {c:UInt8} {pre r:List UInt8}:oj c pre (c::r)=pre::oj c [] r:=by
 rw[wu];unfold oj;rw[cd,aj rfl];simp
theorem adB {c x:UInt8} {pre r:List UInt8} (h:x≠c):oj c pre (x::r)=oj c (pre++[x]) r:=by
 unfold oj
 rw[cd,ak h]
 cases hs:cd c r with
 |nil=>exact absurd hs Dn
 |cons a t=>simp
theorem adA {c:UInt8} {pre:List UInt8}:oj c pre []=[pre]:=by unfold oj;rw[cd];simp
theorem adx {c:UInt8}:∀{l:List UInt8},(cd c l).length≤l.length+1
 |[]=>by simp[cd]
 | x :: r => by
  have ih:=adx (c:=c) (l:=r)
  rw[cd]
  split
  ·simp only[cH];omega
  ·cases hs:cd c r with
   |nil=>simp
   |cons a t=>rw[hs]at ih;simp only[cH]at ih⊢;omega
theorem IB {c:UInt8}:∀{l:List UInt8},∀x∈cd c l,x.length≤l.length
 |[],x,h=>by simp[cd]at h;subst h;simp
 | y :: r, x, h => by
  rw[cd]at h
  split at h
  ·rcases dr.1 h with h|h
   ·subst h;simp
   ·have:=IB x h;simp only[cH];omega
  ·cases hs:cd c r with
   |nil=>exact absurd hs Dn
   | cons a t =>
    rw[hs]at h
    rcases dr.1 h with h|h
    ·subst h
     have:=IB (c:=c) (l:=r) a (by rw[hs];simp)
     simp only[cH];omega
    ·have:=IB (c:=c) (l:=r) x (by rw[hs];exact cD _ h)
     simp only[cH];omega
section
variable{s:ae} {w:W}
theorem ad6 {l:List UInt8} {a b:Nat}:(tx l).extract a b=tx ((l.take b).drop a):=by
 apply IQ
 apply Array.ext'
 simp only[tx,ByteArray.data_extract,Array.toList_extract]
 rw[List.drop_take]
theorem axK {l:List UInt8} {a:Nat} (h:a≤l.length):fQ .str (S (tx l)) (some (I a)) none none=some (S (tx (l.drop a))):=by
 have h1:iU none false (tx l).size (tx l).size=some (tx l).size:=rfl
 have h2:iq (some (I a)) (tx l).size=some a:=by
  simp only[iq,asNat];rw[aj ⟨by omega,by rw[pQ];omega⟩];simp
 simp only[fQ]
 rw[h1,dI,h2,dJ,ad6,pQ,er]
 rfl
theorem axL {l:List UInt8} {b:Nat} (hb:b≤l.length):fQ .str (S (tx l)) none (some (I b)) none=some (S (tx (l.take b))):=by
 have h1:iU (some (I b)) false (tx l).size (tx l).size=some b:=by
  simp only[iU,asNat];rw[aj ⟨by omega,by rw[pQ];omega⟩];simp
 have h2:iq none b=some 0:=rfl
 simp only[fQ]
 rw[h1,dI,h2,dJ,ad6,iK]
 rfl
end
def fa:List (List UInt8)→Option (List Int)
 |[]=>some []
 |x::r=>match bZ x,fa r with
  |some v,some t=>some (v::t)
  |_,_=>none
def hY (q st:Int) (as:List Int):P:=⟨q,st,fJ 1 as⟩
def n5 (l:List UInt8):Option P:=match cd 43 l with
 |[]=>none
 | p0 :: ps => match cd 64 p0 with
  |[a,b]=>match bZ a,bZ b,fa ps with
   |some q,some st,some as=>some (hY q st as)
   |_,_,_=>none
  |_=>none
theorem abF:∀{l:List (List UInt8)} {x:List UInt8},fa (l++[x])=match fa l,bZ x with
  |some t,some v=>some (t++[v])
  |_,_=>none
 |[],x=>by simp only[gL,fa];cases bZ x<;>rfl
 |y::l,x=>by
  simp only[fZ,fa,abF (l:=l)]
  cases bZ y<;>cases fa l<;>cases bZ x<;>rfl
section
variable{s:ae} {w:W}
theorem Acc.v {as:List Int} {d:Nat} {x:AV} {og:Option Nat} {tk:List (Option Nat)}:bB 1 (as.map aC)=(fJ 1 as).v aC:=uR
end
def nj:List (List UInt8)→Option (List P)
 |[]=>some []
 |x::r=>match n5 x,nj r with
  |some v,some t=>some (v::t)
  |_,_=>none
def Da:Option (List P)→List P×Int
 |none=>([],7)
 |some ps=>if 12<ps.length then([],8)else(ps,0)
def Ih (l:List UInt8):List P×Int:=
 if 60000<l.length then([],8)else
 if l=[]then([],0)else
 Da (nj (cd 32 l))
section
variable{s:ae} {w:W}
end
theorem IA {c:UInt8}:∀{l:List UInt8},c∉l→cd c l=[l]
 |[],_=>rfl
 |x::r,h=>by
  have hx:x≠c:=fun e=>h (by simp[e])
  have hr:c∉r:=fun e=>h (cD _ e)
  rw[cd,ak hx,IA hr]
theorem wv {c:UInt8} {b:List UInt8}:∀{a pre:List UInt8},c∉a→oj c pre (a++b)=oj c (pre++a) b
 |[],pre,_=>by simp
 |x::r,pre,h=>by
  have hx:x≠c:=fun e=>h (by simp[e])
  have hr:c∉r:=fun e=>h (cD _ e)
  rw[fZ,adB hx,wv hr,gK];rfl
theorem ady {c:UInt8}:∀{l:List UInt8},c∈l→∃a b t,cd c l=a::b::t
 | x :: r, h => by
  rw[cd]
  by_cases hx:x=c
  ·rw[aj hx]
   cases hs:cd c r with
   |nil=>exact absurd hs Dn
   |cons b t=>exact⟨[],b,t,rfl⟩
  ·rw[ak hx]
   have hr:c∈r:=by
    rcases dr.1 h with h|h
    ·exact absurd h.symm hx
    ·exact h
   obtain⟨a,b,t,e⟩:=ady hr
   rw[e];exact⟨_,_,_,rfl⟩
theorem XG {c:UInt8}:∀{l:List UInt8},c∉l→eN c l=(l,[],false)
 |[],_=>rfl
 |x::r,h=>by
  have hx:x≠c:=fun e=>h (by simp[e])
  have hr:c∉r:=fun e=>h (cD _ e)
  rw[eN,ak hx,XG hr]
theorem XE {c:UInt8} {b:List UInt8}:∀{a:List UInt8},c∉a→eN c (a++c::b)=(a,b,true)
 |[],_=>by rw[gL,eN,aj rfl]
 |x::r,h=>by
  have hx:x≠c:=fun e=>h (by simp[e])
  have hr:c∉r:=fun e=>h (cD _ e)
  rw[fZ,eN,ak hx,XE hr]
theorem SR {c:UInt8}:∀{l:List UInt8},c∈l→∃a b,l=a++c::b∧c∉a
 | x :: r, h => by
  by_cases hx:x=c
  ·exact⟨[],r,by rw[hx];rfl,by simp⟩
  ·have hr:c∈r:=by
    rcases dr.1 h with h|h
    ·exact absurd h.symm hx
    ·exact h
   obtain⟨a,b,e,hn⟩:=SR hr
   refine⟨x::a,b,by rw[e];rfl,fun h=>?_⟩
   rcases dr.1 h with h|h
   ·exact hx h.symm
   ·exact hn h
theorem abD {l:List UInt8} {c:UInt8} (h:c∈l) (hc:pH c=false):bZ l=none:=by
 cases e:bZ l with
 |none=>rfl
 |some v=>
  obtain⟨_,_,_,_,_,_,h6⟩:=S0 e
  rw[jh.1 h6 c h]at hc
  cases hc
def zX (l:List UInt8):Option P:=match cd 43 (eN 64 l).2.1 with
 |[]=>none
 | p0 :: ps => match bZ (eN 64 l).1, bZ p0, fa ps with
   |some q,some st,some as=>some (hY q st as)
   |_,_,_=>none
theorem avc {l : List UInt8} : zX l = n5 l := by
 unfold zX n5
 by_cases h:(64:UInt8)∈l
 ·obtain⟨a,b,rfl,ha⟩:=SR h
  rw[XE ha]
  show(match cd 43 b with|[]=>none|p0::ps=>match bZ a,bZ p0,fa ps with|some q,some st,some as=>some (hY q st as)|_,_,_=>none)=_
  by_cases hp:(43:UInt8)∈a
  ·rw[abD hp (by decide)]
   obtain⟨a1,a2,rfl,cp⟩:=SR hp
   have e:cd 43 ((a1++43::a2)++64::b)=a1::oj 43 [] (a2++64::b):=by
    rw[gK,←wu,wv cp,fZ,IC,gL]
   rw[e]
   have e2:cd 64 a1=[a1]:=IA fun h=>ha (by simp[h])
   show _=(match cd 64 a1 with|[a,b]=>_|_=>none)
   rw[e2]
   cases cd 43 b with
   |nil=>rfl
   |cons p0 ps=>cases bZ p0<;>cases fa ps<;>rfl
  ·cases hb:cd 43 b with
   |nil=>exact absurd hb Dn
   | cons h0 t =>
    have e:cd 43 (a++64::b)=(a++64::h0)::t:=by
     rw[←wu,wv hp,adB (by decide)]
     unfold oj
     rw[hb];simp
    rw[e]
    show _=(match cd 64 (a++64::h0)with|[a,b]=>_|_=>none)
    have e2:cd 64 (a++64::h0)=a::cd 64 h0:=by
     rw[←wu,wv ha,IC,wu,gL]
    rw[e2]
    by_cases hh:(64:UInt8)∈h0
    ·obtain⟨x,y,z,e3⟩:=ady hh
     rw[e3]
     show(match bZ a,bZ h0,fa t with|some q,some st,some as=>some (hY q st as)|_,_,_=>none)=none
     rw[abD hh (by decide)]
     cases bZ a<;>cases fa t<;>rfl
    ·rw[IA hh];try rfl
 ·rw [XG h]
  show(match cd 43 []with|[]=>none|p0::ps=>match bZ l,bZ p0,fa ps with|some q,some st,some as=>some (hY q st as)|_,_,_=>none)=_
  have e0:cd 43 []=[[]]:=rfl
  rw[e0]
  have e1:bZ []=none:=rfl
  show(match bZ l,bZ [],fa []with|some q,some st,some as=>some (hY q st as)|_,_,_=>none)=_
  rw[e1]
  have e2:(match bZ l,(none:Option Int),fa []with|some q,some st,some as=>some (hY q st as)|_,_,_=>none)=none:=by cases bZ l<;>rfl
  rw[e2]
  cases hs:cd 43 l with
  |nil=>rfl
  | cons p0 ps =>
   have hn : (64 : UInt8) ∉ p0 := by
    intro hm
    apply h
    have : ∀ (l : List UInt8) (x : List UInt8), x ∈ cd 43 l → ∀ c ∈ x, c ∈ l := by
     intro l
     induction l with
     |nil=>intro x hx c hc;simp[cd]at hx;subst hx;simp at hc
     | cons y r ih =>
      intro x hx c hc
      rw[cd]at hx
      split at hx
      ·rcases dr.1 hx with hx|hx
       ·subst hx;simp at hc
       ·exact cD _ (ih x hx c hc)
      ·cases hr:cd 43 r with
       |nil=>exact absurd hr Dn
       | cons a t =>
        rw[hr]at hx ih
        rcases dr.1 hx with hx|hx
        ·subst hx
         rcases dr.1 hc with hc|hc
         ·simp[hc]
         ·exact cD _ (ih a (by simp) c hc)
        ·exact cD _ (ih x (cD _ hx) c hc)
    exact this l p0 (by rw[hs];simp) _ hm
   show none=(match cd 64 p0 with|[a,b]=>_|_=>none)
   rw[IA hn]
theorem afA {s:ae} {bs:List (List AV)} {tk:List (Option Nat)} {es n b:Nat} {o:Own} {row r2:List AV} (hb:bs[b]? =some row) (hl:row.length=n*es) (hn:0<n) (hm:n+1≤4294967296):
  mO (s.push ⟨bs,tk⟩) es (.aN s.ag.length b 0 es n 0) (.slice o es [r2])=some (.aN s.ag.length bs.length 0 es (n+1) 0,s.push ⟨bs.set b []++[row++r2],tk++[none]⟩):=by
 have tZ:(s.push ⟨bs,tk⟩).box s.ag.length b=some row:=by rw[ib];exact hb
 have RO:(s.push ⟨bs,tk⟩).sX b (row++r2)=s.push ⟨bs.set b []++[row++r2],tk++[none]⟩:=by
  unfold ae.sX
  rw[gD,vZ]
 simp[mO,dD,gD,vW,hn,hm,tZ,hl,RO]
theorem as5 {d b off es n cap:Nat}:oR false (.aN d b off es n cap)=some (I (n:Int)):=rfl
theorem Sp {d b es n:Nat} {i:Nat} (h:i<n):gR none es (.aN d b 0 es n 0) (I (i:Int))=some (.ptr d b (0+i*es)):=by
 have h1:idx (I (i:Int)) n=some i:=by simp[idx];omega
 simp[gR,h1]
theorem atq {s:ae} {bs:List (List AV)} {tk:List (Option Nat)}:yh (s.push ⟨bs,tk⟩) 1 [B false] (I 2) (I 2)=some (.aN s.ag.length bs.length 0 1 2 0,s.push ⟨bs++[[B false,B false]],tk⟩):=by
 have h1:asNat (I 2) dD=some 2:=by simp[asNat,dD]
 have h2:asNat (I 2) 2=some 2:=by simp[asNat]
 simp only[yh,h1,h2,dI]
 simp[gD,vW,MR,List.replicate]
theorem Acc.more {d es:Nat} {xs:List (List AV)} {x:AV} {og:Option Nat} {tk t2:List (Option Nat)} (h:Acc d es xs x og tk):Acc d es xs x og (tk++t2):=by
 cases og with
 |none=>exact h
 |some g=>
  obtain⟨h1,h2,h3⟩:=h
  exact⟨h1,h2,by rw[dG (bI.1 h3).1];exact h3⟩
theorem W5 {f:FuncId} {np nt:Nat} {b:au} {rs:List iy} {own:Bool} (hf:AP f=some (.code np nt b rs own)) {as:List AV} {m:ae} (hl:as.length=np) (hm:m.ro<m.ag.length):
  aw AP (.inl f) as m=go AP (fun e st=>match e with|.exit _=>none|_=>(yi st rs).map fun l=>(packed l,st.sig)) [.c b] ⟨jm as,m⟩:=by
 rw[ahb hf,aj ⟨hl,hm⟩]
 simp only[go,iS]
 cases h:fF AP b ⟨jm as,m⟩with
 |none=>rfl
 |some p=>obtain⟨e,aM⟩:=p;cases e<;>rfl
section
variable{s:ae} {w:W}
theorem azn {m:ae} {d b n:Nat} {bs:List Bool} (hb:m.box d b=some (bs.map fun x=>B x)) (hd:d<m.ag.length) (hn:bs.length=n) (hl:n≤1000000):
  aw AP (.fn 83) [.aN d b 0 1 n 0,B false] m=some (I (eY (fun x=>!x) bs),m):=by
 subst hn
 have key : ∀ k ρ q, k ≤ bs.length → (ρ 0 = .aN d b 0 1 bs.length 0 ∧ ρ 1 = B false ∧ ρ 7 = I bs.length ∧ ρ 8 = I k ∧ (∀ (j : Nat) x, j < k → bs[j]? = some x → (!x) = false) ∧ q = m.push ⟨[], []⟩) → go AP Ye (.c (.loop xd) :: aaP) ⟨ρ, q⟩ = some (I (eY (fun x => !x) bs), m) := by
  refine bA bs.length _ _ ?_ ?_
  ·rintro k ρ q hk ⟨g0,g1,g7,g8,kE,rfl⟩ ih
   obtain⟨x,hx⟩:=get_some hk
   have bf:=Sp (d:=d) (b:=b) (es:=1) hk
   have cw:∀r,(m.push r).box d b=some (bs.map fun x=>B x):=fun r=>by rw[P7 hd];exact hb
   have dW:(bs.map fun x=>B x)[0+k*1]? =some (B x):=by rw[gU,wO,iL,hx];rfl
   have ur:=bh hk (show(bs.length:Int)<_ by omega)
   cases x with
   |true=>
    simp only[go_sem,xd,g0,g1,g7,g8,aL hk,bf,cw,dW,Qs,ur,simprocAttr]
    refine ih _ _ ?_
    refine⟨g0,g1,g7,rfl,fun j y hj hy=>?_,rfl⟩
    by_cases Cw:j=k
    ·subst Cw;rw[hx]at hy;injection hy with hy;rw[←hy];rfl
    ·exact kE j y (by omega) hy
   | false =>
    have hf:eY (fun x=>!x) bs=(k:Int):=by
     rcases GV (fun x=>!x) bs with⟨h1,h2⟩|⟨h1,j,y,h2,h3,h4,h5⟩
     ·have:=qM.1 h1 false (bE hx)
      simp at this
     ·rw[h4]
      have:j=k:=by
       rcases UQ j k with h|h|h
       ·have:=kE j y h h2;rw[this]at h3;cases h3
       ·exact h
       ·have:=h5 k false h hx;simp at this
      rw[this]
    rw[hf]
    simp only[go_sem,xd,g0,g1,g7,g8,aL hk,bf,cw,dW,Qs,simprocAttr]
  ·rintro ρ q ⟨g0,g1,g7,g8,kE,rfl⟩
   have hf:eY (fun x=>!x) bs=-1:=by
    rcases GV (fun x=>!x) bs with⟨h1,h2⟩|⟨h1,j,y,h2,h3,h4,h5⟩
    ·exact h2
    ·have:=kE j y (bI.1 h2).1 h2
     rw[this]at h3;cases h3
   rw[hf]
   simp only[go_sem,xd,Kw,g7,g8,bg,simprocAttr]
 rw[aG (show AP 83=some By from rfl) rfl]
 simp only[go_sem,PT,as5,simprocAttr]
 refine key 0 _ _ (aV _) ?_
 exact⟨rfl,rfl,rfl,rfl,fun j x hj=>absurd hj (dH _),rfl⟩
theorem azg {m:ae} {d b n:Nat} {bs:List Bool} (hb:m.box d b=some (bs.map fun x=>B x)) (hd:d<m.ag.length) (hn:bs.length=n) (hl:n≤1000000):
  aw AP (.fn 51) [.aN d b 0 1 n 0,B false] m=some (B (bs.any fun x=>!x),m):=by
 have hi:∀r,aw AP (.fn 83) [.aN d b 0 1 n 0,B false] (m.push r)=some (I (eY (fun x=>!x) bs),m.push r):=fun r=>azn (by rw[P7 hd];exact hb) (aa8 hd) hn hl
 rw[aG (show AP 51=some Bw from rfl) rfl]
 have:=vk (p:=fun x=>!x) (l:=bs)
 simp only[go_sem,PL,hi,this,simprocAttr]
theorem strings_Cut {l : List UInt8} (hl : l.length ≤ 1000000) : aw AP (.fn 48) [S (tx l), S ⟨#[64]⟩] s = some (.tuple [S (tx (eN 64 l).1), S (tx (eN 64 l).2.1), B (eN 64 l).2.2], s) := by
 rw[xj (show AP 48=some C6 from rfl)]
 simp only[ie,jW,vf,dI,dJ,K1]
 show Option.map _ (if(tx l).size≤1000000 then _ else _)=_
 rw[aj (by rw[pQ];exact hl),Dr];rfl
theorem strings_Split {l : List UInt8} (hl : l.length ≤ 1000000) : aw AP (.fn 49) [S (tx l), S ⟨#[43]⟩] s = some (.slice .any 1 ((cd 43 l).map qH), s) := by
 rw[xj (show AP 49=some C9 from rfl)]
 simp only[ie,jW,vf,dI,dJ,Nd]
 show Option.map _ (if(tx l).size≤1000000 then _ else _)=_
 rw[aj (by rw[pQ];exact hl),Dr];rfl
theorem strings_Index {l : List UInt8} (hl : l.length ≤ 1000000) : aw AP (.fn 129) [S (tx l), S ⟨#[32]⟩] s = some (I (gG 32 l), s) := by
 rw[xj (show AP 129=some C7 from rfl)]
 simp only[ie,jW,vf,dI,dJ,MC]
 show Option.map _ (if(tx l).size≤1000000 then _ else _)=_
 rw[aj (by rw[pQ];exact hl),Dr];rfl
theorem aya {l : List UInt8} {a b c : List AV} (hs : Ok s) : aw AP (.inl 47) [S (tx l), S ⟨#[32]⟩] (s.push ⟨[a, b, c], []⟩) = some (.fn 127 [] [.ptr s.ag.length 4 0, .ptr s.ag.length 3 0, .ptr s.ag.length 5 0], s.push ⟨[a, b, c, [S (tx l)], [S ⟨#[32]⟩], [I 0]], []⟩) := by
 have bO:(s.push ⟨[a,b,c],[]⟩).ro<(s.push ⟨[a,b,c],[]⟩).ag.length:=by
  have:=hs.ro
  simp only[ae.push,cG,pV]
  omega
 have h2 : aw AP (.inl 79) [S (tx l), S ⟨#[32]⟩, I 0] (s.push ⟨[a, b, c], []⟩) = some (.fn 127 [] [.ptr s.ag.length 4 0, .ptr s.ag.length 3 0, .ptr s.ag.length 5 0], s.push ⟨[a, b, c, [S (tx l)], [S ⟨#[32]⟩], [I 0]], []⟩) := by
  rw[W5 (show AP 79=some F0 from rfl) rfl bO]
  simp only[go_sem,Wj,simprocAttr]
  rfl
 rw[W5 (show AP 47=some FZ from rfl) rfl bO]
 simp only[go_sem,Wi,h2,simprocAttr]
 rfl
end
abbrev n8 (e1 e2 x : AV) (rem : List UInt8) : List (List AV) := [[e1], [e2], [x], [S (tx rem)], [S ⟨#[32]⟩], [I 0]]
theorem ave {l:List UInt8} (h:zX l=none) {p0:List UInt8} {ps:List (List UInt8)} (hs:cd 43 (eN 64 l).2.1=p0::ps):(bZ (eN 64 l).1).isSome=false∨(bZ p0).isSome=false∨(fa ps).isSome=false:=by
 unfold zX at h
 rw[hs]at h
 cases h1:bZ (eN 64 l).1 with
 |none=>exact .inl rfl
 | some a =>
  cases h2:bZ p0 with
  |none=>exact .inr (.inl rfl)
  | some b =>
   cases h3:fa ps with
   |none=>exact .inr (.inr rfl)
   |some c=>
    have h:(match bZ (eN 64 l).1,bZ p0,fa ps with|some q,some st,some as=>some (hY q st as)|_,_,_=>none)=none:=h
    rw[h1,h2,h3]at h;cases h
theorem acg {l:List UInt8} {p:P} (h:zX l=some p) {p0:List UInt8} {ps:List (List UInt8)} (hs:cd 43 (eN 64 l).2.1=p0::ps):∃a b c,bZ (eN 64 l).1=some a∧bZ p0=some b∧fa ps=some c∧p=hY a b c:=by
 unfold zX at h
 rw[hs]at h
 have h:(match bZ (eN 64 l).1,bZ p0,fa ps with|some q,some st,some as=>some (hY q st as)|_,_,_=>none)=some p:=h
 cases h1:bZ (eN 64 l).1 with
 |none=>rw[h1]at h;cases h
 | some a =>
  cases h2:bZ p0 with
  |none=>rw[h1,h2]at h;cases h
  | some b =>
   cases h3:fa ps with
   |none=>rw[h1,h2,h3]at h;cases h
   |some c=>
    rw[h1,h2,h3]at h
    injection h with h
    exact⟨a,b,c,rfl,rfl,rfl,h.symm⟩
theorem XF {c:UInt8}:∀{l:List UInt8},(eN c l).1.length≤l.length∧(eN c l).2.1.length≤l.length
 |[]=>by simp[eN]
 |x::r=>by
  have ih:=XF (c:=c) (l:=r)
  rw[eN]
  split
  ·simp
  ·simp only[cH];omega
section
variable{s:ae} {w:W}
theorem avK {A row r2:List AV} {k:Nat}:(A::(List.replicate k []++[row])).set (k+1) []++[r2]=A::(List.replicate (k+1) []++[r2]):=by
 rw[NX,Ay _ _ (by simp),I1,DQ,DJ,UI]
 simp
theorem acr {A row:List AV} {k:Nat}:(A::(List.replicate k []++[row]))[k+1]? =some row:=by
 rw[IY,jy (by simp),I1,DQ];rfl
theorem avI {Q : ae} {l : Nat} {ps : List (List UInt8)} {q1 q2 : Int} {o1 o2 : Bool} {o' : Own} {p2 p3 p4 : AV} {R : Option (AV × ae) → Prop} (hQ : Ok Q) (gn : ∀ x ∈ ps, x.length ≤ 100000) (qt : ps.length ≤ 100000)
    (fin:∀(ρ:Nat→AV) (as:List Int) (nY:List Bool) (xa:AV) (og:Option Nat) (tk:List (Option Nat)),(ρ 2=p2∧ρ 3=p3∧ρ 4=p4)→ρ 10=.ptr Q.ag.length 0 0→ρ 11=.aN Q.ag.length (ps.length+1) 0 1 (ps.length+2) 0→nY=o1::o2::ps.map (fun x=>(bZ x).isSome)→(∀bs,fa ps=some bs→as=bs)→Acc Q.ag.length 1 (as.map aC) xa og tk→
      R (go AP (jC l) MH ⟨ρ,Q.push ⟨[I q1,I q2,xa]::(List.replicate ps.length []++[nY.map fun b=>B b]),tk⟩⟩)):
    ∀ (k : Nat) ρ m, k ≤ ps.length → ((ρ 2 = p2 ∧ ρ 3 = p3 ∧ ρ 4 = p4) ∧ ρ 10 = .ptr Q.ag.length 0 0 ∧ ρ 11 = .aN Q.ag.length (k + 1) 0 1 (k + 2) 0 ∧ ρ 52 = .slice o' 1 (ps.map qH) ∧ ρ 53 = I ps.length ∧ ρ 54 = I k ∧
      ∃(as:List Int) (xa:AV) (og:Option Nat) (tk:List (Option Nat)),as.length=k∧(∀bs,fa (ps.take k)=some bs→as=bs)∧Acc Q.ag.length 1 (as.map aC) xa og tk∧m=Q.push ⟨[I q1,I q2,xa]::(List.replicate k []++[(o1::o2::(ps.take k).map (fun x=>(bZ x).isSome)).map fun b=>B b]),tk⟩)→
      R (go AP (jC l) (.c (.loop Et)::MH) ⟨ρ,m⟩):=by
  have key:=SJ (AP:=AP) (F:=jC l) (L:=Et) (ks:=MH) ps.length (fun k ρ m=>(ρ 2=p2∧ρ 3=p3∧ρ 4=p4)∧ρ 10=.ptr Q.ag.length 0 0∧ρ 11=.aN Q.ag.length (k+1) 0 1 (k+2) 0∧ρ 52=.slice o' 1 (ps.map qH)∧ρ 53=I ps.length∧ρ 54=I k∧
      ∃(as:List Int) (xa:AV) (og:Option Nat) (tk:List (Option Nat)),as.length=k∧(∀bs,fa (ps.take k)=some bs→as=bs)∧Acc Q.ag.length 1 (as.map aC) xa og tk∧m=Q.push ⟨[I q1,I q2,xa]::(List.replicate k []++[(o1::o2::(ps.take k).map (fun x=>(bZ x).isSome)).map fun b=>B b]),tk⟩) R ?_ ?_
  · exact key
  · rintro k ρ m hk ⟨g0, g10, g11, QN, BZ, QO, as, xa, og, tk, hlen, has, hA, rfl⟩ ih
    obtain⟨wd,Mr⟩:=get_some hk
    have HL:=gn wd (bE Mr)
    have hr:=cz (f:=qH) (o:=o') (es:=1) Mr
    obtain⟨n,oL,dK⟩:=TE (s:=Q.push ⟨[I q1,I q2,xa]::(List.replicate k []++[(o1::o2::(ps.take k).map (fun x=>(bZ x).isSome)).map fun b=>B b]),tk⟩) (l:=wd) (by omega)
    obtain⟨x',bQ,tk',cp,di,_⟩:=hA.append hQ .full (ys:=[[I n]]) (by simp) (by simp;omega)
    have lK:=afA (s:=Q) (bs:=[I q1,I q2,xa]::(List.replicate k []++[(o1::o2::(ps.take k).map (fun x=>(bZ x).isSome)).map fun b=>B b])) (tk:=tk') (es:=1) (n:=k+2) (b:=k+1) (o:=.full) (r2:=[B (bZ wd).isSome]) acr (by simp;omega) (by omega) (by omega)
    rw[avK]at lK
    have db:([I q1,I q2,xa]::(List.replicate k []++[(o1::o2::(ps.take k).map (fun x=>(bZ x).isSome)).map fun b=>B b])).length=k+1+1:=by simp
    rw[db]at lK
    have ur:=bh hk (show(ps.length:Int)<_ by omega)
    have ang:(o1::o2::(ps.take (k+1)).map (fun x=>(bZ x).isSome)).map (fun b=>B b)=(o1::o2::(ps.take k).map (fun x=>(bZ x).isSome)).map (fun b=>B b)++[B (bZ wd).isSome]:=by rw[du Mr];simp
    have akN:∀bs,fa (ps.take (k+1))=some bs→as++[n]=bs:=by
      intro bs kt
      rw[du Mr,abF]at kt
      cases h1:fa (ps.take k)with
      |none=>rw[h1]at kt;cases kt
      | some t =>
        cases h2:bZ wd with
        |none=>rw[h1,h2]at kt;cases kt
        | some v =>
          rw[h1,h2]at kt
          injection kt with kt
          rw[←kt,has t h1,dK v h2]
    obtain⟨o2',jB,Tv,rfl⟩:=Acc.sl di
    obtain⟨ox,ex,rx,rfl⟩:=Acc.sl hA
    generalize aAX:(o1::o2::(ps.take k).map (fun x=>(bZ x).isSome)).map (fun b=>B b)=azL at*
    simp only[qH]at hr
    simp only[go_sem,Et,g10,g11,QN,BZ,QO,hQ,aL hk,hr,oL,cp,lK,ur,simprocAttr]
    refine ih _ _ ?_
    refine⟨g0,g10,rfl,QN,BZ,rfl,as++[n],.slice o2' jB Tv,bQ,tk'++[none],by simp[hlen],akN,?_,?_⟩
    · rw[fH];exact Acc.more di
    · rw[ang]
  · rintro ρ m ⟨g0, g10, g11, QN, BZ, QO, as, xa, og, tk, hlen, has, hA, rfl⟩
    rw[er]at has
    simp only[go_sem,Et,BZ,QO,bg,simprocAttr]
    rw[er]
    refine fin _ as (o1::o2::ps.map (fun x=>(bZ x).isSome)) xa og tk ?_ ?_ ?_ rfl has hA
    · exact g0
    · exact g10
    · exact g11
theorem afv {o1 o2:Bool} {ps:List (List UInt8)}:((o1::o2::ps.map (fun x=>(bZ x).isSome)).any fun x=>!x)=!(o1&&o2&&(fa ps).isSome):=by
 have h:∀{ps:List (List UInt8)},((ps.map (fun x=>(bZ x).isSome)).any fun x=>!x)=!(fa ps).isSome:=by
  intro ps
  induction ps with
  |nil=>rfl
  |cons x r ih=>
   rw[fR,ke,ih]
   simp only[fa]
   cases bZ x<;>cases fa r<;>rfl
 rw[ke,ke,h]
 cases o1<;>cases o2<;>simp
theorem avJ {X T:Rec→ae} {l d:Nat} {ρ:Nat→AV} {r:Rec} {wd rem:List UInt8} {x:AV} {og:Option Nat} {dn:List P} (hM:fu X d) (hX:∀r,busy l (T r)=X r) (hR:∀r,kS l ⟨true,none,ρ,[23],uW,uY⟩ (T r)) (bz:∀r,Ok (T r))
  (h2:ρ 2=.ptr d 0 0) (h3:ρ 3=.ptr d 1 0) (h4:ρ 4=.ptr d 2 0) (hd:dn.length<1000000) (hw:wd.length≤100000)
  (hb:r.boxes=n8 (.slice .aA 0 []) (I 0) x rem) (hA:Acc d 3 (dn.map aq) x og r.toks):
  (∀p,n5 wd=some p→∃r' x' bQ,aw AP (.yield l) [S (tx wd)] (T r)=some (.v (.bool true),T r')∧r'.boxes=n8 (.slice .aA 0 []) (I 0) x' rem∧Acc d 3 ((dn++[p]).map aq) x' bQ r'.toks)∧
  (n5 wd=none→∃r',aw AP (.yield l) [S (tx wd)] (T r)=some (.v (.bool false),over l .ret (T r'))∧r'.boxes=n8 (.slice .aA 0 []) (I 7) x rem):=by
 have nI:∀r ρ' q,jC l .normal ⟨ρ',(X r).push q⟩=some (.v (.bool true),T r):=fun r ρ' q=>by rw[←hX];exact GU (hR r)
 have amm:∀r ρ' q,jC l .ret ⟨ρ',(X r).push q⟩=some (.v (.bool false),over l .ret (T r)):=fun r ρ' q=>by rw[←hX];exact Yk
 have xV:∀r,Ok (X r):=fun r=>by rw[←hX];exact(bz r).busy
 have xK:∀r,(T r).ag.length=(X r).ag.length:=fun r=>by rw[←hX];rfl
 have k2:∀q,((X r).push q).box d 2=some [x]:=fun q=>by rw[hM.box,hb];rfl
 have st0:∀q,((X r).push q).store 1 (.ptr d 0 0) (.slice .aA 0 [])=some ((X ⟨r.boxes.set 0 [.slice .aA 0 []],r.toks⟩).push q):=fun q=>
  hM.store (r:=r) (r0:=q) (b:=0) (off:=0) (n:=1) (y:=.slice .aA 0 []) (by rfl) (by rfl) (row:=[.slice .aA 0 []]) (row':=[.slice .aA 0 []]) (by rw[hb];rfl) rfl
 have cZ:∀q,((X ⟨r.boxes.set 0 [.slice .aA 0 []],r.toks⟩).push q).store 1 (.ptr d 1 0) (I 7)=some ((X ⟨(r.boxes.set 0 [.slice .aA 0 []]).set 1 [I 7],r.toks⟩).push q):=fun q=>
  hM.store (r:=⟨r.boxes.set 0 [.slice .aA 0 []],r.toks⟩) (r0:=q) (b:=1) (off:=0) (n:=1) (y:=I 7) (by rfl) (by rfl) (row:=[I 0]) (row':=[I 7]) (by rw[hb];rfl) rfl
 have aB:d<(X r).ag.length:=hM.lt r
 have hc : ∀ q, aw AP (.fn 48) [S (tx wd), S ⟨#[64]⟩] ((X r).push q) = some (.tuple [S (tx (eN 64 wd).1), S (tx (eN 64 wd).2.1), B (eN 64 wd).2.2], (X r).push q) := fun q => strings_Cut (by omega)
 have aQ:=XF (c:=64) (l:=wd)
 have anu:∀p0 ps,cd 43 (eN 64 wd).2.1=p0::ps→(n5 wd).isSome=((bZ (eN 64 wd).1).isSome&&(bZ p0).isSome&&(fa ps).isSome)∧∀p,n5 wd=some p→∃a b c,bZ (eN 64 wd).1=some a∧bZ p0=some b∧fa ps=some c∧p=hY a b c:=fun p0 ps h=>by
  rw[←avc]
  refine⟨?_,fun p hp=>acg hp h⟩
  cases hq:zX wd with
  |none=>
   rcases ave hq h with h|h|h
   ·rw[h];rfl
   ·rw[h,l8];rfl
   ·rw[h,l8];rfl
  |some p=>
   obtain⟨a,b,c,h1,h2,h3,_⟩:=acg hq h
   rw[h1,h2,h3];rfl
 generalize hwa:(eN 64 wd).1=wa at*
 generalize hwb:(eN 64 wd).2.1=wb at*
 generalize(eN 64 wd).2.2=wc at*
 have nS : ∀ q, aw AP (.fn 49) [S (tx wb), S ⟨#[43]⟩] ((X r).push q) = some (.slice .any 1 ((cd 43 wb).map qH), (X r).push q) := fun q => strings_Split (by omega)
 cases kY:cd 43 wb with
 |nil=>exact absurd kY Dn
 | cons p0 ps =>
  rw[kY]at nS
  obtain⟨anv,anw⟩:=anu p0 ps kY
  have rn:p0.length≤wb.length:=IB (c:=43) p0 (by rw[kY];simp)
  have amM:∀x∈ps,x.length≤100000:=fun x hx=>by have:=IB (c:=43) (l:=wb) x (by rw[kY];simp[hx]);omega
  have qt:ps.length+1≤wb.length+1:=by have:=adx (c:=43) (l:=wb);rw[kY]at this;simpa using this
  obtain⟨q1,uj,vK⟩:=TE (s:=(X r).push ⟨[[I 0,I 0,.slice .aA 0 []],[B false,B false]],[]⟩) (l:=wa) (by omega)
  obtain⟨q2,CM,Mk⟩:=TE (s:=(X r).push ⟨[[I q1,I 0,.slice .aA 0 []],[B (bZ wa).isSome,B false]],[]⟩) (l:=p0) (by omega)
  have iF:gR none 1 (.slice .any 1 (((p0::ps)).map qH)) (I 0)=some (.bd (qH p0) 0):=cz (f:=qH) (o:=.any) (es:=1) (l:=p0::ps) (k:=0) rfl
  have nU:gR none 1 (.aN (X r).ag.length 1 0 1 2 0) (I 0)=some (.ptr (X r).ag.length 1 0):=Sp (i:=0) (by omega)
  have sN:gR none 1 (.aN (X r).ag.length 1 0 1 2 0) (I 1)=some (.ptr (X r).ag.length 1 1):=Sp (i:=1) (by omega)
  obtain⟨o',nN⟩:=TN (f:=qH) (o:=.any) (es:=1) (l:=p0::ps) (k:=1) (by simp)
  have mZ:∀bs tk,yh ((X r).push ⟨bs,tk⟩) 1 [B false] (I 2) (I 2)=some (.aN (X r).ag.length bs.length 0 1 2 0,(X r).push ⟨bs++[[B false,B false]],tk⟩):=fun bs tk=>atq
  have body:∀(R:Option (AV×ae)→Prop),(∀(ρ':Nat→AV) (as:List Int) (nY:List Bool) (xa:AV) (og:Option Nat) (tk:List (Option Nat)),(ρ' 2=.ptr d 0 0∧ρ' 3=.ptr d 1 0∧ρ' 4=.ptr d 2 0)→ρ' 10=.ptr (X r).ag.length 0 0→ρ' 11=.aN (X r).ag.length (ps.length+1) 0 1 (ps.length+2) 0→nY=(bZ wa).isSome::(bZ p0).isSome::ps.map (fun x=>(bZ x).isSome)→(∀bs,fa ps=some bs→as=bs)→Acc (X r).ag.length 1 (as.map aC) xa og tk→
    R (go AP (jC l) MH ⟨ρ',(X r).push ⟨[I q1,I q2,xa]::(List.replicate ps.length []++[nY.map fun b=>B b]),tk⟩⟩))→R (aw AP (.yield l) [S (tx wd)] (T r)):=by
   intro R aml
   have hn:=avI (l:=l) (o':=o') (xV r) amM (by omega) aml 0
   rw[BF (hR r) rfl]
   have CG:fQ (.sl 1) (.slice .any 1 ((p0::ps).map qH)) (some (I 1)) none none=some (.slice o' 1 (ps.map qH)):=nN
   simp only[fR,qH]at iF nS CG
   simp only[go_sem,uW,xv (hR r),wj,simprocAttr]
   simp only[go_sem,uY,hX,xV,hc,nS,mZ,uj,CM,iF,nU,sN,CG,simprocAttr]
   refine hn _ _ (aV _) ?_
   refine⟨⟨h2,h3,h4⟩,rfl,rfl,rfl,rfl,rfl,[],.slice .aA 0 [],none,[],rfl,fun bs h=>?_,Acc.start,rfl⟩
   rw[DM]at h;simp only[fa,fI]at h;exact h
  have Zg:∀(nY:List Bool) (xa:AV) (tk:List (Option Nat)) (oo:Bool),nY=(bZ wa).isSome::(bZ p0).isSome::ps.map (fun x=>(bZ x).isSome)→oo=!(n5 wd).isSome→aw AP (.fn 51) [.aN (X r).ag.length (ps.length+1) 0 1 (ps.length+2) 0,B false] ((X r).push ⟨[I q1,I q2,xa]::(List.replicate ps.length []++[nY.map fun b=>B b]),tk⟩)=some (B oo,(X r).push ⟨[I q1,I q2,xa]::(List.replicate ps.length []++[nY.map fun b=>B b]),tk⟩):=by
   intro nY xa tk oo ho hoo
   rw[azg (bs:=nY) (by rw[ib];exact acr) aa9 (by rw[ho];simp) (by omega),ho,afv,hoo,anv]
  refine⟨fun p hp=>?_,fun hp=>?_⟩
  ·obtain⟨a,b,c,e1,e2,e3,rfl⟩:=anw p hp
   refine body (fun R=>∃r' x' bQ,R=some (.v (.bool true),T r')∧r'.boxes=n8 (.slice .aA 0 []) (I 0) x' rem∧Acc d 3 ((dn++[hY a b c]).map aq) x' bQ r'.toks) ?_
   rintro ρ' as nY xa fb tk ⟨g2,g3,g4⟩ g10 g11 ho has vo
   have vw:=Zg nY xa tk false ho (by rw[hp];rfl)
   have hmp:hY a b c=hY q1 q2 as:=by rw[vK a e1,Mk b e2,has c e3]
   rw[hmp]
   have kG:xa.close=some ((fJ 1 as).v aC):=by rw[vo.close,uR]
   generalize(List.replicate ps.length []++[nY.map fun b=>B b])=bs at vw⊢
   obtain⟨x1,m1,Dh,x',bQ,tk',a1,a2,a3,a4,a5,a6⟩:=hM.append (r0:=⟨[I q1,I q2,xa]::bs,tk⟩) hA .full (ys:=[aq (hY q1 q2 as)]) (by simp) (by simp;omega) (b:=2) (by rw[hb];simp) ⟨x,by rw[hb];rfl⟩
   obtain⟨ox,ex,rx,rfl⟩:=Acc.sl vo
   refine⟨⟨r.boxes.set 2 [x'],tk'⟩,x',bQ,?_,by rw[hb];rfl,by rw[fH];exact a4⟩
   simp only[aq,Sl.v,hY]at a1 a2 kG
   simp only[go_sem,J8,g4,g10,g11,vw,k2,kG,a1,a2,nI,simprocAttr]
  ·refine body (fun R=>∃r',R=some (.v (.bool false),over l .ret (T r'))∧r'.boxes=n8 (.slice .aA 0 []) (I 7) x rem) ?_
   rintro ρ' as nY xa fb tk ⟨g2,g3,g4⟩ g10 g11 ho has vo
   have vw:=Zg nY xa tk true ho (by rw[hp];rfl)
   refine⟨⟨(r.boxes.set 0 [.slice .aA 0 []]).set 1 [I 7],r.toks⟩,?_,by rw[hb];rfl⟩
   simp only[go_sem,J8,g2,g3,g11,vw,st0,cZ,amm,simprocAttr]
end
theorem abj {s:ae} {lp:da} (hs:Ok s):fu (fun r=>enterLoop (s.push r) lp) s.ag.length:=by
 refine⟨fun r=>?_,fun r f=>?_,fun r=>hs.ro⟩
 ·simp[enterLoop,ae.push]
 ·have:(s.ag++[r]).modify s.ag.length f=s.ag++[f r]:=gX ae.ag (vZ s r f)
  simp only[ae.bG,enterLoop,ae.push,this]
abbrev eS (s:ae) (ρ:Nat→AV) (r:Rec):ae:=enterLoop (s.push r) ⟨true,none,ρ,[23],uW,uY⟩
section
variable{s:ae} {w:W}
theorem acs {ρ:Nat→AV} {r:Rec} {wd rem:List UInt8} {x:AV} {og:Option Nat} {dn:List P} (hs:Ok s)
  (h2:ρ 2=.ptr s.ag.length 0 0) (h3:ρ 3=.ptr s.ag.length 1 0) (h4:ρ 4=.ptr s.ag.length 2 0) (hd:dn.length<1000000) (hw:wd.length≤100000)
  (hb:r.boxes=n8 (.slice .aA 0 []) (I 0) x rem) (hA:Acc s.ag.length 3 (dn.map aq) x og r.toks) (q:Rec):
  (∀p,n5 wd=some p→∃r' x' bQ,aw AP (.yield s.loops.length) [S (tx wd)] ((eS s ρ r).push q)=some (.v (.bool true),(eS s ρ r').push q)∧r'.boxes=n8 (.slice .aA 0 []) (I 0) x' rem∧Acc s.ag.length 3 ((dn++[p]).map aq) x' bQ r'.toks)∧
  (n5 wd=none→∃r',aw AP (.yield s.loops.length) [S (tx wd)] ((eS s ρ r).push q)=some (.v (.bool false),(over s.loops.length .ret (eS s ρ r')).push q)∧r'.boxes=n8 (.slice .aA 0 []) (I 7) x rem):=by
 have hM:fu (fun r=>up (busy s.loops.length (enterLoop (s.push r) ⟨true,none,ρ,[23],uW,uY⟩)) [q] []) s.ag.length:=H8 hs
 have hX:∀r,busy s.loops.length (up (eS s ρ r) [q] [])=(fun r=>up (busy s.loops.length (enterLoop (s.push r) ⟨true,none,ρ,[23],uW,uY⟩)) [q] []) r:=fun r=>IK (by simp[enterLoop,ae.push])
 have vG:∀r,over s.loops.length .ret (up (eS s ρ r) [q] [])=(over s.loops.length .ret (eS s ρ r)).push q:=fun r=>by rw[aee (by simp[enterLoop,ae.push]),←Ik]
 have:=avJ (T:=fun r=>up (eS s ρ r) [q] []) (rem:=rem) hM hX (fun r=>IL (GK (hs.push r))) (fun r=>((hs.push _).enter).up) h2 h3 h4 hd hw hb hA
 simp only[vG]at this
 simp only[←Ik]at this
 exact this
theorem Tj {x:List UInt8} {r:List (List UInt8)} {ps:List P} (h:nj (x::r)=some ps):∃p t,n5 x=some p∧nj r=some t∧ps=p::t:=by
 simp only[nj]at h
 split at h
 ·rename_i v t h1 h2
  injection h with h
  exact⟨v,t,h1,h2,h.symm⟩
 ·cases h
theorem axY {ρ1 : Nat → AV} (hs : Ok s) (h2 : ρ1 2 = .ptr s.ag.length 0 0) (h3 : ρ1 3 = .ptr s.ag.length 1 0) (h4 : ρ1 4 = .ptr s.ag.length 2 0) :
  ∀(n:Nat) (rem:List UInt8) (dn:List P) (r:Rec) (x:AV) (og:Option Nat) (ρ:Nat→AV),rem.length<n→dn.length+rem.length≤100000→r.boxes=n8 (.slice .aA 0 []) (I 0) x rem→Acc s.ag.length 3 (dn.map aq) x og r.toks→
   (ρ 0=.yield s.loops.length∧ρ 1=.ptr s.ag.length 4 0∧ρ 2=.ptr s.ag.length 3 0∧ρ 3=.ptr s.ag.length 5 0)→
   (∀ps,nj (cd 32 rem)=some ps→∃r' x' bQ wg,go AP GQ (.c (.loop tI)::H3) ⟨ρ,(eS s ρ1 r).push ⟨[],[]⟩⟩=some (.tuple [],eS s ρ1 r')∧r'.boxes=n8 (.slice .aA 0 []) (I 0) x' wg∧Acc s.ag.length 3 ((dn++ps).map aq) x' bQ r'.toks)∧
   (nj (cd 32 rem)=none→∃r' x' wg,go AP GQ (.c (.loop tI)::H3) ⟨ρ,(eS s ρ1 r).push ⟨[],[]⟩⟩=some (.tuple [],over s.loops.length .ret (eS s ρ1 r'))∧r'.boxes=n8 (.slice .aA 0 []) (I 7) x' wg):=by
 have hM:fu (fun r=>eS s ρ1 r) s.ag.length:=abj hs
 have aBo:∀r,Ok (eS s ρ1 r):=fun r=>(hs.push r).enter
 intro n
 induction n with
 |zero=>intro rem dn r x og ρ hn;omega
 | succ n ih =>
  rintro rem dn r x og ρ hn Cq hb hA ⟨g0,g1,g2,g3⟩
  have k3:∀q,((eS s ρ1 r).push q).box s.ag.length 3=some [S (tx rem)]:=fun q=>by rw[hM.box (X:=fun r=>eS s ρ1 r),hb];rfl
  have k4 : ∀ q, ((eS s ρ1 r).push q).box s.ag.length 4 = some [S ⟨#[32]⟩] := fun q => by rw [hM.box (X := fun r => eS s ρ1 r), hb]; rfl
  have k5:∀q,((eS s ρ1 r).push q).box s.ag.length 5=some [I 0]:=fun q=>by rw[hM.box (X:=fun r=>eS s ρ1 r),hb];rfl
  have bf : ∀ q, aw AP (.fn 129) [S (tx rem), S ⟨#[32]⟩] q = some (I (gG 32 rem), q) := fun q => strings_Index (by omega)
  have xQ:=My (c:=32) (l:=rem)
  by_cases hm:gG 32 rem=-1
  ·rw[TS hm]
   have qo:decide (gG 32 rem<0)=true:=by simp only[fB];omega
   obtain⟨w1,w2⟩:=acs (wd:=rem) hs h2 h3 h4 (by omega) (by omega) hb hA ⟨[],[]⟩
   refine⟨fun ps gn=>?_,fun gn=>?_⟩
   ·obtain⟨p,t,e1,e2,rfl⟩:=Tj gn
    injection e2 with e2
    subst e2
    obtain⟨r',x',bQ,c1,c2,c3⟩:=w1 p e1
    refine⟨r',x',bQ,rem,?_,c2,c3⟩
    rw[go_loop]
    simp only[go_sem,tI,Kj,g0,g1,g2,k3,k4,bf,qo,c1,simprocAttr]
   ·have e1:n5 rem=none:=by
     cases h:n5 rem with
     |none=>rfl
     |some v=>simp only[nj,h]at gn;cases gn
    obtain⟨r',c1,c2⟩:=w2 e1
    refine⟨r',x,rem,?_,c2⟩
    rw[go_loop]
    simp only[go_sem,tI,Kj,g0,g1,g2,k3,k4,bf,qo,c1,simprocAttr]
  ·obtain⟨i,hi⟩:∃i:Nat,gG 32 rem=i:=⟨(gG 32 rem).toNat,by omega⟩
   have pF : i < rem.length := by
    have:∀(l:List UInt8) (i:Nat),gG 32 l=i→i<l.length:=by
     intro l
     induction l with
     |nil=>intro i h;simp[gG]at h
     | cons b l ih =>
      intro i h
      rw[gG]at h
      split at h
      ·simp only[cH];omega
      ·split at h
       ·omega
       ·have:=ih (i-1) (by omega)
        simp only[cH];omega
    exact this rem i hi
   rw[hi]at bf
   rw[TR hi]
   have qo:decide ((i:Int)<0)=false:=by simp only[tN];omega
   have w0:IntKind.i64.wrap ((i:Int)+0)=(i:Int):=by rw[bq]<;>omega
   have w1' : IntKind.i64.wrap ((i : Int) + (((⟨#[32]⟩ : ByteArray).size : Nat) : Int)) = ((i + 1 : Nat) : Int) := by
    show IntKind.i64.wrap ((i:Int)+1)=_
    rw[bq]<;>omega
   have sl1:=axL (l:=rem) (b:=i) (by omega)
   have sl2:=axK (l:=rem) (a:=i+1) (by omega)
   obtain⟨w1,w2⟩:=acs (wd:=rem.take i) hs h2 h3 h4 (by omega) (by rw[ez];omega) hb hA ⟨[],[]⟩
   cases hw:n5 (rem.take i)with
   | none =>
    obtain⟨r',c1,c2⟩:=w2 hw
    refine⟨fun ps gn=>?_,fun _=>?_⟩
    ·obtain⟨p,t,e1,e2,rfl⟩:=Tj gn
     rw[hw]at e1;cases e1
    ·refine⟨r',x,rem,?_,c2⟩
     rw[go_loop]
     simp only[go_sem,tI,g0,g1,g2,g3,k3,k4,k5,bf,qo,w0,sl1,c1,simprocAttr]
   | some p =>
    obtain⟨r',x',bQ,c1,c2,c3⟩:=w1 p hw
    have k3':∀q,((eS s ρ1 r').push q).box s.ag.length 3=some [S (tx rem)]:=fun q=>by rw[hM.box (X:=fun r=>eS s ρ1 r),c2];rfl
    have k4' : ∀ q, ((eS s ρ1 r').push q).box s.ag.length 4 = some [S ⟨#[32]⟩] := fun q => by rw [hM.box (X := fun r => eS s ρ1 r), c2]; rfl
    have st3:∀q,((eS s ρ1 r').push q).store 1 (.ptr s.ag.length 3 0) (S (tx (rem.drop (i+1))))=some ((eS s ρ1 ⟨r'.boxes.set 3 [S (tx (rem.drop (i+1)))],r'.toks⟩).push q):=fun q=>
     hM.store (X:=fun r=>eS s ρ1 r) (r:=r') (r0:=q) (b:=3) (off:=0) (n:=1) (y:=S (tx (rem.drop (i+1)))) (by rfl) (by rfl) (row:=[S (tx rem)]) (row':=[S (tx (rem.drop (i+1)))]) (by rw[c2];rfl) rfl
    have HS:=ih (rem.drop (i+1)) (dn++[p]) ⟨r'.boxes.set 3 [S (tx (rem.drop (i+1)))],r'.toks⟩ x' bQ
    have iY:∃ρ',(ρ' 0=.yield s.loops.length∧ρ' 1=.ptr s.ag.length 4 0∧ρ' 2=.ptr s.ag.length 3 0∧ρ' 3=.ptr s.ag.length 5 0)∧go AP GQ (.c (.loop tI)::H3) ⟨ρ,(eS s ρ1 r).push ⟨[],[]⟩⟩=go AP GQ (.c (.loop tI)::H3) ⟨ρ',(eS s ρ1 ⟨r'.boxes.set 3 [S (tx (rem.drop (i+1)))],r'.toks⟩).push ⟨[],[]⟩⟩:=by
     refine⟨?_,?_,?_⟩
     rotate_left 2
     ·rw[go_loop]
      simp only[go_sem,tI,g0,g1,g2,g3,k3,k4,k5,bf,qo,w0,w1',sl1,sl2,c1,k3',k4',st3,simprocAttr]
      rfl
     ·exact⟨g0,g1,g2,g3⟩
    obtain⟨ρ',hρ,bu⟩:=iY
    rw[bu]
    obtain⟨i1,i2⟩:=HS ρ' (by rw[pU];omega) (by rw[pU,cG,pV];omega) (by rw[c2];rfl) c3 hρ
    refine⟨fun ps gn=>?_,fun gn=>?_⟩
    ·obtain⟨p',t,e1,e2,rfl⟩:=Tj gn
     rw[hw]at e1
     injection e1 with e1
     subst e1
     obtain⟨r2,x2,fb,aww,f1,f2,f3⟩:=i1 t e2
     exact⟨r2,x2,fb,aww,f1,f2,by simpa using f3⟩
    ·refine i2 ?_
     cases h:nj (cd 32 (rem.drop (i+1)))with
     |none=>rfl
     |some t=>simp only[nj,hw,h]at gn;cases gn
theorem axX {ρ1:Nat→AV} {l:List UInt8} {r:Rec} {x:AV} {og:Option Nat} (hs:Ok s) (h2:ρ1 2=.ptr s.ag.length 0 0) (h3:ρ1 3=.ptr s.ag.length 1 0) (h4:ρ1 4=.ptr s.ag.length 2 0) (hl:l.length≤100000)
  (hb:r.boxes=n8 (.slice .aA 0 []) (I 0) x l) (hA:Acc s.ag.length 3 [] x og r.toks):
   (∀ps,nj (cd 32 l)=some ps→∃r' x' bQ wg,aw AP (.fn 127) [.yield s.loops.length,.ptr s.ag.length 4 0,.ptr s.ag.length 3 0,.ptr s.ag.length 5 0] (eS s ρ1 r)=some (.tuple [],eS s ρ1 r')∧r'.boxes=n8 (.slice .aA 0 []) (I 0) x' wg∧Acc s.ag.length 3 (ps.map aq) x' bQ r'.toks)∧
   (nj (cd 32 l)=none→∃r' x' wg,aw AP (.fn 127) [.yield s.loops.length,.ptr s.ag.length 4 0,.ptr s.ag.length 3 0,.ptr s.ag.length 5 0] (eS s ρ1 r)=some (.tuple [],over s.loops.length .ret (eS s ρ1 r'))∧r'.boxes=n8 (.slice .aA 0 []) (I 7) x' wg):=by
 have hM:fu (fun r=>eS s ρ1 r) s.ag.length:=abj hs
 have k4 : ∀ q, ((eS s ρ1 r).push q).box s.ag.length 4 = some [S ⟨#[32]⟩] := fun q => by rw [hM.box (X := fun r => eS s ρ1 r), hb]; rfl
 have hd : decide (((⟨#[32]⟩ : ByteArray).size : Int) = 0) = false := by decide
 obtain⟨a,b⟩:=axY (ρ1:=ρ1) hs h2 h3 h4 (l.length+1) l [] r x og
  (put 11 (B false) (put 10 (I 1) (put 9 (S ⟨#[32]⟩) (jm [.yield s.loops.length, .ptr s.ag.length 4 0, .ptr s.ag.length 3 0, .ptr s.ag.length 5 0])))) (by omega) (by simpa using hl) hb hA ⟨rfl, rfl, rfl, rfl⟩
 have he : aw AP (.fn 127) [.yield s.loops.length, .ptr s.ag.length 4 0, .ptr s.ag.length 3 0, .ptr s.ag.length 5 0] (eS s ρ1 r) = go AP GQ (.c (.loop tI) :: H3) ⟨put 11 (B false) (put 10 (I 1) (put 9 (S ⟨#[32]⟩) (jm [.yield s.loops.length, .ptr s.ag.length 4 0, .ptr s.ag.length 3 0, .ptr s.ag.length 5 0]))), (eS s ρ1 r).push ⟨[], []⟩⟩ := by
  rw[aG (show AP 127=some F1 from rfl) rfl]
  simp only[go_sem,Wl,Pt,k4,hd,simprocAttr]
  rfl
 rw[he]
 exact⟨a,b⟩
theorem aw8 {l:List UInt8} (hs:Ok s) (hl:l.length≤100000):aw AP (.fn 16) [S (tx l)] s=some (.tuple [bB 3 ((Ih l).1.map aq),I (Ih l).2],s):=by
 unfold Ih
 by_cases h6:60000<l.length
 ·rw[aj h6]
  have hd:decide ((60000:Int)<((tx l).size:Int))=true:=by rw[pQ];simp only[fB];omega
  rw[aG (show AP 16=some yS from rfl) rfl]
  simp only[go_sem,J6,hs,hd,simprocAttr]
  rfl
 rw[ak h6]
 have hd:decide ((60000:Int)<((tx l).size:Int))=false:=by rw[pQ];simp only[tN];omega
 by_cases hn:l=[]
 ·rw[aj hn]
  have lN : decide (tx l = ⟨#[]⟩) = true := by rw [hn]; simp [tx]
  rw[aG (show AP 16=some yS from rfl) rfl]
  simp only[go_sem,J6,hs,hd,lN,simprocAttr]
  rfl
 rw[ak hn]
 have lN : decide (tx l = ⟨#[]⟩) = false := by
  simp only[tN]
  exact fun h=>hn (ad7 (a:=l) (b:=[]) h)
 have hsq : ∀ a b c, aw AP (.inl 47) [S (tx l), S ⟨#[32]⟩] (s.push ⟨[a, b, c], []⟩) = some (.fn 127 [] [.ptr s.ag.length 4 0, .ptr s.ag.length 3 0, .ptr s.ag.length 5 0], s.push ⟨[a, b, c, [S (tx l)], [S ⟨#[32]⟩], [I 0]], []⟩) := fun a b c => aya hs
 have key:∀ρ:Nat→AV,ρ 2=.ptr s.ag.length 0 0→ρ 3=.ptr s.ag.length 1 0→ρ 4=.ptr s.ag.length 2 0→ρ 22=.fn 127 [] [.ptr s.ag.length 4 0,.ptr s.ag.length 3 0,.ptr s.ag.length 5 0]→
   go AP ajb (.c (.rangeFunc (.tmp 22) [23] uW uY)::arj) ⟨ρ,s.push ⟨n8 (.slice .aA 0 []) (I 0) (.slice .aA 0 []) l,[]⟩⟩=some (.tuple [bB 3 ((Da (nj (cd 32 l))).1.map aq),I (Da (nj (cd 32 l))).2],s):=by
  intro ρ h2 h3 h4 h22
  obtain⟨c1,c2⟩:=axX (ρ1:=ρ) (l:=l) (r:=⟨n8 (.slice .aA 0 []) (I 0) (.slice .aA 0 []) l,[]⟩) (x:=.slice .aA 0 []) (og:=none) hs h2 h3 h4 hl rfl Acc.start
  rw[B7 (x:=.tmp 22) h22]
  cases hp:nj (cd 32 l)with
  |none=>
   obtain⟨r',x',wg,e1,e2⟩:=c2 hp
   refine(gX (Option.bind · _) e1).trans ?_
   simp only[dI]
   have vG:over s.loops.length .ret (eS s ρ r')=enterLoop (s.push r') ⟨false,some .ret,ρ,[23],uW,uY⟩:=ab3 (m:=s.push r')
   rw[vG]
   refine(YK (m:=s.push r') rfl rfl).trans ?_
   obtain⟨bx,tk⟩:=r'
   simp only at e2
   subst e2
   simp only[go_sem,h2,h3,simprocAttr]
   rfl
  | some ps =>
   obtain⟨r',x',bQ,wg,e1,e2,hA⟩:=c1 ps hp
   refine(gX (Option.bind · _) e1).trans ?_
   simp only[dI]
   refine(B6 (m:=s.push r') (lp:=⟨true,none,ρ,[23],uW,uY⟩) rfl rfl rfl).trans ?_
   obtain⟨bx,tk⟩:=r'
   simp only at e2 hA
   subst e2
   have hlen:=hA.len
   have dc:=hA.leave
   have L4:=hA.yb
   rw[cg]at hlen
   by_cases dZ:12<ps.length
   ·have zk:decide ((12:Int)<(ps.length:Int))=true:=by simp only[fB];omega
    rw[Da,aj dZ]
    obtain⟨o',e',r',rfl⟩:=Acc.sl hA
    simp only[go_sem,J7,h2,h3,h4,hs,hlen,zk,simprocAttr]
    rfl
   ·have zk:decide ((12:Int)<(ps.length:Int))=false:=by simp only[tN];omega
    rw[Da,ak dZ]
    obtain⟨o',e',r',rfl⟩:=Acc.sl hA
    simp only[go_sem,J7,h2,h3,h4,hs,hlen,zk,dc,simprocAttr]
 rw[aG (show AP 16=some yS from rfl) rfl]
 simp only[go_sem,J6,hd,lN,hsq,simprocAttr]
 refine key _ ?_ ?_ ?_ ?_
 all_goals rfl
end
def Dy (n:Int):Prop:=-9223372036854775808≤n∧n≤9223372036854775807
def qL (p:P):Prop:=Dy p.req∧Dy p.start∧p.an.l.length≤6∧∀a∈p.an.l,Dy a
def kh:List Int→List UInt8
 |[]=>[]
 |a::r=>43::Lib.itoa a++kh r
def iw (p:P):List UInt8:=Lib.itoa p.req++[64]++Lib.itoa p.start++kh p.an.l
def lI (l:List P):List UInt8:=[32].intercalate (l.map iw)
theorem Oh:∀{l:List Int},(∀a∈l,Dy a)→(kh l).length≤22*l.length
 |[],_=>by simp[kh]
 |a::r,h=>by
  have h1:=Oh (l:=r) fun a ha=>h a (cD _ ha)
  have h2:=CV (h a (by simp)).1 (h a (by simp)).2
  simp only[kh,cH,cG];omega
theorem Vb:∀{l r:List Int},kh (l++r)=kh l++kh r
 |[],r=>rfl
 |a::l,r=>by simp only[fZ,kh,Vb,gK]
theorem T8 {p:P} (h:qL p):(iw p).length≤200:=by
 have h1:=CV h.1.1 h.1.2
 have h2:=CV h.2.1.1 h.2.1.2
 have h3:=Oh h.2.2.2
 have h4:=h.2.2.1
 simp only[iw,cG,pV];omega
section
variable{s:ae} {w:W}
theorem ac0 {l:List P} {o:Own} {e:Nat} (hs:Ok s) (he:l=[]∨e=3) (hl:l.length≤100) (bz:∀p∈l,p.an.ok 1∧qL p):aw AP (.fn 17) [.slice o e (l.map aq)] s=some (S (tx (lI l)),s):=by
 have key:∀(j:Nat) ρ x,j≤l.length→(ρ 9=.slice o e (l.map aq)∧ρ 10=I l.length∧ρ 11=I j∧∃og tk bx,Acc s.ag.length 1 (((l.take j).map iw).map fun x=>[S (tx x)]) (ρ 3) og tk∧x=s.push ⟨bx,tk⟩)→go AP K9 (.c (.loop w8)::aaI) ⟨ρ,x⟩=some (S (tx (lI l)),s):=by
  refine bA l.length _ _ ?_ ?_
  ·rintro j ρ x hj ⟨h9,cJ,dh,og,tk,bx,hA,rfl⟩ ih
   obtain⟨p,hp⟩:=get_some hj
   have qv:=bz p (bE hp)
   obtain⟨⟨a1,a2⟩,⟨a3,a4⟩,a5,a6⟩:=qv.2
   have mU:e=3:=by rcases he with h|h;(rw[h]at hp;simp at hp);exact h
   subst mU
   have hr:=cz (f:=aq) (o:=o) (es:=3) hp
   have d1:=CV a1 a2
   have d2:=CV a3 a4
   have i1:∀q:ae,aw AP (.fn 52) [I p.req] q=some (S (tx (Lib.itoa p.req)),q):=fun q=>HY a1 a2
   have i2:∀q:ae,aw AP (.fn 52) [I p.start] q=some (S (tx (Lib.itoa p.start)),q):=fun q=>HY a3 a4
   have s1 : cC .add (S (tx (Lib.itoa p.req))) (S ⟨#[64]⟩) = some (S (tx (Lib.itoa p.req ++ [64]))) := wZ (by simp; omega)
   have s2:cC .add (S (tx (Lib.itoa p.req++[64]))) (S (tx (Lib.itoa p.start)))=some (S (tx (Lib.itoa p.req++[64]++Lib.itoa p.start))):=wZ (by simp;omega)
   have ja:=bh hj (show(l.length:Int)<_ by omega)
   have my:∀(q:Nat) ρ x,q≤p.an.l.length→((∃y,ρ 6=S y∧y=tx (Lib.itoa p.req++[64]++Lib.itoa p.start++kh (p.an.l.take q)))∧ρ 9=.slice o 3 (l.map aq)∧ρ 10=I l.length∧ρ 11=I j∧ρ 24=p.an.v aC∧ρ 25=I p.an.l.length∧ρ 26=I q∧
     ∃og tk bx,Acc s.ag.length 1 (((l.take j).map iw).map fun x=>[S (tx x)]) (ρ 3) og tk∧x=s.push ⟨bx,tk⟩)→go AP K9 (.c (.loop yD)::aaJ) ⟨ρ,x⟩=some (S (tx (lI l)),s):=by
    refine bA p.an.l.length _ _ ?_ ?_
    ·rintro q ρ x hq ⟨⟨y,h6,hy⟩,h9,cJ,dh,ko,jX,kW,og,tk,bx,hA,rfl⟩ eQ
     obtain⟨a,ha⟩:=get_some hq
     have nH:=a6 a (bE ha)
     have hr:=Sl.ix (f:=aC) qv.1 ha
     have d3:=CV nH.1 nH.2
     have d4:=Oh (l:=p.an.l.take q) fun a ha=>a6 a (oB ha)
     have d5:(p.an.l.take q).length≤6:=by rw[ez];omega
     have i3:∀m:ae,aw AP (.fn 52) [I a] m=some (S (tx (Lib.itoa a)),m):=fun m=>HY nH.1 nH.2
     have s3 : cC .add (S ⟨#[43]⟩) (S (tx (Lib.itoa a))) = some (S (tx ([43] ++ Lib.itoa a))) := wZ (a := [43]) (by simp; omega)
     have s4:cC .add (S (tx (Lib.itoa p.req++[64]++Lib.itoa p.start++kh (p.an.l.take q)))) (S (tx ([43]++Lib.itoa a)))=some (S (tx (Lib.itoa p.req++[64]++Lib.itoa p.start++kh (p.an.l.take q)++([43]++Lib.itoa a)))):=wZ (by simp only[cG,pV];omega)
     rw[←hy]at s4
     obtain⟨z3,R6⟩:∃z,tx ([43]++Lib.itoa a)=z:=⟨_,rfl⟩
     obtain⟨z4,HQ⟩:∃z,tx (Lib.itoa p.req++[64]++Lib.itoa p.start++kh (p.an.l.take q)++([43]++Lib.itoa a))=z:=⟨_,rfl⟩
     rw[R6]at s3 s4
     rw[HQ]at s4
     simp only[Sl.v]at ko hr
     simp only[go_sem,yD,h6,ko,jX,kW,aL hq,hr,i3,s3,s4,bh hq (show(p.an.l.length:Int)<_ by omega),simprocAttr]
     refine eQ _ _ ?_
     refine⟨⟨z4,rfl,?_⟩,h9,cJ,dh,by simp only[Sl.v];exact ko,jX,rfl,og,tk,_,hA,rfl⟩
     rw[du ha,Vb,←HQ]
     simp[kh]
    ·rintro ρ x ⟨⟨y,h6,hy⟩,h9,cJ,dh,ko,jX,kW,og,tk,bx,hA,rfl⟩
     rw[er]at hy
     rw[hy]at h6
     have aU:(l.take j).length≤100:=by rw[ez];omega
     obtain⟨x',bQ,tk',cp,di,_⟩:=hA.append hs .full (ys:=[[S (tx (iw p))]]) (by simp) (by simp;omega)
     have G9:ρ 6=S (tx (iw p)):=h6
     obtain⟨z5,HR⟩:∃z,tx (iw p)=z:=⟨_,rfl⟩
     rw[HR]at G9 cp di
     simp only[go_sem,yD,J3,J2,G9,dh,jX,kW,bg,cp,ja,simprocAttr]
     refine ih _ _ ?_
     refine⟨h9,cJ,rfl,bQ,tk',_,?_,rfl⟩
     rw[du hp,fH,fH,NQ,NQ,HR];exact di
   simp only[aq,Sl.v]at hr my
   obtain⟨z1,HO⟩:∃z,tx (Lib.itoa p.req++[64])=z:=⟨_,rfl⟩
   obtain⟨z2,HP⟩:∃z,tx (Lib.itoa p.req++[64]++Lib.itoa p.start)=z:=⟨_,rfl⟩
   rw[HO]at s1 s2
   rw[HP]at s2
   simp only[go_sem,w8,h9,cJ,dh,hs,aL hj,hr,i1,i2,s1,s2,simprocAttr]
   refine my 0 _ _ (aV _) ?_
   refine⟨⟨z2,rfl,?_⟩,h9,cJ,dh,rfl,rfl,rfl,og,tk,_,hA,rfl⟩
   rw[show p.an.l.take 0=[]from rfl,kh,kR,HP]
  ·rintro ρ x ⟨h9,cJ,dh,og,tk,bx,hA,rfl⟩
   rw[er]at hA
   have hj : ∀ q : ae, aw AP (.fn 53) [ρ 3, S ⟨#[32]⟩] q = some (S (tx (lI l)), q) := fun q => join hA.close (by simp; omega) (by
    have h1:=Se (ls:=l.map iw) (m:=200) fun x hx=>by
     obtain⟨p,hp,rfl⟩:=cN.1 hx
     exact T8 (bz p hp).2
    rw[cg]at h1
    have h2:=UR 201 hl
    omega)
   simp only[go_sem,w8,Ep,cJ,dh,bg,hj,simprocAttr]
 rw[aG (show AP 17=some Bk from rfl) rfl]
 simp only[go_sem,O8,simprocAttr]
 refine key 0 _ _ (aV _) ?_
 exact⟨rfl,rfl,rfl,none,[],[],Acc.start,rfl⟩
def xB:List P→List UInt8
 |[]=>[]
 |p::r=>iw p++(r.map fun q=>32::iw q).flatten
theorem Ll:∀{l:List P},xB l=lI l
 |[]=>rfl
 |[p]=>by simp[xB,lI,List.intercalate]
 |p::q::r=>by
  have ih:=Ll (l:=q::r)
  have e:[32].intercalate ((p::q::r).map iw)=iw p++[32]++[32].intercalate ((q::r).map iw):=by simp[List.intercalate,List.intersperse]
  rw[lI,e]
  rw[lI]at ih
  rw[←ih]
  simp[xB]
theorem ajP:∀{l:List P},(∀p∈l,qL p)→(xB l).length≤201*l.length
 |[],_=>by simp[xB]
 | p :: r, h => by
  have h1:=T8 (h p (by simp))
  have h2:∀{r:List P},(∀p∈r,qL p)→((r.map fun q=>32::iw q).flatten).length≤201*r.length:=by
   intro r
   induction r with
   |nil=>intro _;simp
   |cons q r ih=>
    intro h
    have:=ih fun p hp=>h p (cD _ hp)
    have:=T8 (h q (by simp))
    simp only[fR,qO,cG,cH];omega
  have:=h2 fun p hp=>h p (cD _ hp)
  simp only[xB,cG,cH];omega
end
def Sm (p:P):Prop:=(0≤p.req∧p.req<10000)∧(0≤p.start∧p.start<10000)∧∀a∈p.an.l,0≤a∧a<10000
theorem aoD {v:Int} (h0:0≤v):(Lib.itoa v).all pH=true:=by
 rw[Lib.itoa,ak (by omega)];exact(XL _).1
theorem x9 {v:Int} {c:UInt8} (h0:0≤v) (hc:pH c=false):c∉Lib.itoa v:=fun h=>by
 rw[jh.1 (aoD h0) c h]at hc;cases hc
theorem Vc {c:UInt8} (hc:pH c=false) (gZ:c≠43):∀{l:List Int},(∀a∈l,0≤a∧a<10000)→c∉kh l
 |[],_=>by simp[kh]
 | a :: r, h => by
  have h1:=Vc hc gZ (l:=r) fun a ha=>h a (cD _ ha)
  have h2:=x9 (h a (by simp)).1 hc
  rw[kh]
  intro hm
  rcases dR.1 hm with hm|hm
  ·rcases dr.1 hm with hm|hm
   ·exact gZ hm
   ·exact h2 hm
  ·exact h1 hm
theorem aeu {p:P} (h:Sm p):(32:UInt8)∉iw p:=by
 have h1:=x9 (c:=32) h.1.1 (by decide)
 have h2:=x9 (c:=32) h.2.1.1 (by decide)
 have h3:=Vc (c:=32) (by decide) (by decide) h.2.2
 unfold iw
 simp only[dR,fS,not_or]
 exact⟨⟨⟨h1,by decide⟩,h2⟩,h3⟩
theorem axZ {l:List Int}:∀{pre:List UInt8},(∀a∈l,0≤a∧a<10000)→oj 43 pre (kh l)=pre::l.map Lib.itoa:=by
 induction l with
 |nil=>intro pre _;rw[kh,adA];rfl
 |cons a r ih=>
  intro pre h
  have h2:=x9 (c:=43) (h a (by simp)).1 (by decide)
  rw[kh,fZ,IC,wv h2,ih fun a ha=>h a (cD _ ha)]
  rfl
theorem abG:∀{l:List Int},(∀a∈l,0≤a∧a<10000)→fa (l.map Lib.itoa)=some l
 |[],_=>rfl
 |a::r,h=>by
  rw[fR,fa,SZ (h a (by simp)).1 (h a (by simp)).2,abG fun a ha=>h a (cD _ ha)]
theorem avd {p:P} (h:Sm p):n5 (iw p)=some (hY p.req p.start p.an.l):=by
 have h1:=x9 (c:=43) h.1.1 (by decide)
 have h2:=x9 (c:=43) h.2.1.1 (by decide)
 have h3:(43:UInt8)∉Lib.itoa p.req++[64]++Lib.itoa p.start:=by
  simp only[dR,fS,not_or]
  exact⟨⟨h1,by decide⟩,h2⟩
 have e1:cd 43 (iw p)=(Lib.itoa p.req++[64]++Lib.itoa p.start)::p.an.l.map Lib.itoa:=by
  rw[iw,←wu,wv h3,gL,axZ h.2.2]
 have h4:=x9 (c:=64) h.1.1 (by decide)
 have h5:=x9 (c:=64) h.2.1.1 (by decide)
 have e2:cd 64 (Lib.itoa p.req++[64]++Lib.itoa p.start)=[Lib.itoa p.req,Lib.itoa p.start]:=by
  rw[gK,←wu,wv h4,fZ,IC,wu,gL,gL,IA h5]
 unfold n5
 rw[e1]
 show(match cd 64 (Lib.itoa p.req++[64]++Lib.itoa p.start)with|[a,b]=>_|_=>none)=_
 rw[e2]
 show(match bZ (Lib.itoa p.req),bZ (Lib.itoa p.start),fa (p.an.l.map Lib.itoa)with|some q,some st,some as=>some (hY q st as)|_,_,_=>none)=_
 rw[SZ h.1.1 h.1.2,SZ h.2.1.1 h.2.1.2,abG h.2.2]
theorem adC:∀{r:List P} {pre:List UInt8},(∀p∈r,Sm p)→oj 32 pre ((r.map fun q=>32::iw q).flatten)=pre::r.map iw
 |[],pre,_=>by rw[pb,List.flatten_nil,adA];rfl
 |q::r,pre,h=>by
  rw[fR,qO,fZ,IC,wv (aeu (h q (by simp))),adC fun p hp=>h p (cD _ hp)]
  rfl
theorem ach:∀{l:List P},(∀p∈l,Sm p)→nj (l.map iw)=some (l.map fun p=>hY p.req p.start p.an.l)
 |[],_=>rfl
 |p::r,h=>by
  rw[fR,nj,avd (h p (by simp)),ach fun p hp=>h p (cD _ hp)];rfl
theorem aqw {p:P}:kP (hY p.req p.start p.an.l)=kP p:=by
 show p.req::p.start::(fJ 1 p.an.l).l=_
 rw[me];rfl
theorem au4 {l:List P} (h:∀p∈l,Sm p) (hl:l.length≤12) (hlen:(lI l).length≤60000):Ih (lI l)=(l.map fun p=>hY p.req p.start p.an.l,0):=by
 unfold Ih
 rw[ak (by omega)]
 cases l with
 |nil=>rfl
 | cons p r =>
  have aF:lI (p::r)≠[]:=by
   rw[←Ll,xB,iw];simp
  rw[ak aF,←Ll,xB,←wu,wv (aeu (h p (by simp))),adC fun q hq=>h q (cD _ hq),gL]
  rw[show iw p::r.map iw=(p::r).map iw from rfl,ach h,Da,ak (by rw[cg];omega)]
theorem au5 {l:List P}:wh (l.map fun p=>hY p.req p.start p.an.l) l=true:=by
 have:=ac5 (f:=fun p:P=>hY p.req p.start p.an.l) (g:=id) (fun p=>aqw) (l:=l)
 rwa [List.map_id]at this
def gu (f:Nat→Bool):List AV:=(List.range 200).map fun j=>B (f j)
theorem rh {f:Nat→Bool}:(gu f).length=200:=by simp[gu]
theorem Ly {f:Nat→Bool} {j:Nat} (h:j<200):(gu f)[j]? =some (B (f j)):=by simp[gu,h]
theorem aez:td 200=gu fun _=>false:=by
 refine mM fun i=>?_
 unfold td
 by_cases h:i<200
 ·rw[Ly h,DE,aj h]
 ·rw[DE,ak h,lu (by rw[rh];omega)]
theorem ak2 {f:Nat→Bool} {j:Nat} {b:Bool} (h:j<200):(gu f).set j (B b)=gu fun i=>if i=j then b else f i:=by
 refine mM fun i=>?_
 by_cases hi:i<200
 ·rw[Ly hi,qP]
  by_cases e:j=i
  ·subst e;rw[aj rfl,aj (by rw[rh];exact h)];simp
  ·rw[ak e,Ly hi,ak (fun q=>e q.symm)]
 ·rw[lu (by rw[tt,rh];omega),lu (by rw[rh];omega)]
theorem ak1 {f:Nat→Bool}:(gu f).all AV.bK=true:=by
 rw[jh]
 intro c hc
 obtain⟨j,_,rfl⟩:=cN.1 hc
 rfl
theorem Yr {f:Nat→Bool}:lH 200 (gu f)=true:=qd.2 ⟨rh,ak1⟩
theorem auN {f:Nat→Bool} {j:Nat} {b:Bool} (h:j<200):j5 (gu f) j [B b]=some (gu fun i=>if i=j then b else f i):=by
 rw[pP,aj (by simp[rh];omega)]
 simp only[setCells,ak2 h]
theorem ada:∀{cs xs:List AV} {pre:List AV},cs.length=xs.length→setCells (pre++cs) pre.length xs=pre++xs
 |[],[],pre,_=>rfl
 |c::cs,x::xs,pre,h=>by
  simp only[setCells]
  have:(pre++c::cs).set pre.length x=(pre++[x])++cs:=by simp
  rw[this,show pre.length+1=(pre++[x]).length by simp,ada (by simpa using h)]
  simp
theorem ab1 {f g:Nat→Bool}:j5 (gu f) 0 (gu g)=some (gu g):=by
 rw[pP,aj (by simp[rh])]
 have:=ada (cs:=gu f) (xs:=gu g) (pre:=[]) (by rw[rh,rh])
 simpa using this
theorem asB {f:Nat→Bool} {m:ae}:dL m (.agg (gu f))=some (.agg (gu f)):=by
 have:nW m (gu f)=some (gu f):=by
  unfold gu
  generalize List.range 200=l
  induction l with
  |nil=>rfl
  |cons x l ih=>simp only[fR,nW,ih];rfl
 simp only[dL,this,dJ]
theorem aie {f:Nat→Bool}:pf 0 200 (gu f)=some (gu f):=by
 rw[GH,aj (by rw[rh];omega),iK,List.take_of_length_le (by rw[rh];omega)]
theorem U6 {call:bj} {ρ:aJ→AV} {m:ae} {f:Nat→Bool}:aO call ρ m (.alloc (gu f))=some (m.eG (gu f)):=by
 have:(gu f).isEmpty=false:=by
  have:=rh (f:=f)
  cases h:gu f with
  |nil=>rw[h]at this;simp at this
  |cons _ _=>rfl
 simp only[aO,this];rfl
def ml (p:P) (a:Int):Bool:=p.an.l.any fun m=>decide (m=a)
def gw (w:W) (l:List P) (a:Int) (t:Int):Bool:=l.any fun p=>ml p a&&wi t p.start (dU w p-1)
def iI (w:W) (a:Int):List P→Int
 |[]=>0
 |p::r=>(if ml p a=true then(w.rq p.req).len else 0)+iI w a r
theorem S1 {w:W} {a:Int}:∀{l r:List P},iI w a (l++r)=iI w a l+iI w a r
 |[],r=>by simp[iI]
 |p::l,r=>by simp only[fZ,iI,S1];omega
section
variable{s:ae} {w:W}
theorem abH (hw:Wk w) {a:Int}:∀{l:List P},(∀p∈l,bJ w p)→0≤iI w a l∧iI w a l≤200*l.length
 |[],_=>by simp[iI]
 |p::r,h=>by
  have hp:=h p (by simp)
  have hl:=hw.len hp.r0 hp.r1
  have ih:=abH hw (a:=a) fun q hq=>h q (cD _ hq)
  simp only[iI,cH]
  split<;>omega
theorem alT {p:P} {a:Int}:(p.an.l.any fun m=>decide (a=m))=ml p a:=by
 unfold ml
 congr 1
 funext m
 by_cases h:a=m
 ·subst h;rfl
 ·rw[bX h,bX (fun e=>h e.symm)]
theorem ayU {l : List P} {o : Own} {e : Nat} {a : Int} (hs : Ok s) (hw : Wk w) (hl : l.length ≤ 14) (bH : ∀ p ∈ l, bJ w p ∧ dU w p ≤ 200) (he : l = [] ∨ e = 3) :
  aw AP (.fn 56) [OW w,.slice o e (l.map aq),I a] s=some (.tuple [I (iI w a l),.agg (gu fun t=>gw w l a t)],s):=by
 have outer : ∀ (k : Nat) ρ m, k ≤ l.length → (ρ 0 = OW w ∧ ρ 2 = I a ∧ ρ 7 = .ptr s.ag.length 0 0 ∧ ρ 8 = .ptr s.ag.length 1 0 ∧ ρ 9 = I (iI w a (l.take k)) ∧ ρ 13 = .slice o e (l.map aq) ∧ ρ 14 = I l.length ∧ ρ 15 = I k ∧
   ∃f bx,m=s.push ⟨gu (fun _=>false)::gu f::bx,[]⟩∧∀t,t<200→f t=gw w (l.take k) a t)→
   go AP Ya (.c (.loop A9)::arJ) ⟨ρ,m⟩=some (.tuple [I (iI w a l),.agg (gu fun t=>gw w l a t)],s):=by
  refine bA l.length _ _ ?_ ?_
  ·rintro k ρ m hk ⟨g0,g2,g7,g8,g9,g13,g14,g15,f,bx,rfl,hf⟩ ih
   obtain⟨p,hp⟩:=get_some hk
   have cS:e=3:=by rcases he with h|h;(rw[h]at hp;simp at hp);exact h
   subst cS
   obtain⟨cK,iD⟩:=bH p (bE hp)
   have hr:=cz (f:=aq) (o:=o) (es:=3) hp
   have qt:=hw.len cK.r0 cK.r1
   have po:∀m:ae,aw AP (.fn 65) [p.an.v aC,I a] m=some (B (ml p a),m):=fun m=>by
    rw[←alT];exact Nz cK.ok.1 cK.len
   have aY:=bh hk (show(l.length:Int)<_ by omega)
   have Y9:=abH hw (a:=a) (l:=l.take k) fun q hq=>(bH q (oB hq)).1
   have aB:(l.take k).length≤14:=by rw[ez];omega
   have Z6:=cK.s0
   simp only[aq,Sl.v]at hr po
   cases hh:ml p a with
   | false =>
    rw[hh]at po
    simp only[go_sem,A9,Kq,g2,g13,g14,g15,hs,aL hk,hr,po,aY,th,simprocAttr]
    refine ih _ _ ?_
    refine⟨g0,g2,g7,g8,?_,g13,g14,rfl,f,_,rfl,fun t ht=>?_⟩
    ·have e1:iI w a (l.take (k+1))=iI w a (l.take k):=by
      rw[du hp,S1];simp only[iI,hh];rw[ak (by decide)];omega
     rw[e1];exact g9
    ·rw[hf t ht,du hp];unfold gw;rw[tn];simp[hh]
   | true =>
    rw[hh]at po
    have inner:∀(d:Nat) (u:Int) ρ m,u+d=dU w p→(ρ 0=OW w∧ρ 2=I a∧ρ 7=.ptr s.ag.length 0 0∧ρ 8=.ptr s.ag.length 1 0∧ρ 9=I (iI w a (l.take k)+(u-p.start))∧ρ 11=.ptr s.ag.length (bx.length+1+1) 0∧ρ 12=I u∧ρ 13=.slice o 3 (l.map aq)∧ρ 14=I l.length∧ρ 15=I k∧p.start≤u∧
      ∃f,m=s.push ⟨gu (fun _=>false)::gu f::(bx++[aq p]),[]⟩∧∀t,t<200→f t=(gw w (l.take k) a t||(decide (p.start≤(t:Int))&&decide ((t:Int)<u))))→
      go AP Ya (.c (.loop Ko)::arK) ⟨ρ,m⟩=some (.tuple [I (iI w a l),.agg (gu fun t=>gw w l a t)],s):=by
     intro d
     induction d with
     | zero =>
      rintro u ρ m hu ⟨g0,g2,g7,g8,g9,g11,g12,g13,g14,g15,Z7,f,rfl,hf⟩
      have iZ:∀r,aw AP (.fn 42) [OW w,.agg (aq p)] (s.push r)=some (I (dU w p),s.push r):=fun r=>Nv (hs.push r) hw cK.r0 cK.r1 cK.s0 cK.s1
      have hd:decide (u<dU w p)=false:=by simp;omega
      rw[go_loop]
      simp only[aq,Sl.v]at iZ
      simp only[go_sem,Ko,Kq,g0,g11,g12,g15,iZ,hd,aY,simprocAttr]
      refine ih _ _ ?_
      refine⟨g0,g2,g7,g8,?_,g13,g14,rfl,f,_,rfl,fun t ht=>?_⟩
      ·have:dU w p=p.start+(w.rq p.req).len:=rfl
       have e1:iI w a (l.take (k+1))=iI w a (l.take k)+(u-p.start):=by
        rw[du hp,S1];simp only[iI,hh,cI];omega
       rw[e1];exact g9
      ·rw[hf t ht,du hp];unfold gw
       rw[tn]
       simp only[ke,Uq,uJ,hh,kQ,wi]
       congr 2
       by_cases h1:(t:Int)<u
       ·rw[bS h1,bS (by omega)]
       ·rw[bX h1,bX (by omega)]
     | succ d ihd =>
      rintro u ρ m hu ⟨g0,g2,g7,g8,g9,g11,g12,g13,g14,g15,Z7,f,rfl,hf⟩
      obtain⟨v,rfl⟩:∃v:Nat,u=v:=⟨u.toNat,by omega⟩
      have iZ:∀r,aw AP (.fn 42) [OW w,.agg (aq p)] (s.push r)=some (I (dU w p),s.push r):=fun r=>Nv (hs.push r) hw cK.r0 cK.r1 cK.s0 cK.s1
      have hd:decide ((v:Int)<dU w p)=true:=by simp;omega
      have jG:idx (.v (.int .i64 (v:Int))) 200=some v:=sP (by omega)
      have ho:j5 (gu f) (0+v*1) [B true]=some (gu fun i=>if i=v then true else f i):=by
       rw[show 0+v*1=v by omega];exact auN (by omega)
      have w1:IntKind.i64.wrap (iI w a (l.take k)+((v:Int)-p.start)+1)=iI w a (l.take k)+((v:Int)-p.start)+1:=bq (by omega) (by omega)
      have w2:IntKind.i64.wrap ((v:Int)+1)=(v:Int)+1:=bq (by omega) (by omega)
      rw[go_loop]
      simp only[aq,Sl.v]at iZ
      simp only[go_sem,Ko,g0,g8,g9,g11,g12,hs,iZ,hd,jG,ho,w1,w2,simprocAttr]
      refine ihd ((v:Int)+1) _ _ (by omega) ?_
      refine⟨g0,g2,g7,g8,by rw[show iI w a (l.take k)+((v:Int)+1-p.start)=iI w a (l.take k)+((v:Int)-p.start)+1 by omega];rfl,g11,rfl,g13,g14,g15,by omega,_,rfl,fun t ht=>?_⟩
      show(if t=v then true else f t)=_
      by_cases Ml:t=v
      ·subst Ml
       rw[aj rfl,bS Z7,bS (show(t:Int)<(t:Int)+1 by omega)];simp
      ·rw[ak Ml,hf t ht]
       congr 2
       by_cases h1:(t:Int)<(v:Int)
       ·rw[bS h1,bS (by omega)]
       ·rw[bX h1,bX (by omega)]
    simp only[go_sem,A9,g2,g13,g14,g15,hs,aL hk,hr,po,ov,simprocAttr]
    refine inner (w.rq p.req).len.toNat p.start _ _ (by show _=p.start+(w.rq p.req).len;omega) ?_
    refine⟨g0,g2,g7,g8,by rw[Int.sub_self,Dz];exact g9,rfl,rfl,g13,g14,g15,rU _,f,rfl,fun t ht=>?_⟩
    rw[hf t ht]
    have:(decide (p.start≤(t:Int))&&decide ((t:Int)<p.start))=false:=by
     by_cases h1:p.start≤(t:Int)
     ·rw[bX (show¬(t:Int)<p.start by omega),l8]
     ·rw[bX h1];rfl
    rw[this,uJ]
  ·rintro ρ m ⟨g0,g2,g7,g8,g9,g13,g14,g15,f,bx,rfl,hf⟩
   rw[er]at g9
   have vC:gu f=gu fun t=>gw w l a t:=by
    unfold gu
    apply List.map_congr_left
    intro j hj
    rw[hf j (pW.1 hj),er]
   rw[vC]
   generalize hF:(fun t:Nat=>gw w l a (t:Int))=F at*
   simp only[go_sem,A9,Kp,g7,g8,g9,g14,g15,hs,bg,aie,Yr,ab1,asB,simprocAttr]
 have hz:=aez
 have aF:(td 200).isEmpty=false:=rfl
 rw[aG (show AP 56=some Gb from rfl) rfl]
 simp only[go_sem,Ww,hz,U6,simprocAttr]
 refine outer 0 _ _ (aV _) ?_
 exact⟨rfl,rfl,rfl,rfl,rfl,rfl,rfl,rfl,_,[],rfl,fun t ht=>rfl⟩
end
theorem Vm {s:ae} {bs:List (List AV)} {tk:List (Option Nat)} {es:Nat} {o:Own} {row:List AV}:mO (s.push ⟨bs,tk⟩) es (.slice .aA 0 []) (.slice o es [row])=some (.aN s.ag.length bs.length 0 es 1 0,s.push ⟨bs++[row],tk⟩):=by
 simp[mO,Own.isNil,dD,gD,vW,MR]
theorem Vl {s:ae} {bs:List (List AV)} {tk:List (Option Nat)} {es n b:Nat} {o:Own} {row r2:List AV} (hb:bs[b]? =some row) (hl:row.length=n*es) (hn:0<n) (hm:n+1≤4294967296):
  mO (s.push ⟨bs,tk⟩) es (.aN s.ag.length b 0 es n 0) (.slice o es [r2])=some (.aN s.ag.length bs.length 0 es (n+1) 0,s.push ⟨bs.set b []++[row++r2],tk++[none]⟩):=by
 have tZ:(s.push ⟨bs,tk⟩).box s.ag.length b=some row:=by rw[ib];exact hb
 have RO:(s.push ⟨bs,tk⟩).sX b (row++r2)=s.push ⟨bs.set b []++[row++r2],tk++[none]⟩:=by
  unfold ae.sX
  rw[gD,vZ]
 simp[mO,dD,gD,vW,hn,hm,tZ,hl,RO]
theorem Qb {es:Nat}:∀{xs:List (List AV)},(∀r∈xs,r.length=es)→chunks es xs.length xs.flatten=xs
 |[],_=>rfl
 |r::xs,h=>by
  have hr:=h r (by simp)
  simp only[cH,chunks,qO]
  rw[List.take_left' hr,List.drop_left' hr,Qb fun q hq=>h q (cD _ hq)]
def mg (out:List (Int×Int)):List AV:=(out.map dM).flatten
theorem GX {out:List (Int×Int)}:(mg out).length=out.length*2:=by
 induction out with
 |nil=>rfl
 |cons p r ih=>simp only[mg,fR,qO,cG,cH,jU]at*;omega
theorem Li {out:List (Int×Int)} {p:Int×Int}:mg (out++[p])=mg out++[I p.1,I p.2]:=by simp[mg,dM]
theorem ajK {out:List (Int×Int)}:closeAll (mg out)=some (mg out):=by
 induction out with
 |nil=>rfl
 |cons p r ih=>simp only[mg,fR,qO,dM,fZ,gL,ie,nC]at*;rw[ih];rfl
def qI (busy:Nat→Bool) (out:List (Int×Int)) (t:Nat):List (Int×Int):=
 if busy t=true then out else match out.getLast? with
  |some p=>if p.2=(t:Int)-1 then out.dropLast++[(p.1,(t:Int))]else out++[((t:Int),(t:Int))]
  |none=>[((t:Int),(t:Int))]
def jD (busy:Nat→Bool):Nat→List (Int×Int)
 |0=>[]
 |n+1=>qI busy (jD busy n) n
theorem QJ {busy:Nat→Bool}:∀{n:Nat},(jD busy n).length≤n
 |0=>aI _
 | n + 1 => by
  have ih:=QJ (busy:=busy) (n:=n)
  simp only[jD,qI]
  split
  ·omega
  ·split
   ·split
    ·rw[cG,List.length_dropLast];simp;omega
    ·rw[cG];simp;omega
   ·simp
def GB (s:ae) (sh:Nat→Nat) (out:List (Int×Int)) (x:AV) (bx:List (List AV)):Prop:=
 (out=[]∧x=.slice .aA 0 [])∨(∃init p,out=init++[p]∧∃pre,bx=pre++[mg (init++[p])]∧x=.aN s.ag.length (sh pre.length) 0 2 (init.length+1) 0)
theorem ajL {init:List (Int×Int)} {p:Int×Int}:(mg (init++[p]))[0+init.length*2+1]? =some (I p.2):=by
 rw[Li,gU,←GX]
 exact AN
theorem ajM {init:List (Int×Int)} {p:Int×Int} {n:Int}:j5 (mg (init++[p])) (0+init.length*2+1) [I n]=some (mg (init++[(p.1,n)])):=by
 rw[pP,aj (by rw[GX];simp;omega),Li,Li,gU,←GX]
 simp only[setCells]
 rw[TK]
theorem yc {d b off es n cap:Nat}:oR false (.aN d b off es n cap)=some (I (n:Int)):=rfl
theorem zM {d b es n:Nat} {i:Nat} (h:i<n):gR none es (.aN d b 0 es n 0) (I (i:Int))=some (.ptr d b (0+i*es)):=by
 have h1:idx (I (i:Int)) n=some i:=by simp[idx];omega
 simp[gR,h1]
theorem asH {s:ae} {r:Rec} {b:Nat} {out:List (Int×Int)} (h:r.boxes[b]? =some (mg out)):dL (s.push r) (.aN s.ag.length b 0 2 out.length 0)=some (.slice .any 2 (out.map dM)):=by
 have hc:=Qb (es:=2) (xs:=out.map dM) (fun r hr=>by obtain⟨p,_,rfl⟩:=cN.1 hr;rfl)
 rw[cg]at hc
 have hv:dL (s.push r) (.aN s.ag.length b 0 2 out.length 0)=eR (s.push r) (.aN s.ag.length b 0 2 out.length 0):=rfl
 rw[hv,eR,aj (by rw[gD]),ib,h]
 simp only[dI,GX,gU,aI,cI,ajK,dJ,iK]
 rw[show mg out=(out.map dM).flatten from rfl,hc]
section
variable{s:ae} {w:W}
theorem ayV {a:Int} (hw:Wk w) (h0:0≤a) (h1:a<w.as.l.length):aw AP (.fn 43) [OW w,I a] s=some (I (((List.range w.bm.toNat).countP fun t=>!bY w.as.l a.toNat t:Nat):Int),s):=by
 have fC:=hw.v.al
 have oL:=hw.v.n1
 have dK:=hw.v.n2
 obtain⟨i,rfl⟩:∃i:Nat,a=i:=⟨a.toNat,by omega⟩
 obtain⟨n,hn⟩:∃n:Nat,w.bm=n:=⟨w.bm.toNat,by omega⟩
 have kA:idx (.v (.int .i64 (i:Int))) 4=some i:=sP (by omega)
 have key:∀(k:Nat) ρ m,k≤n→(ρ 0=OW w∧ρ 1=I i∧ρ 5=I (((List.range k).countP fun t=>!bY w.as.l i t:Nat):Int)∧ρ 11=I n∧ρ 12=I k∧m=s.push ⟨[],[]⟩)→
   go AP ajj (.c (.loop EM)::arL) ⟨ρ,m⟩=some (I (((List.range n).countP fun t=>!bY w.as.l i t:Nat):Int),s):=by
  refine bA n _ _ ?_ ?_
  ·rintro k ρ m hk ⟨g0,g1,g5,g11,g12,rfl⟩ ih
   have jG:idx (.v (.int .i64 (k:Int))) 200=some k:=sP (by omega)
   have eP:(wk w.bm (w.as.v bR) (w.rs.v aS) (sc w.as.l))[0+3+i*200+k*1]? =some (B (bY w.as.l i k)):=by
    rw[show 0+3+i*200+k*1=3+(i*200+k)by omega,Nx (by omega),GA,show(i*200+k)/200=i by omega,show(i*200+k)%200=k by omega]
   have aY:=bh hk (show(n:Int)<_ by omega)
   have aQ:(List.range k).countP (fun t=>!bY w.as.l i t)≤k:=by have:=List.countP_le_length (p:=fun t=>!bY w.as.l i t) (l:=List.range k);rw[tq]at this;exact this
   have fj:(List.range (k+1)).countP (fun t=>!bY w.as.l i t)=(List.range k).countP (fun t=>!bY w.as.l i t)+if bY w.as.l i k=true then 0 else 1:=by
    rw[DI,List.countP_append,List.countP_singleton]
    cases bY w.as.l i k<;>rfl
   simp only[OW]at g0
   cases hc:bY w.as.l i k with
   |true=>
    rw[hc]at eP fj
    simp only[go_sem,EM,g0,g1,g11,g12,aL hk,kA,jG,eP,aY,ov,simprocAttr]
    refine ih _ _ ?_
    exact⟨by simp only[OW];exact g0,g1,by rw[fj];exact g5,g11,rfl,rfl⟩
   |false=>
    rw[hc]at eP fj
    have w1:IntKind.i64.wrap ((((List.range k).countP fun t=>!bY w.as.l i t:Nat):Int)+1)=(((List.range k).countP (fun t=>!bY w.as.l i t)+1:Nat):Int):=by rw[bq (by omega) (by omega)];omega
    simp only[go_sem,EM,g0,g1,g5,g11,g12,aL hk,kA,jG,eP,aY,w1,th,simprocAttr]
    refine ih _ _ ?_
    exact⟨by simp only[OW];exact g0,g1,by rw[fj];rfl,g11,rfl,rfl⟩
  ·rintro ρ m ⟨g0,g1,g5,g11,g12,rfl⟩
   simp only[go_sem,EM,PC,g5,g11,g12,bg,simprocAttr]
 rw[hn,pT,pT]
 rw[aG (show AP 43=some Gc from rfl) rfl]
 simp only[OW]at key⊢
 simp only[go_sem,Wx,MS,ay0,hn,simprocAttr]
 rw[hn]at key
 refine key 0 _ _ (aV _) ?_
 exact⟨rfl,rfl,rfl,rfl,rfl,rfl⟩
def p6 (w:W) (l:List P) (a:Int):Int:=if(jv w l).2=0 then cond (wi a 0 (w.as.l.length-1)) 0 6 else(jv w l).2
theorem axg {l:List P} {o:Own} {e:Nat} {a:Int} (hs:Ok s) (hw:w.Ok) (hf:w.jT) (hl:kf l) (he:l=[]∨e=3):aw AP (.fn 55) [w.v,.slice o e (l.map aq),I a] s=some (.tuple [if(jv w l).2=0 then OW w else NP,I (p6 w l a)],s):=by
 have bU:∀r,aw AP (.fn 89) [w.v,.slice o e (l.map aq)] (s.push r)=some (.tuple [if(cM w).2.2=0 then OW w else NP,I (jv w l).1,I (jv w l).2],s.push r):=fun r=>axh (hs.push r) hw hf hl he
 simp only[W.v,aW,Sl.v]at bU
 unfold p6
 by_cases h0:(jv w l).2=0
 ·have Ms:(cM w).2.2=0:=by
   by_cases h:(cM w).2.2=0
   ·exact h
   ·unfold jv at h0;rw[ak h]at h0;exact absurd h0 h
  have aY:Wk w:=⟨hw,hf,pR Ms⟩
  have Y5:∀r,aw AP (.fn 90) [OW w,I a] (s.push r)=some (I (cond (wi a 0 (w.as.l.length-1)) 0 6),s.push r):=fun r=>ayO aY
  rw[aj Ms,h0]at bU
  rw[aj h0,aj h0]
  simp only[OW]at bU Y5⊢
  rw[aG (show AP 55=some Bp from rfl) rfl]
  simp only[go_sem,Pn,bU,Y5,bV,gI,simprocAttr]
 ·rw[ak h0,ak h0]
  rw[aG (show AP 55=some Bp from rfl) rfl]
  simp only[go_sem,Pn,bU,h0,bV,j3,simprocAttr]
end
def bD (l:List P):List AV:=(l.map aq).flatten
theorem y7 {p:P} {l:List P}:bD (p::l)=aq p++bD l:=by simp[bD]
theorem Lj {a b:List P}:bD (a++b)=bD a++bD b:=by simp[bD]
theorem GY {l:List P}:(bD l).length=l.length*3:=by
 induction l with
 |nil=>rfl
 |cons p r ih=>rw[y7,cG,ih];simp only[aq,cH,jU];omega
theorem QF {l:List P} {k:Nat} {p:P} (h:l[k]? =some p):pf (0+k*3) 3 (bD l)=some (aq p):=by
 obtain⟨A,B,rfl,rfl⟩:∃A B,l=A++p::B∧A.length=k:=by
  obtain⟨hk,he⟩:=bI.1 h
  refine⟨l.take k,l.drop (k+1),?_,by rw[ez];omega⟩
  rw[←he,NJ,DL]
 have hlen:=GY (l:=A++p::B)
 rw[cG,cH]at hlen
 rw[GH,aj (by omega),Lj,y7,gU,←GY,List.drop_left]
 rfl
section
variable{s:ae} {w:W}
theorem azj {l:List P} {d b:Nat} {g:FuncId} {caps:List AV} {p:P→Bool} (hb:s.box d b=some (bD l)) (hl:(l.length:Int)<9223372036854775808)
  (hg:∀a∈l,∀r,aw AP (.fn g) (.agg (aq a)::caps) (s.push r)=some (B (p a),s.push r)):aw AP (.fn 142) [.aN d b 0 3 l.length 0,.fn g [] caps] s=some (I (eY p l),s):=by
 have key:∀k ρ m,k≤l.length→(ρ 0=.aN d b 0 3 l.length 0∧ρ 1=.fn g [] caps∧ρ 7=I l.length∧ρ 8=I k∧(∀j y,j<k→l[j]? =some y→p y=false)∧m=s.push ⟨[],[]⟩)→go AP Yd (.c (.loop yJ)::aaO) ⟨ρ,m⟩=some (I (eY p l),s):=by
  refine bA l.length _ _ ?_ ?_
  ·rintro k ρ m hk ⟨h0,h1,h7,h8,hp,rfl⟩ ih
   obtain⟨a,ha⟩:=get_some hk
   have hr:=zM (d:=d) (b:=b) (es:=3) hk
   have zB:=QF ha
   have Ck:∀r,(s.push r).box d b=some (bD l):=fun r=>eA hb r
   simp only[go_sem,yJ,h0,h1,h7,h8,aL hk,hr,Ck,zB,hg a (bE ha),bh hk hl,simprocAttr]
   cases fD:p a with
   |true=>
    simp only[fK]
    rw[xw ha fD hp]
   |false=>
    simp only[ig]
    refine ih _ _ ?_
    refine⟨h0,h1,h7,rfl,fun j y hj hy=>?_,rfl⟩
    by_cases e:j=k
    ·subst e;rw[ha]at hy;injection hy with hy;rw[←hy];exact fD
    ·exact hp j y (by omega) hy
  ·rintro ρ m ⟨h0,h1,h7,h8,hp,rfl⟩
   simp only[go_sem,yJ,Ks,h7,h8,bg,simprocAttr]
   rw[xy hp]
 rw[aG (show AP 142=some Bx from rfl) rfl]
 simp only[go_sem,PO,yc,simprocAttr]
 exact key 0 _ _ (aV _) ⟨rfl,rfl,rfl,rfl,fun j y hj=>absurd hj (dH _),rfl⟩
theorem azc {l:List P} {d b:Nat} {g:FuncId} {caps:List AV} {p:P→Bool} (hb:s.box d b=some (bD l)) (hl:(l.length:Int)<9223372036854775808)
  (hg:∀a∈l,∀r q,aw AP (.fn g) (.agg (aq a)::caps) ((s.push r).push q)=some (B (p a),(s.push r).push q)):aw AP (.fn 107) [.aN d b 0 3 l.length 0,.fn g [] caps] s=some (B (l.any p),s):=by
 have h:=azj (s:=s.push ⟨[],[]⟩) (caps:=caps) (g:=g) (eA hb _) hl (fun a ha r=>hg a ha _ r)
 rw[aG (show AP 107=some Bv from rfl) rfl]
 simp only[go_sem,PJ,h,vk,simprocAttr]
theorem ayR {p:P} {l:List P} {d b:Nat} (hs:Ok s) (hw:Wk w) (hp:bJ w p) (hl:∀x∈l,bJ w x) (hb:s.box d b=some (bD l)) (hn:(l.length:Int)<9223372036854775808):
  aw AP (.fn 69) [OW w,.agg (aq p),.aN d b 0 3 l.length 0] s=some (B (cY w p l),s):=by
 have h:∀r,aw AP (.fn 107) [.aN d b 0 3 l.length 0,.fn 108 [] [.ptr s.ag.length 0 0,.ptr s.ag.length 1 0]] (s.push ⟨[OW w]::aq p::r,[]⟩)=some (B (cY w p l),s.push ⟨[OW w]::aq p::r,[]⟩):=fun r=>
  azc (eA hb _) hn fun a ha r q=>aek (((hs.push _).push _).push _) hw (hl a ha) hp (eA (eA EX _) _) (eA (eA P6 _) _)
 rw[aG (show AP 69=some Br from rfl) rfl]
 simp only[OW,aq,Sl.v]at h⊢
 simp only[go_sem,Pw,h,simprocAttr]
theorem avq {X T:Rec→ae} {l d:Nat} {ρ:Nat→AV} {r:Rec} {p:P} {pl:List P} {done:List P} {dp bp:Nat} (hM:fu X d) (hX:∀r,busy l (T r)=X r) (hR:∀r,kS l ⟨true,none,ρ,[12],nu,nw⟩ (T r)) (bz:∀r,Ok (T r)) (hw:Wk w) (hp:bJ w p) (ed:∀x∈pl,bJ w x) (Cz:∀r,(X r).box dp bp=some (bD pl)) (hn:(pl.length:Int)<9223372036854775808)
  (h3:ρ 3=.ptr d 0 0) (h4:ρ 4=.ptr d 1 0) (h7:ρ 7=.ptr d 2 0) (hd:done.length<1000000)
  (hI:∃x og,r.boxes=[[OW w],[.aN dp bp 0 3 pl.length 0],[x]]∧Acc d 3 ((done.filter fun x=>!cY w x pl).map aq) x og r.toks):
  ∃r',aw AP (.yield l) [.agg (aq p)] (T r)=some (.v (.bool true),T r')∧∃x og,r'.boxes=[[OW w],[.aN dp bp 0 3 pl.length 0],[x]]∧Acc d 3 (((done++[p]).filter fun x=>!cY w x pl).map aq) x og r'.toks:=by
 obtain⟨x,og,hb,hA⟩:=hI
 have nI:∀r ρ' q,jC l .normal ⟨ρ',(X r).push q⟩=some (.v (.bool true),T r):=fun r ρ' q=>by rw[←hX];exact GU (hR r)
 have xV:∀r,Ok (X r):=fun r=>by rw[←hX];exact(bz r).busy
 have xK:∀r,(T r).ag.length=(X r).ag.length:=fun r=>by rw[←hX];rfl
 have k0:∀q,((X r).push q).box d 0=some [OW w]:=fun q=>by rw[hM.box,hb];rfl
 have k1:∀q,((X r).push q).box d 1=some [.aN dp bp 0 3 pl.length 0]:=fun q=>by rw[hM.box,hb];rfl
 have k2:∀q,((X r).push q).box d 2=some [x]:=fun q=>by rw[hM.box,hb];rfl
 have hc:∀q,aw AP (.fn 69) [OW w,.agg (aq p),.aN dp bp 0 3 pl.length 0] ((X r).push q)=some (B (cY w p pl),(X r).push q):=fun q=>ayR ((xV r).push q) hw hp ed (eA (Cz r) q) hn
 have hlen:(done.filter fun x=>!cY w x pl).length≤done.length:=rW _ _
 have lS:closeAll (aq p)=some (aq p):=by
  simp only[aq,ie,jW,nC,Sl.close hp.ok];rfl
 rw[BF (hR r) rfl]
 simp only[aq,Sl.v]at hc lS⊢
 cases dw:cY w p pl with
 | true =>
  rw[dw]at hc
  refine⟨r,?_,x,og,hb,?_⟩
  ·simp only[go_sem,nu,xv (hR r),bz r,wj,simprocAttr]
   simp only[go_sem,nw,hX,xK,h3,h4,k0,k1,hc,nI,simprocAttr]
  ·rw[qN]
   simpa[dw]using hA
 | false =>
  rw[dw]at hc
  obtain⟨x1,m1,Dh,x',bQ,tk',a1,a2,a3,a4,a5,a6⟩:=hM.append (r0:=⟨[aq p],[]⟩) hA .full (ys:=[aq p]) (by simp) (by simp;omega) (b:=2) (by rw[hb];simp) ⟨x,by rw[hb];rfl⟩
  refine⟨⟨r.boxes.set 2 [x'],tk'⟩,?_,x',bQ,?_,?_⟩
  ·simp only[aq,Sl.v]at a1 a2
   simp only[go_sem,nu,xv (hR r),bz r,wj,simprocAttr]
   simp only[go_sem,nw,hX,xK,h3,h4,h7,k0,k1,k2,hc,nI,lS,a1,a2,simprocAttr]
  ·rw[hb];rfl
  ·rw[qN,fH]
   have:List.map aq (List.filter (fun x=>!cY w x pl) [p])=[aq p]:=by simp[dw]
   rw[this];exact a4
theorem atg {d b l:Nat} {cs:List AV} {lp:da} {B:List Rec} {ls:List da} {r:Rec} (h:s.box d b=some cs):(up (busy l (enterLoop (s.push r) lp)) B ls).box d b=some cs:=by
 have hd:d<s.ag.length:=by
  apply tj
  intro hn
  rw[ae.box,lu (by omega)]at h;simp at h
 have lN:d<(s.ag++[r]).length:=by simp;omega
 simp only[ae.box,up,busy,ef,enterLoop,ae.push]at h⊢
 rw[dG lN,dG hd];exact h
theorem avo {ρ:Nat→AV} {pl:List P} {dp bp:Nat} (hs:Ok s) (hw:Wk w) (ed:∀x∈pl,bJ w x) (hb:s.box dp bp=some (bD pl)) (hn:(pl.length:Int)<9223372036854775808)
  (h3:ρ 3=.ptr s.ag.length 0 0) (h4:ρ 4=.ptr s.ag.length 1 0) (h7:ρ 7=.ptr s.ag.length 2 0):
  Hand AP s.loops.length (fun p=>.agg (aq p)) (ux s ρ) (fun done r=>∃x og,r.boxes=[[OW w],[.aN dp bp 0 3 pl.length 0],[x]]∧Acc s.ag.length 3 ((done.filter fun x=>!cY w x pl).map aq) x og r.toks)
   (fun _ _=>false) (fun _ _ _=>False) (bJ w) (s.ag.length+1) (s.loops.length+1) 100000:=by
 refine⟨fun r=>(hs.push _).enter,fun r=>by simp[ux,enterLoop,ae.push],fun r=>by simp[ux,enterLoop,ae.push],?_,fun _ _ _ _ _ _ _ _ h=>by cases h⟩
 intro done p r B ls hd hI hp _
 have hM:fu (fun r=>up (busy s.loops.length (enterLoop (s.push r) ⟨true,none,ρ,[12],nu,nw⟩)) B ls) s.ag.length:=H8 hs
 have hX:∀r,busy s.loops.length (up (ux s ρ r) B ls)=(fun r=>up (busy s.loops.length (enterLoop (s.push r) ⟨true,none,ρ,[12],nu,nw⟩)) B ls) r:=fun r=>IK (by simp[enterLoop,ae.push])
 exact avq (T:=fun r=>up (ux s ρ r) B ls) hM hX (fun r=>IL (GK (hs.push r))) (fun r=>((hs.push _).enter).up) hw hp ed (fun r=>atg hb) hn h3 h4 h7 (by omega) hI
theorem ayX {pl:List P} {dp bp:Nat} {i:Int} (hs:Ok s) (hw:Wk w) (ed:∀x∈pl,bJ w x) (dC:s.box dp bp=some (bD pl)) (hn:(pl.length:Int)<9223372036854775808) (h0:0≤i) (h1:i<w.rs.l.length):
  aw AP (.fn 35) [OW w,.aN dp bp 0 3 pl.length 0,I i] s=some (bB 3 ((ep w pl i).map aq),s):=by
 have key:∀ρ:Nat→AV,ρ 3=.ptr s.ag.length 0 0→ρ 4=.ptr s.ag.length 1 0→ρ 7=.ptr s.ag.length 2 0→ρ 11=.fn 74 [] [.bd [OW w] 0,.bd [I i] 0]→
   go AP Yc (.c (.rangeFunc (.tmp 11) [12] nu nw)::.blk 0::[.c Ba]) ⟨ρ,s.push ⟨[[OW w],[.aN dp bp 0 3 pl.length 0],[.slice .aA 0 []]],[]⟩⟩=some (bB 3 ((ep w pl i).map aq),s):=by
  intro ρ h3 h4 h7 dh
  obtain⟨b,r',hc,hE⟩:=M1 (avo hs hw ed dC hn h3 h4 h7) hw h0 h1 (i:=⟨[[OW w],[.aN dp bp 0 3 pl.length 0],[.slice .aA 0 []]],[]⟩) (done:=[]) (by have:=z7 hw h0 h1;simp;omega) ⟨_,none,rfl,Acc.start⟩ (fun p hp=>(jO hw h0 h1 hp).1)
  obtain⟨rfl,x,og,hb,hA⟩:=hE.never (fun _ _=>rfl)
  rw[B7 (x:=.tmp 11) dh]
  refine(gX (Option.bind · _) hc).trans ?_
  simp only[dI]
  refine(B6 (m:=s.push r') (lp:=⟨true,none,ρ,[12],nu,nw⟩) rfl rfl rfl).trans ?_
  obtain⟨bx,tk⟩:=r'
  simp only at hb hA
  subst hb
  have lJ:Acc s.ag.length 3 ((ep w pl i).map aq) x og tk:=hA
  simp only[go_sem,Ba,h7,lJ.leave,simprocAttr]
 have hp:∀r,aw AP (.fn 41) [OW w,I i] (s.push r)=some (.fn 74 [] [.bd [OW w] 0,.bd [I i] 0],s.push r):=fun r=>Nw (hs.push r)
 rw[aG (show AP 35=some Bt from rfl) rfl]
 simp only[OW]at key hp⊢
 simp only[go_sem,PE,hp,simprocAttr]
 exact key _ rfl rfl rfl rfl
end
section
variable{α:Type}
def lV (c:α→α→Int):List α→α→List α→List α
 |[],x,B=>x::B
 |a::A,x,B=>if c x a<0 then lV c A x (a::B)else(a::A).reverse++x::B
def cT (c:α→α→Int) (l:List α):List α:=l.foldl (fun acc x=>lV c acc.reverse x []) []
theorem aay {c:α→α→Int}:∀{A:List α} {x:α} {B:List α},(lV c A x B).Perm (A.reverse++x::B)
 |[],_,_=>Up _
 | a :: A, x, B => by
  simp only[lV]
  split
  ·refine aay.trans ?_
   rw[Aw,gK]
   exact List.Perm.append_left _ (List.Perm.swap _ _ _)
  ·exact Up _
theorem So {c:α→α→Int} {l:List α} {x:α}:cT c (l++[x])=lV c (cT c l).reverse x []:=by
 unfold cT;rw[DD];rfl
theorem vT {c:α→α→Int} {l:List α}:(cT c l).Perm l:=by
 have key:∀(r l:List α),(r.foldl (fun acc x=>lV c acc.reverse x []) l).Perm (l++r):=by
  intro r
  induction r with
  |nil=>intro l;rw[kR];exact Up _
  |cons x r ih=>
   intro l
   rw[ma]
   refine(ih _).trans ?_
   rw[show l++x::r=(l++[x])++r by simp]
   refine List.Perm.append_right _ ?_
   have:=aay (c:=c) (A:=l.reverse) (x:=x) (B:=[])
   rwa [NW]at this
 exact key l []
theorem ME {c:α→α→Int} {l:List α}:(cT c l).length=l.length:=vT.length_eq
theorem aaz {c:α→α→Int} {R:α→α→Prop} (tr:∀a b d,R a b→R b d→R a d):∀{A:List α} {x:α} {B:List α},
  (A.reverse++B).Pairwise R→(∀b∈B,R x b)→(∀a∈A,c x a<0→R x a)→(∀a∈A,¬c x a<0→R a x)→(lV c A x B).Pairwise R
 |[],x,B,h,hB,_,_=>by
  simp only[lV]
  exact rX.2 ⟨hB,by simpa using h⟩
 | a :: A, x, B, h, hB, h1, h2 => by
  simp only[lV]
  split
  ·rename_i hc
   refine aaz tr ?_ ?_ (fun y hy=>h1 y (cD _ hy)) fun y hy=>h2 y (cD _ hy)
   ·rw[Aw,gK]at h;exact h
   ·intro y hy
    rcases dr.1 hy with rfl|hy
    ·exact h1 _ (by simp) hc
    ·exact hB y hy
  ·rename_i hc
   have vt:=h2 a (by simp) hc
   rw[jj]at h⊢
   obtain⟨p1,p2,p3⟩:=h
   refine⟨p1,rX.2 ⟨hB,p2⟩,?_⟩
   intro y hy z hz
   have hyx:R y x:=by
    rw[Aw,dR]at hy
    rcases hy with hy|hy
    ·rw[Aw,jj]at p1
     exact tr _ _ _ (p1.2.2 y hy a (by simp)) vt
    ·rw[fS]at hy;rw[hy];exact vt
   rcases dr.1 hz with rfl|hz
   ·exact hyx
   ·exact p3 y hy z hz
theorem aoC {c:α→α→Int} {R:α→α→Prop} (tr:∀a b d,R a b→R b d→R a d) {l:List α}
  (h:l.Pairwise fun a x=>(c x a<0→R x a)∧(¬c x a<0→R a x)):(cT c l).Pairwise R:=by
 have key:∀n,n≤l.length→(cT c (l.take n)).Pairwise R:=by
  intro n
  induction n with
  |zero=>intro _;rw[DM];exact List.Pairwise.nil
  | succ n ih =>
   intro hn
   obtain⟨x,hx⟩:=get_some (l:=l) (k:=n) (by omega)
   rw[du hx,So]
   have aB:l=l.take n++x::l.drop (n+1):=by
    obtain⟨hk,he⟩:=bI.1 hx
    rw[←he,NJ,DL]
   have hp:∀a∈l.take n,(c x a<0→R x a)∧(¬c x a<0→R a x):=fun a ha=>by
    have h2:=h
    rw[aB]at h2
    exact(jj.1 h2).2.2 a ha x (by simp)
   have hm:∀a,a∈(cT c (l.take n)).reverse→a∈l.take n:=fun a ha=>(vT.mem_iff).1 (I7.1 ha)
   refine aaz tr ?_ (by simp) (fun a ha=>(hp a (hm a ha)).1) fun a ha=>(hp a (hm a ha)).2
   rw[NW,kR];exact ih (by omega)
 have:=key l.length (aI _)
 rwa [er]at this
end
structure Cell (X:List AV→ae) (d b:Nat):Prop where
 box:∀r,(X r).box d b=some r
 set:∀r r',(X r).dQ d b r'=X r'
 ro:∀r,(X r).ro≤d
 ok:∀r,Ok (X r)
section
variable{X:List AV→ae} {d b:Nat}
theorem Cell.lt (h:Cell X d b) (r:List AV):d<(X r).ag.length:=by
 apply tj
 intro hn
 have:=h.box r
 rw[ae.box,lu (by omega)]at this;simp at this
theorem Cell.push (h:Cell X d b) (q:Rec):Cell (fun r=>(X r).push q) d b:=by
 refine⟨fun r=>eA (h.box r) q,fun r r'=>?_,h.ro,fun r=>(h.ok r).push q⟩
 rw[←h.set r r']
 have:=h.lt r
 simp only[ae.dQ,ae.bG,ae.push,H9 this]
theorem Cell.store (h:Cell X d b) {q:Rec} {row:List AV} {off n:Nat} {y:AV} (hc:y.cells.all AV.bK=true) (hf:((X row).push q).fitAll d y.cells=some (y.cells,(X row).push q)) (hn:y.cells.length=n) (ho:off+n≤row.length):
  ((X row).push q).store n (.ptr d b off) y=some ((X (setCells row off y.cells)).push q):=by
 have aB:=h.lt row
 have aF:¬d=((X row).push q).cur:=by rw[gD];omega
 have bO:((X row).push q).ro≤d:=h.ro row
 have dC:((X row).push q).box d b=some row:=(h.push q).box row
 have bu:((X row).push q).dQ d b (setCells row off y.cells)=(X (setCells row off y.cells)).push q:=(h.push q).set row (setCells row off y.cells)
 simp only[ae.store,bO,hn,hc,wX,cI,aF,eu,hf,dC,ho,bu]
end
theorem Na {P Q R ys:List AV} (h:Q.length=ys.length):setCells (P++(Q++R)) P.length ys=P++(ys++R):=by
 induction Q generalizing P ys with
 |nil=>
  cases ys with
  |nil=>rfl
  |cons y t=>simp at h
 | cons x q ih =>
  cases ys with
  |nil=>simp at h
  |cons y t=>
   simp only[setCells,fZ]
   rw[adh]
   have:=ih (P:=P++[y]) (ys:=t) (by simpa using h)
   simp only[cG,cH,jU,gK,fZ,gL,gU]at this
   exact this
section
variable{s:ae} {X:List AV→ae} {d b:Nat}
def ch (l:List Int):List AV:=l.map fun x=>I x
theorem Yu {l:List Int}:(ch l).length=l.length:=by simp[ch]
theorem azv {l:List Int} {g:FuncId} {caps:List AV} {c:Int→Int→Int} {S:Int→Prop} (hX:Cell X d b) (hl:l.length<1000000) (hS:∀x∈l,S x)
  (hg:∀x y,S x→S y→∀row q,aw AP (.fn g) (I x::I y::caps) ((X row).push q)=some (I (c x y),(X row).push q)):
  aw AP (.fn 105) [.aN d b 0 1 l.length 0,I 0,I l.length,.fn g [] caps] (X (ch l))=some (.tuple [],X (ch (cT c l))):=by
 have key : ∀ (k : Nat) ρ m, k ≤ l.length → (0 < k ∧ ρ 0 = .aN d b 0 1 l.length 0 ∧ ρ 1 = I 0 ∧ ρ 2 = I l.length ∧ ρ 3 = .fn g [] caps ∧ ρ 8 = I k ∧ m = (X (ch (cT c (l.take k) ++ l.drop k))).push ⟨[], []⟩) →
   go AP Yg (.c (.loop yL)::arX) ⟨ρ,m⟩=some (.tuple [],X (ch (cT c l))):=by
  refine bA l.length _ _ ?_ ?_
  ·rintro k ρ m hk ⟨Cx,h0,h1,h2,h3,h8,rfl⟩ ih
   obtain⟨x,hx⟩:=get_some hk
   have LU:l.drop k=x::l.drop (k+1):=by
    obtain⟨sI,he⟩:=bI.1 hx
    rw[←he,NJ]
   have aY:=bh hk (show(l.length:Int)<_ by omega)
   have fj:cT c (l.take (k+1))=lV c (cT c (l.take k)).reverse x []:=by rw[du hx,So]
   have R2:=hS x (bE hx)
   have gm:∀a∈(cT c (l.take k)).reverse,S a:=fun a ha=>hS a (oB ((vT.mem_iff).1 (I7.1 ha)))
   have hlen:(cT c (l.take k)).reverse.length=k:=by rw[DF,ME,ez];omega
   have inner:∀(A B:List Int) ρ m,(∀a∈A,S a)→A.length+B.length=k→lV c A x B=cT c (l.take (k+1))→(ρ 0=.aN d b 0 1 l.length 0∧ρ 1=I 0∧ρ 2=I l.length∧ρ 3=.fn g [] caps∧ρ 8=I k∧ρ 9=I A.length∧m=(X (ch (A.reverse++x::(B++l.drop (k+1))))).push ⟨[],[]⟩)→
     go AP Yg (.c (.loop ER)::arY) ⟨ρ,m⟩=some (.tuple [],X (ch (cT c l))):=by
    intro A
    induction A with
    |nil=>
     rintro B ρ m _ Hb mW ⟨h0,h1,h2,h3,h8,h9,rfl⟩
     have hp:decide ((0:Int)<0)=false:=rfl
     have h9:ρ 9=I 0:=h9
     rw[go_loop]
     simp only[lV]at mW
     rw[show([]:List Int).reverse++x::(B++l.drop (k+1))=cT c (l.take (k+1))++l.drop (k+1)by rw[←mW];rfl]
     generalize ch (cT c (l.take (k+1))++l.drop (k+1))=Z at*
     simp only[go_sem,ER,KC,h1,h8,h9,aY,simprocAttr]
     refine ih _ _ ?_
     exact⟨by omega,h0,h1,h2,h3,rfl,rfl⟩
    | cons a A R9 =>
     rintro B ρ m hA Hb mW ⟨h0,h1,h2,h3,h8,h9,rfl⟩
     have hp:decide ((0:Int)<(((a::A).length:Nat):Int))=true:=bS (by simp)
     rw[go_loop]
     rw[cH]at Hb h9 hp
     have jr:IntKind.i64.wrap (((A.length+1:Nat):Int)-1)=(A.length:Int):=by rw[bq (by omega) (by omega)];omega
     have Ht:=zM (d:=d) (b:=b) (es:=1) (i:=A.length+1) (n:=l.length) (by omega)
     have oJ:=zM (d:=d) (b:=b) (es:=1) (i:=A.length) (n:=l.length) (by omega)
     have mq:=hg x a R2 (hA a (by simp))
     have cw:ch ((a::A).reverse++x::(B++l.drop (k+1)))=ch A.reverse++([I a]++([I x]++ch (B++l.drop (k+1)))):=by simp[ch]
     have fC:(ch A.reverse).length=A.length:=by rw[Yu,DF]
     have dC:=fun q=>(hX.push q).box (ch A.reverse++([I a]++([I x]++ch (B++l.drop (k+1)))))
     have mV:(ch A.reverse++([I a]++([I x]++ch (B++l.drop (k+1)))))[0+A.length*1]? =some (I a):=by
      rw[show 0+A.length*1=A.length by omega,←fC];exact at_len
     have pw:(ch A.reverse++([I a]++([I x]++ch (B++l.drop (k+1)))))[0+(A.length+1)*1]? =some (I x):=by
      rw[show 0+(A.length+1)*1=A.length+1 by omega,←fC];exact AN
     rw[cw]
     have bu:∀(q:Rec) (row:List AV) (off:Nat) (v:Int),off+1≤row.length→((X row).push q).store 1 (.ptr d b off) (I v)=some ((X (setCells row off [I v])).push q):=fun q row off v ho=>hX.store rfl (Lh rfl) rfl ho
     have jq:=fun q=>bu q (ch A.reverse++([I a]++([I x]++ch (B++l.drop (k+1))))) (0+(A.length+1)*1) a (by simp only[cG,fC,cH,jU];omega)
     rw[show setCells (ch A.reverse++([I a]++([I x]++ch (B++l.drop (k+1))))) (0+(A.length+1)*1) [I a]=ch A.reverse++([I a]++([I a]++ch (B++l.drop (k+1))))by
      have:=Na (P:=ch A.reverse++[I a]) (Q:=[I x]) (R:=ch (B++l.drop (k+1))) (ys:=[I a]) rfl
      rw[cG,fC,gK,gK]at this
      rw[show 0+(A.length+1)*1=A.length+[I a].length by simp];exact this]at jq
     have la:=fun q=>bu q (ch A.reverse++([I a]++([I a]++ch (B++l.drop (k+1))))) (0+A.length*1) x (by simp only[cG,fC,cH,jU];omega)
     rw[show setCells (ch A.reverse++([I a]++([I a]++ch (B++l.drop (k+1))))) (0+A.length*1) [I x]=ch (A.reverse++x::(a::B++l.drop (k+1)))by
      have:=Na (P:=ch A.reverse) (Q:=[I a]) (R:=[I a]++ch (B++l.drop (k+1))) (ys:=[I x]) rfl
      rw[fC]at this
      rw[show 0+A.length*1=A.length by omega,this];simp[ch]]at la
     rcases Decidable.em (c x a<0)with hc|hc
     ·have hd:decide (c x a<0)=true:=bS hc
      have zp:=R9 (a::B)
      generalize ch (A.reverse++x::(a::B++l.drop (k+1)))=Z3 at la zp
      generalize ch A.reverse++([I a]++([I a]++ch (B++l.drop (k+1))))=Z2 at jq la
      generalize ch A.reverse++([I a]++([I x]++ch (B++l.drop (k+1))))=Z1 at dC mV pw jq
      simp only[go_sem,ER,h0,h1,h3,h9,hp,jr,oJ,Ht,dC,mV,pw,mq,hd,jq,la,simprocAttr]
      refine zp _ _ (fun y hy=>hA y (cD _ hy)) (by rw[cH];omega) ?_ ?_
      ·simp only[lV]at mW;rwa [aj hc]at mW
      ·exact⟨h0,h1,h2,h3,h8,rfl,rfl⟩
     ·have hd:decide (c x a<0)=false:=bX hc
      simp only[lV]at mW
      rw[ak hc]at mW
      have hz:ch A.reverse++([I a]++([I x]++ch (B++l.drop (k+1))))=ch (cT c (l.take (k+1))++l.drop (k+1)):=by
       rw[←mW,←cw];simp
      generalize ch (cT c (l.take (k+1))++l.drop (k+1))=Z3 at hz ih
      generalize ch A.reverse++([I a]++([I x]++ch (B++l.drop (k+1))))=Z1 at dC mV pw jq hz
      subst hz
      simp only[go_sem,ER,KC,h0,h1,h3,h8,h9,hp,jr,oJ,Ht,dC,mV,pw,mq,hd,aY,simprocAttr]
      refine ih _ _ ?_
      exact⟨by omega,h0,h1,h2,h3,rfl,rfl⟩
   have hZ:ch (cT c (l.take k)++l.drop k)=ch ((cT c (l.take k)).reverse.reverse++x::([]++l.drop (k+1))):=by
    rw[NW,gL,←LU]
   have bH:=inner (cT c (l.take k)).reverse []
   rw[←hZ,hlen]at bH
   generalize ch (cT c (l.take k)++l.drop k)=Z at bH
   simp only[go_sem,yL,h2,h8,aL hk,simprocAttr]
   refine bH _ _ gm (by simp) fj.symm ?_
   exact⟨h0,h1,h2,h3,h8,rfl,rfl⟩
  ·rintro ρ m ⟨Cx,h0,h1,h2,h3,h8,rfl⟩
   rw[er,fe,kR]
   simp only[go_sem,yL,h2,h8,bg,simprocAttr]
 have eK:IntKind.i64.wrap (0+1)=((1:Nat):Int):=rfl
 cases l with
 |nil=>
  have hd:decide ((1:Int)<0)=false:=rfl
  have vN:IntKind.i64.wrap (0+1)=1:=rfl
  rw[aG (show AP 105=some yV from rfl) rfl]
  simp only[go_sem,KB,jU,fY,simprocAttr]
  rw[go_loop]
  simp only[go_sem,yL,simprocAttr]
  rfl
 |cons y r=>
  have zr:=key 1
  have e1:ch (cT c ((y::r).take 1)++(y::r).drop 1)=ch (y::r):=rfl
  rw[e1]at zr
  generalize nM:y::r=l at*
  rw[aG (show AP 105=some yV from rfl) rfl]
  simp only[go_sem,KB,simprocAttr]
  refine zr _ _ (by rw[←nM];simp) ?_
  exact⟨by decide,rfl,rfl,rfl,rfl,rfl,rfl⟩
end
theorem awN {p:P} (h:p.an.ok 1):(aq p).all AV.bK=true:=rfl
theorem awO {p:P} {m:ae} {d:Nat} (h:p.an.ok 1):m.fitAll d (aq p)=some (aq p,m):=by
 refine Lh ?_
 rcases h.2 with h|h|h<;>simp[aq,Sl.v,AV.isClosed,AV.kI,h]
section
variable{s:ae} {X:List AV→ae} {d b:Nat}
theorem azu {l:List P} {g:FuncId} {caps:List AV} {c:P→P→Int} {S:P→Prop} (hX:Cell X d b) (hl:l.length<1000000) (hS:∀x∈l,S x) (aQ:∀x,S x→x.an.ok 1) {D:P→P→Prop} (hD:l.Pairwise fun a x=>D x a)
  (hg:∀x y,D x y→∀row q,aw AP (.fn g) (.agg (aq x)::.agg (aq y)::caps) ((X row).push q)=some (I (c x y),(X row).push q)):
  aw AP (.fn 110) [.aN d b 0 3 l.length 0,I 0,I l.length,.fn g [] caps] (X (bD l))=some (.tuple [],X (bD (cT c l))):=by
 have key : ∀ (k : Nat) ρ m, k ≤ l.length → (0 < k ∧ ρ 0 = .aN d b 0 3 l.length 0 ∧ ρ 1 = I 0 ∧ ρ 2 = I l.length ∧ ρ 3 = .fn g [] caps ∧ ρ 8 = I k ∧ m = (X (bD (cT c (l.take k) ++ l.drop k))).push ⟨[], []⟩) →
   go AP Yf (.c (.loop yK)::arV) ⟨ρ,m⟩=some (.tuple [],X (bD (cT c l))):=by
  refine bA l.length _ _ ?_ ?_
  ·rintro k ρ m hk ⟨Cx,h0,h1,h2,h3,h8,rfl⟩ ih
   obtain⟨x,hx⟩:=get_some hk
   have LU:l.drop k=x::l.drop (k+1):=by
    obtain⟨sI,he⟩:=bI.1 hx
    rw[←he,NJ]
   have aY:=bh hk (show(l.length:Int)<_ by omega)
   have fj:cT c (l.take (k+1))=lV c (cT c (l.take k)).reverse x []:=by rw[du hx,So]
   have R2:=hS x (bE hx)
   have gm:∀a∈(cT c (l.take k)).reverse,S a∧D x a:=fun a ha=>by
    have LJ:=(vT.mem_iff).1 (I7.1 ha)
    refine⟨hS a (oB LJ),?_⟩
    have h2:=hD
    rw[←DL k l,LU]at h2
    exact(jj.1 h2).2.2 a LJ x (by simp)
   have hlen:(cT c (l.take k)).reverse.length=k:=by rw[DF,ME,ez];omega
   have inner:∀(A B:List P) ρ m,(∀a∈A,S a∧D x a)→A.length+B.length=k→lV c A x B=cT c (l.take (k+1))→(ρ 0=.aN d b 0 3 l.length 0∧ρ 1=I 0∧ρ 2=I l.length∧ρ 3=.fn g [] caps∧ρ 8=I k∧ρ 9=I A.length∧m=(X (bD (A.reverse++x::(B++l.drop (k+1))))).push ⟨[],[]⟩)→
     go AP Yf (.c (.loop EP)::arW) ⟨ρ,m⟩=some (.tuple [],X (bD (cT c l))):=by
    intro A
    induction A with
    |nil=>
     rintro B ρ m _ Hb mW ⟨h0,h1,h2,h3,h8,h9,rfl⟩
     have hp:decide ((0:Int)<0)=false:=rfl
     have h9:ρ 9=I 0:=h9
     rw[go_loop]
     simp only[lV]at mW
     rw[show([]:List P).reverse++x::(B++l.drop (k+1))=cT c (l.take (k+1))++l.drop (k+1)by rw[←mW];rfl]
     generalize bD (cT c (l.take (k+1))++l.drop (k+1))=Z at*
     simp only[go_sem,EP,KA,h1,h8,h9,aY,simprocAttr]
     refine ih _ _ ?_
     exact⟨by omega,h0,h1,h2,h3,rfl,rfl⟩
    | cons a A R9 =>
     rintro B ρ m hA Hb mW ⟨h0,h1,h2,h3,h8,h9,rfl⟩
     have hp:decide ((0:Int)<(((a::A).length:Nat):Int))=true:=bS (by simp)
     rw[go_loop]
     rw[cH]at Hb h9 hp
     have jr:IntKind.i64.wrap (((A.length+1:Nat):Int)-1)=(A.length:Int):=by rw[bq (by omega) (by omega)];omega
     have Ht:=zM (d:=d) (b:=b) (es:=3) (i:=A.length+1) (n:=l.length) (by omega)
     have oJ:=zM (d:=d) (b:=b) (es:=3) (i:=A.length) (n:=l.length) (by omega)
     have mq:=hg x a (hA a (by simp)).2
     have cw:bD ((a::A).reverse++x::(B++l.drop (k+1)))=bD A.reverse++(aq a++(aq x++bD (B++l.drop (k+1)))):=by
      rw[Aw,gK,Lj,List.singleton_append,y7,y7]
     have RP:bD (A.reverse++x::(a::B++l.drop (k+1)))=bD A.reverse++(aq x++(aq a++bD (B++l.drop (k+1)))):=by
      rw[show A.reverse++x::(a::B++l.drop (k+1))=A.reverse++x::a::(B++l.drop (k+1))from rfl,Lj,y7,y7]
     have fC:(bD A.reverse).length=A.length*3:=by rw[GY,DF]
     have zE:∀p:P,(aq p).length=3:=fun p=>rfl
     have dC:=fun q=>(hX.push q).box (bD A.reverse++(aq a++(aq x++bD (B++l.drop (k+1)))))
     have mV:pf (0+A.length*3) 3 (bD A.reverse++(aq a++(aq x++bD (B++l.drop (k+1)))))=some (aq a):=by
      rw[←cw]
      refine QF ?_
      rw[Aw,gK,←DF (as:=A)];exact at_len
     have pw:pf (0+(A.length+1)*3) 3 (bD A.reverse++(aq a++(aq x++bD (B++l.drop (k+1)))))=some (aq x):=by
      rw[←cw]
      refine QF ?_
      rw[Aw,gK,←DF (as:=A)];exact AN
     rw[cw]
     have bu:∀(q:Rec) (row:List AV) (off:Nat) (v:P),S v→off+3≤row.length→((X row).push q).store 3 (.ptr d b off) (.agg (aq v))=some ((X (setCells row off (aq v))).push q):=fun q row off v hv ho=>hX.store (y:=.agg (aq v)) (awN (aQ v hv)) (awO (aQ v hv)) rfl ho
     have jq:=fun q=>bu q (bD A.reverse++(aq a++(aq x++bD (B++l.drop (k+1))))) (0+(A.length+1)*3) a (hA a (by simp)).1 (by simp only[cG,fC,zE];omega)
     rw[show setCells (bD A.reverse++(aq a++(aq x++bD (B++l.drop (k+1))))) (0+(A.length+1)*3) (aq a)=bD A.reverse++(aq a++(aq a++bD (B++l.drop (k+1))))by
      have:=Na (P:=bD A.reverse++aq a) (Q:=aq x) (R:=bD (B++l.drop (k+1))) (ys:=aq a) rfl
      rw[cG,fC,zE,gK,gK]at this
      rw[show 0+(A.length+1)*3=A.length*3+3 by omega];exact this]at jq
     have la:=fun q=>bu q (bD A.reverse++(aq a++(aq a++bD (B++l.drop (k+1))))) (0+A.length*3) x R2 (by simp only[cG,fC,zE];omega)
     rw[show setCells (bD A.reverse++(aq a++(aq a++bD (B++l.drop (k+1))))) (0+A.length*3) (aq x)=bD (A.reverse++x::(a::B++l.drop (k+1)))by
      have:=Na (P:=bD A.reverse) (Q:=aq a) (R:=aq a++bD (B++l.drop (k+1))) (ys:=aq x) rfl
      rw[fC]at this
      rw[show 0+A.length*3=A.length*3 by omega,this,RP]]at la
     rcases Decidable.em (c x a<0)with hc|hc
     ·have hd:decide (c x a<0)=true:=bS hc
      have zp:=R9 (a::B)
      generalize bD (A.reverse++x::(a::B++l.drop (k+1)))=Z3 at la zp
      generalize bD A.reverse++(aq a++(aq a++bD (B++l.drop (k+1))))=Z2 at jq la
      generalize bD A.reverse++(aq a++(aq x++bD (B++l.drop (k+1))))=Z1 at dC mV pw jq
      simp only[go_sem,EP,h0,h1,h3,h9,hp,jr,oJ,Ht,dC,mV,pw,mq,hd,jq,la,simprocAttr]
      refine zp _ _ (fun y hy=>hA y (cD _ hy)) (by rw[cH];omega) ?_ ?_
      ·simp only[lV]at mW;rwa [aj hc]at mW
      ·exact⟨h0,h1,h2,h3,h8,rfl,rfl⟩
     ·have hd:decide (c x a<0)=false:=bX hc
      simp only[lV]at mW
      rw[ak hc]at mW
      have hz:bD A.reverse++(aq a++(aq x++bD (B++l.drop (k+1))))=bD (cT c (l.take (k+1))++l.drop (k+1)):=by
       rw[←cw,←mW,gK];rfl
      generalize bD (cT c (l.take (k+1))++l.drop (k+1))=Z3 at hz ih
      generalize bD A.reverse++(aq a++(aq x++bD (B++l.drop (k+1))))=Z1 at dC mV pw jq hz
      subst hz
      simp only[go_sem,EP,KA,h0,h1,h3,h8,h9,hp,jr,oJ,Ht,dC,mV,pw,mq,hd,aY,simprocAttr]
      refine ih _ _ ?_
      exact⟨by omega,h0,h1,h2,h3,rfl,rfl⟩
   have hZ:bD (cT c (l.take k)++l.drop k)=bD ((cT c (l.take k)).reverse.reverse++x::([]++l.drop (k+1))):=by
    rw[NW,gL,←LU]
   have bH:=inner (cT c (l.take k)).reverse []
   rw[←hZ,hlen]at bH
   generalize bD (cT c (l.take k)++l.drop k)=Z at bH
   simp only[go_sem,yK,h2,h8,aL hk,simprocAttr]
   refine bH _ _ gm (by simp) fj.symm ?_
   exact⟨h0,h1,h2,h3,h8,rfl,rfl⟩
  ·rintro ρ m ⟨Cx,h0,h1,h2,h3,h8,rfl⟩
   rw[er,fe,kR]
   simp only[go_sem,yK,h2,h8,bg,simprocAttr]
 have eK:IntKind.i64.wrap (0+1)=((1:Nat):Int):=rfl
 cases l with
 |nil=>
  have hd:decide ((1:Int)<0)=false:=rfl
  have vN:IntKind.i64.wrap (0+1)=1:=rfl
  rw[aG (show AP 110=some yU from rfl) rfl]
  simp only[go_sem,Kz,jU,fY,simprocAttr]
  rw[go_loop]
  simp only[go_sem,yK,simprocAttr]
  rfl
 |cons y r=>
  have zr:=key 1
  have e1:bD (cT c ((y::r).take 1)++(y::r).drop 1)=bD (y::r):=rfl
  rw[e1]at zr
  generalize nM:y::r=l at*
  rw[aG (show AP 110=some yU from rfl) rfl]
  simp only[go_sem,Kz,simprocAttr]
  refine zr _ _ (by rw[←nM];simp) ?_
  exact⟨by decide,rfl,rfl,rfl,rfl,rfl,rfl⟩
end
section
variable{s:ae}
def len8 : ByteArray := ⟨#[0, 1, 2, 2, 3, 3, 3, 3, 4, 4, 4, 4, 4, 4, 4, 4, 5, 5, 5, 5, 5, 5, 5, 5, 5, 5, 5, 5, 5, 5, 5, 5, 6, 6, 6, 6, 6, 6, 6, 6, 6, 6, 6, 6, 6, 6, 6, 6, 6, 6, 6, 6, 6, 6, 6, 6, 6, 6, 6, 6, 6, 6, 6, 6, 7, 7, 7, 7, 7, 7, 7, 7, 7, 7, 7, 7, 7, 7, 7, 7, 7, 7, 7, 7, 7, 7, 7, 7, 7, 7, 7, 7, 7, 7, 7, 7, 7, 7, 7, 7, 7, 7, 7, 7, 7, 7, 7, 7, 7, 7, 7, 7, 7, 7, 7, 7, 7, 7, 7, 7, 7, 7, 7, 7, 7, 7, 7, 7, 8, 8, 8, 8, 8, 8, 8, 8, 8, 8, 8, 8, 8, 8, 8, 8, 8, 8, 8, 8, 8, 8, 8, 8, 8, 8, 8, 8, 8, 8, 8, 8, 8, 8, 8, 8, 8, 8, 8, 8, 8, 8, 8, 8, 8, 8, 8, 8, 8, 8, 8, 8, 8, 8, 8, 8, 8, 8, 8, 8, 8, 8, 8, 8, 8, 8, 8, 8, 8, 8, 8, 8, 8, 8, 8, 8, 8, 8, 8, 8, 8, 8, 8, 8, 8, 8, 8, 8, 8, 8, 8, 8, 8, 8, 8, 8, 8, 8, 8, 8, 8, 8, 8, 8, 8, 8, 8, 8, 8, 8, 8, 8, 8, 8, 8, 8, 8, 8, 8, 8, 8, 8, 8, 8, 8, 8, 8, 8]⟩
theorem asZ {n:Nat} (h:n≤12):∃b:Int,zJ (.v (.string len8)) (.v (.int .u8 (n:Int)))=some (.v (.int .u8 b)):=by
 have h:n=0∨n=1∨n=2∨n=3∨n=4∨n=5∨n=6∨n=7∨n=8∨n=9∨n=10∨n=11∨n=12:=by omega
 rcases h with rfl|rfl|rfl|rfl|rfl|rfl|rfl|rfl|rfl|rfl|rfl|rfl|rfl<;>exact⟨_,rfl⟩
theorem bits_Len64 {n:Nat} (h:n≤12):∃v,aw AP (.fn 119) [.v (.int .u64 (n:Int))] s=some (I v,s):=by
 obtain⟨b,hb⟩:=asZ h
 have hg:∀m:Int,(n:Int)<m→cC .geq (.v (.int .u64 (n:Int))) (.v (.int .u64 m))=some (B false):=fun m hm=>by
  simp[cC,pI,rH,show¬(m≤(n:Int))by omega]
 have h1:=hg 4294967296 (by omega)
 have h2:=hg 65536 (by omega)
 have h3:=hg 256 (by omega)
 have hw:IntKind.u8.wrap (n:Int)=(n:Int):=by
  have h:n=0∨n=1∨n=2∨n=3∨n=4∨n=5∨n=6∨n=7∨n=8∨n=9∨n=10∨n=11∨n=12:=by omega
  rcases h with rfl|rfl|rfl|rfl|rfl|rfl|rfl|rfl|rfl|rfl|rfl|rfl|rfl<;>rfl
 refine⟨IntKind.i64.wrap (0+IntKind.i64.wrap b),?_⟩
 first|rw[show len8=Lib.len8tab from rfl]at hb|simp only[len8]at hb
 rw[aG (show AP 119=some Ff from rfl) rfl]
 simp only[go_sem,VJ,h1,h2,h3,hw,hb,simprocAttr]
theorem WX {n:Nat} (h:n≤12):∃v,aw AP (.fn 71) [.v (.int .u64 (n:Int))] s=some (I v,s):=by
 obtain⟨v,hv⟩:=bits_Len64 (s:=s.push ⟨[],[]⟩) h
 refine⟨v,?_⟩
 rw[aG (show AP 71=some Fe from rfl) rfl]
 simp only[go_sem,VI,hv,simprocAttr]
end
section
variable{X:List AV→ae} {d b:Nat}
theorem azs {l:List Int} {g:FuncId} {caps:List AV} {c:Int→Int→Int} {S:Int→Prop} (hX:Cell X d b) (hl:l.length≤12) (hS:∀x∈l,S x)
  (hg:∀x y,S x→S y→∀row q1 q2 q3,aw AP (.fn g) (I x::I y::caps) ((((X row).push q1).push q2).push q3)=some (I (c x y),(((X row).push q1).push q2).push q3)):
  aw AP (.fn 33) [.aN d b 0 1 l.length 0,.fn g [] caps] (X (ch l))=some (.tuple [],X (ch (cT c l))):=by
 have hi:∀q1 q2,aw AP (.fn 105) [.aN d b 0 1 l.length 0,I 0,I l.length,.fn g [] caps] (((X (ch l)).push q1).push q2)=some (.tuple [],((X (ch (cT c l))).push q1).push q2):=fun q1 q2=>
  azv (X:=fun r=>((X r).push q1).push q2) ((hX.push q1).push q2) (by omega) hS (fun x y hx hy row q=>hg x y hx hy row q1 q2 q)
 have tW:decide ((20:Int)≤(l.length:Int))=false:=by simp;omega
 have YU:decide ((20:Int)<(l.length:Int))=false:=by simp;omega
 have bu:∀q1,aw AP (.fn 68) [.aN d b 0 1 l.length 0,I l.length,.fn g [] caps] ((X (ch l)).push q1)=some (.tuple [],(X (ch (cT c l))).push q1):=fun q1=>by
  have hi:=hi q1
  generalize ch l=Z1 at*
  generalize ch (cT c l)=Z2 at*
  rw[aG (show AP 68=some BD from rfl) rfl]
  simp only[go_sem,P0,simprocAttr]
  rw[go_loop]
  simp only[go_sem,P1,KE,tW,hi,simprocAttr]
  rw[go_loop]
  simp only[go_sem,KD,YU,simprocAttr]
 generalize ch l=Z1 at*
 generalize ch (cT c l)=Z2 at*
 rw[aG (show AP 33=some BA from rfl) rfl]
 simp only[go_sem,PX,yc,bu,simprocAttr]
theorem azq {l:List P} {g:FuncId} {caps:List AV} {c:P→P→Int} (hX:Cell X d b) (hl:l.length≤12) (aQ:∀x∈l,x.an.ok 1) {D:P→P→Prop} (hD:l.Pairwise fun a x=>D x a)
  (hg:∀x y,D x y→∀row q1 q2 q3,aw AP (.fn g) (.agg (aq x)::.agg (aq y)::caps) ((((X row).push q1).push q2).push q3)=some (I (c x y),(((X row).push q1).push q2).push q3)):
  aw AP (.fn 36) [.aN d b 0 3 l.length 0,.fn g [] caps] (X (bD l))=some (.tuple [],X (bD (cT c l))):=by
 have hi:∀q1 q2,aw AP (.fn 110) [.aN d b 0 3 l.length 0,I 0,I l.length,.fn g [] caps] (((X (bD l)).push q1).push q2)=some (.tuple [],((X (bD (cT c l))).push q1).push q2):=fun q1 q2=>
  azu (X:=fun r=>((X r).push q1).push q2) ((hX.push q1).push q2) (by omega) (S:=fun x=>x.an.ok 1) aQ (fun _ h=>h) hD (fun x y dX row q=>hg x y dX row q1 q2 q)
 have dZ:decide ((l.length:Int)≤12)=true:=by simp;omega
 have vN:IntKind.i64.wrap ((l.length:Int)-0)=(l.length:Int):=by rw[Int.sub_zero];exact bq (by omega) (by omega)
 have zA:∀(q1:Rec) (v:Int),aw AP (.fn 70) [.aN d b 0 3 l.length 0,I 0,I l.length,I v,.fn g [] caps] ((X (bD l)).push q1)=some (.tuple [],(X (bD (cT c l))).push q1):=fun q1 v=>by
  have hi:=hi q1
  generalize bD l=Z1 at*
  generalize bD (cT c l)=Z2 at*
  rw[aG (show AP 70=some BB from rfl) rfl]
  simp only[go_sem,PY,simprocAttr]
  rw[go_loop]
  simp only[go_sem,PZ,vN,dZ,hi,simprocAttr]
 have db:∀s,∃v,aw AP (.fn 71) [.v (.int .u64 (l.length:Int))] s=some (I v,s):=fun s=>WX hl
 obtain⟨v,hv⟩:=db ((X (bD l)).push ⟨[],[]⟩)
 have hw:IntKind.u64.wrap (l.length:Int)=(l.length:Int):=by
  generalize l.length=n at hl
  have h:n=0∨n=1∨n=2∨n=3∨n=4∨n=5∨n=6∨n=7∨n=8∨n=9∨n=10∨n=11∨n=12:=by omega
  rcases h with rfl|rfl|rfl|rfl|rfl|rfl|rfl|rfl|rfl|rfl|rfl|rfl|rfl<;>rfl
 generalize bD l=Z1 at*
 generalize bD (cT c l)=Z2 at*
 rw[aG (show AP 36=some Bz from rfl) rfl]
 simp only[go_sem,PW,yc,hw,hv,zA,simprocAttr]
end
section
variable{s:ae} {w:W}
theorem axc {a b:P} (hs:Ok s) (ha:bJ w a) (hb:bJ w b) (hw:Wk w) (aF:a.req≠b.req):aw AP (.fn 37) [.agg (aq a),.agg (aq b)] s=some (I (a.req-b.req),s):=by
 have fV:=hw.v.rl
 have:=ha.r0
 have:=ha.r1
 have:=hb.r0
 have:=hb.r1
 have eK:IntKind.i64.wrap (a.req-b.req)=a.req-b.req:=bq (by omega) (by omega)
 have hd:decide (a.req=b.req)=false:=bX aF
 rw[aG (show AP 37=some FI from rfl) rfl]
 simp only[go_sem,V4,aF,eK,bV,j3,tO,simprocAttr]
theorem aw7 {a b:Int} {d:Nat} (hs:Ok s) (hw:Wk w) (ha:0≤a∧a<w.rs.l.length) (hb:0≤b∧b<w.rs.l.length) (dC:s.box d 0=some (aW w)):aw AP (.fn 34) [I a,I b,.ptr d 0 0] s=some (I ((w.rq b).val-(w.rq a).val),s):=by
 have ra:=Sl.ix (f:=aS) hw.ok.rs (W.Ip ha.1 ha.2)
 have rb:=Sl.ix (f:=aS) hw.ok.rs (W.Ip hb.1 hb.2)
 rw[show((a.toNat:Nat):Int)=a by omega]at ra
 rw[show((b.toNat:Nat):Int)=b by omega]at rb
 have v1:=(hw.rq ha.1 ha.2).uF
 have v2:=(hw.rq ha.1 ha.2).tc
 have v3:=(hw.rq hb.1 hb.2).uF
 have v4:=(hw.rq hb.1 hb.2).tc
 have eK:IntKind.i64.wrap ((w.rq b).val-(w.rq a).val)=(w.rq b).val-(w.rq a).val:=bq (by omega) (by omega)
 have hk:=fun r=>eA dC r
 simp only[aS,aW,Sl.v]at ra rb hk
 rw[aG (show AP 34=some FE from rfl) rfl]
 simp only[go_sem,V0,hk,ra,rb,eK,simprocAttr]
end
def eJ (w:W) (pl:List P) (i:Int):List P:=match ep w pl i with
 |[]=>pl
 |p::_=>pl++[p]
def rM (n:Nat):List Int:=(List.range n).map fun i:Nat=>(i:Int)
theorem awJ {n:Nat}:rM (n+1)=rM n++[(n:Int)]:=by simp[rM,DI]
theorem M7 {n:Nat}:(rM n).length=n:=by simp[rM]
theorem acO {n:Nat} {i:Int}:i∈rM n↔0≤i∧i<n:=by
 unfold rM
 simp only[cN,pW]
 constructor
 ·rintro⟨k,hk,rfl⟩;omega
 ·rintro⟨h0,h1⟩;exact⟨i.toNat,by omega,by omega⟩
def iu (w:W):List Int:=cT (fun a b=>(w.rq b).val-(w.rq a).val) (rM w.rs.l.length)
def oV (w:W):List P:=(iu w).foldl (eJ w) []
def gP (w:W):List P:=cT (fun a b:P=>a.req-b.req) (oV w)
section
variable{w:W}
theorem akY (hw:Wk w) {pl:List P} {i:Int} (hi:0≤i∧i<w.rs.l.length) (h:∀p∈pl,bJ w p):∀p∈eJ w pl i,bJ w p:=by
 intro p hp
 unfold eJ at hp
 split at hp
 ·exact h p hp
 ·rename_i q r he
  rcases dR.1 hp with hp|hp
  ·exact h p hp
  ·rw[fS]at hp
   subst hp
   have:p∈ep w pl i:=by rw[he];simp
   exact(jO hw hi.1 hi.2 (ji.1 this).1).1
theorem akZ {pl:List P} {i:Int}:(eJ w pl i).length≤pl.length+1:=by
 unfold eJ;split<;>simp
theorem QQ (hw:Wk w):∀{l:List Int} {pl:List P},(∀i∈l,0≤i∧i<w.rs.l.length)→(∀p∈pl,bJ w p)→∀p∈l.foldl (eJ w) pl,bJ w p
 |[],_,_,h=>h
 |i::l,pl,hl,h=>by
  rw[ma]
  exact QQ hw (fun j hj=>hl j (cD _ hj)) (akY hw (hl i (by simp)) h)
theorem QR:∀{l:List Int} {pl:List P},(l.foldl (eJ w) pl).length≤pl.length+l.length
 |[],_=>by simp
 |i::l,pl=>by
  rw[ma,cH]
  have h1:=QR (l:=l) (pl:=eJ w pl i)
  have h2:=akZ (w:=w) (pl:=pl) (i:=i)
  omega
theorem C5 {i:Int}:i∈iu w↔0≤i∧i<w.rs.l.length:=by unfold iu;rw[vT.mem_iff,acO]
theorem ab0:(iu w).length=w.rs.l.length:=by unfold iu;rw[ME,M7]
theorem Tg (hw:Wk w):∀p∈oV w,bJ w p:=QQ hw (fun i hi=>C5.1 hi) (by simp)
theorem au9:(oV w).length≤w.rs.l.length:=by have:=QR (w:=w) (l:=iu w) (pl:=[]);rw[ab0]at this;simpa[oV]using this
theorem YF (hw:Wk w):∀{l:List Int} {pl:List P},(∀i∈l,0≤i∧i<w.rs.l.length)→l.Nodup→(∀p∈pl,p.req∉l)→pl.Pairwise (fun a b=>a.req≠b.req)→(l.foldl (eJ w) pl).Pairwise fun a b=>a.req≠b.req
 |[],_,_,_,_,h=>h
 | i :: l, pl, hl, hn, hp, h => by
  rw[ma]
  obtain⟨n1,n2⟩:=UG.1 hn
  have oN:∀p∈ep w pl i,p.req=i:=fun p hp=>(jO hw (hl i (by simp)).1 (hl i (by simp)).2 (ji.1 hp).1).2.1
  refine YF hw (fun j hj=>hl j (cD _ hj)) n2 ?_ ?_
  ·intro p hm
   unfold eJ at hm
   split at hm
   ·exact fun e=>hp p hm (cD _ e)
   ·rename_i q r he
    rcases dR.1 hm with hm|hm
    ·exact fun e=>hp p hm (cD _ e)
    ·rw[fS]at hm
     subst hm
     rw[oN p (by rw[he];simp)];exact n1
  ·unfold eJ
   split
   ·exact h
   ·rename_i q r he
    rw[jj]
    refine⟨h,by simp,fun a ha b hb=>?_⟩
    rw[fS]at hb
    subst hb
    rw[oN b (by rw[he];simp)]
    intro e
    exact hp a ha (by rw[e];simp)
theorem awI {n:Nat}:(rM n).Nodup:=by
 unfold rM
 rw[List.Nodup,Av]
 exact aeU.imp fun h=>by omega
theorem auM:(iu w).Nodup:=vT.nodup_iff.2 awI
theorem acd (hw:Wk w):(oV w).Pairwise fun a b=>a.req≠b.req:=YF hw (fun i hi=>C5.1 hi) auM (by simp) List.Pairwise.nil
end
end Go.Ax.Sx.Sc
