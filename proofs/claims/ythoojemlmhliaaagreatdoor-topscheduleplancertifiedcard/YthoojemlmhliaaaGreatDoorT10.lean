/- A part of the proof. -/
import Derived.Test.YthoojemlmhliaaaGreatDoorT9
import Derived.Test.YthoojemlmhliaaaGreatDoorT8
import Derived.Test.YthoojemlmhliaaaGreatDoorT7
set_option linter.unusedSimpArgs false
set_option linter.unusedVariables false
set_option maxRecDepth 100000
namespace Go.Ax.Sx.Sc
open Go.Ax
def GL (d es:Nat) (row:List AV) (n:Nat) (x:AV) (bs:List (List AV)) (lo:Nat):Prop:=
 lo≤bs.length∧((n=0∧row=[]∧x=.slice .aA 0 [])∨(0<n∧∃b,lo≤b∧bs[b]? =some row∧x=.aN d b 0 es n 0))
theorem Vk {s:ae} {bs:List (List AV)} {tk:List (Option Nat)} {es n lo:Nat} {o:Own} {row r2:List AV} {x:AV} (h:GL s.ag.length es row n x bs lo) (hl:row.length=n*es) (hm:n+1≤4294967296):
  ∃x' yN tk',mO (s.push ⟨bs,tk⟩) es x (.slice o es [r2])=some (x',s.push ⟨yN,tk'⟩)∧GL s.ag.length es (row++r2) (n+1) x' yN lo∧∀j,j<lo→yN[j]? =bs[j]? :=by
 obtain⟨h0,⟨rfl,rfl,rfl⟩|⟨hn,b,L2,hb,rfl⟩⟩:=h
 ·refine⟨_,_,_,Vm,⟨by rw[cG];omega,.inr ⟨by omega,bs.length,h0,?_,rfl⟩⟩,fun j hj=>?_⟩
  ·rw[jy (aI _)];simp
  ·rw[dG (by omega)]
 ·refine⟨_,_,_,Vl hb hl hn hm,⟨by rw[cG,tt];omega,.inr ⟨by omega,bs.length,h0,?_,rfl⟩⟩,fun j hj=>?_⟩
  ·rw[jy (by rw[tt];exact aI _)];simp
  ·rw[dG (by rw[tt];omega),uM (by omega)]
theorem ajN {l:List P} (h:∀p∈l,p.an.ok 1):closeAll (bD l)=some (bD l):=by
 induction l with
 |nil=>rfl
 |cons p r ih=>
  rw[y7]
  simp only[aq,fZ,gL,ie,nC,Sl.close (f:=aC) (h p (by simp))]
  rw[ih fun q hq=>h q (cD _ hq)];rfl
theorem asI {s:ae} {r:Rec} {b:Nat} {out:List P} (h:r.boxes[b]? =some (bD out)) (ho:∀p∈out,p.an.ok 1):dL (s.push r) (.aN s.ag.length b 0 3 out.length 0)=some (.slice .any 3 (out.map aq)):=by
 have hc:=Qb (es:=3) (xs:=out.map aq) (fun r hr=>by obtain⟨p,_,rfl⟩:=cN.1 hr;rfl)
 rw[cg]at hc
 have hv:dL (s.push r) (.aN s.ag.length b 0 3 out.length 0)=eR (s.push r) (.aN s.ag.length b 0 3 out.length 0):=rfl
 rw[hv,eR,aj (by rw[gD]),ib,h]
 simp only[dI,GY,gU,aI,cI,ajN ho,dJ,iK]
 rw[show bD out=(out.map aq).flatten from rfl,hc]
theorem Xa {s:ae} (hs:Ok s) {bs:List (List AV)} {tk:List (Option Nat)} {b:Nat} (hb:b<bs.length):Cell (fun r=>s.push ⟨bs.set b r,tk⟩) s.ag.length b:=by
 refine⟨fun r=>?_,fun r r'=>?_,fun r=>hs.ro,fun r=>hs.push _⟩
 ·rw[ib];simp[hb]
 ·rw[TH,List.set_set]
theorem Ae {bs:List (List AV)} {b:Nat} {r:List AV} (h:bs[b]? =some r):bs.set b r=bs:=by
 obtain⟨hb,rfl⟩:=bI.1 h
 exact List.set_getElem_self hb
section
variable{s:ae} {w:W}
theorem azt {g:FuncId} {caps:List AV}:aw AP (.fn 33) [.slice .aA 0 [],.fn g [] caps] s=some (.tuple [],s):=by
 have hd:decide ((1:Int)<0)=false:=rfl
 have vN:IntKind.i64.wrap (0+1)=1:=rfl
 have hi:∀s,aw AP (.fn 105) [.slice .aA 0 [],I 0,I 0,.fn g [] caps] s=some (.tuple [],s):=fun s=>by
  rw[aG (show AP 105=some yV from rfl) rfl]
  simp only[go_sem,KB,simprocAttr]
  rw[go_loop]
  simp only[go_sem,yL,simprocAttr]
 have tW:decide ((20:Int)≤0)=false:=rfl
 have YU:decide ((20:Int)<0)=false:=rfl
 have bu:∀s,aw AP (.fn 68) [.slice .aA 0 [],I 0,.fn g [] caps] s=some (.tuple [],s):=fun s=>by
  rw[aG (show AP 68=some BD from rfl) rfl]
  simp only[go_sem,P0,simprocAttr]
  rw[go_loop]
  simp only[go_sem,P1,KE,hi,simprocAttr]
  rw[go_loop]
  simp only[go_sem,KD,simprocAttr]
 rw[aG (show AP 33=some BA from rfl) rfl]
 simp only[go_sem,PX,bu,fY,simprocAttr]
theorem azr {g:FuncId} {caps:List AV}:aw AP (.fn 36) [.slice .aA 0 [],.fn g [] caps] s=some (.tuple [],s):=by
 have hd:decide ((1:Int)<0)=false:=rfl
 have vN:IntKind.i64.wrap (0+1)=1:=rfl
 have eK:IntKind.i64.wrap (0-0)=0:=rfl
 have hi:∀s,aw AP (.fn 110) [.slice .aA 0 [],I 0,I 0,.fn g [] caps] s=some (.tuple [],s):=fun s=>by
  rw[aG (show AP 110=some yU from rfl) rfl]
  simp only[go_sem,Kz,simprocAttr]
  rw[go_loop]
  simp only[go_sem,yK,simprocAttr]
 have dZ:decide ((0:Int)≤12)=true:=rfl
 have zA:∀(s:ae) (v:Int),aw AP (.fn 70) [.slice .aA 0 [],I 0,I 0,I v,.fn g [] caps] s=some (.tuple [],s):=fun s v=>by
  rw[aG (show AP 70=some BB from rfl) rfl]
  simp only[go_sem,PY,simprocAttr]
  rw[go_loop]
  simp only[go_sem,PZ,hi,simprocAttr]
 obtain⟨v,hv⟩:=WX (s:=s.push ⟨[],[]⟩) (n:=0) (by omega)
 have hv:aw AP (.fn 71) [.v (.int .u64 0)] (s.push ⟨[],[]⟩)=some (I v,s.push ⟨[],[]⟩):=hv
 have hw:IntKind.u64.wrap 0=0:=rfl
 rw[aG (show AP 36=some Bz from rfl) rfl]
 simp only[go_sem,PW,hw,hv,zA,fY,simprocAttr]
theorem avm {pl:List P} {i:Int} {x:AV} {bs:List (List AV)} {tk:List (Option Nat)} {lo:Nat} (hs:Ok s) (hw:Wk w) (ed:∀x∈pl,bJ w x) (h:GL s.ag.length 3 (bD pl) pl.length x bs lo) (hn:pl.length≤1000) (h0:0≤i) (h1:i<w.rs.l.length):
  aw AP (.fn 35) [OW w,x,I i] (s.push ⟨bs,tk⟩)=some (bB 3 ((ep w pl i).map aq),s.push ⟨bs,tk⟩):=by
 obtain⟨_,⟨h2,h3,rfl⟩|⟨dK,b,L2,hb,rfl⟩⟩:=h
 ·obtain rfl:=rV h2
  exact aem (pl:=[]) (hs.push _) hw (by simp) (.inl rfl) (by simp) h0 h1
 ·exact ayX (hs.push _) hw ed (by rw[ib];exact hb) (by omega) h0 h1
theorem aw6 (hs:Ok s) (hw:w.Ok) (hf:w.jT):aw AP (.fn 10) [w.v] s=some (.tuple [bB 3 ((if(cM w).2.2=0 then gP w else[]).map aq),I (cM w).2.2],s):=by
 by_cases he:(cM w).2.2=0
 ·have aY:Wk w:=⟨hw,hf,pR he⟩
  have ho:∀r,aw AP (.fn 32) [w.v] (s.push r)=some (.tuple [OW w,I 0],s.push r):=fun r=>Iq (hs.push r) hw hf he
  rw[aj he,he]
  have fV:=aY.v.rl
  have cK:=Tg aY
  have ed:=au9 (w:=w)
  have zz:=ab0 (w:=w)
  simp only[W.v,aW,Sl.v]at ho
  have fin:∀ρ x bs tk lo,GL s.ag.length 3 (bD (oV w)) (oV w).length x bs lo→ρ 8=x→
    go AP Qv [.c Es] ⟨ρ,s.push ⟨bs,tk⟩⟩=some (.tuple [bB 3 ((gP w).map aq),I 0],s):=by
   rintro ρ x bs tk lo ⟨_,⟨h2,h3,rfl⟩|⟨dK,b,L2,hb,rfl⟩⟩ g8
   ·have hg:gP w=[]:=by unfold gP;rw[rV h2];rfl
    rw[hg]
    simp only[go_sem,Es,g8,azr,simprocAttr]
    rfl
   ·have db:b<bs.length:=(bI.1 hb).1
    have vM:=azq (l:=oV w) (g:=37) (caps:=[]) (c:=fun a b:P=>a.req-b.req) (Xa hs (tk:=tk) db) (by omega) (fun x hx=>(cK x hx).ok) (D:=fun x a=>bJ w x∧bJ w a∧x.req≠a.req)
     ((acd aY).imp_of_mem fun ha hb jY=>⟨cK _ hb,cK _ ha,fun e=>jY e.symm⟩)
     (fun x y dX row q1 q2 q3=>axc ((((hs.push _).push _).push _).push _) dX.1 dX.2.1 aY dX.2.2)
    simp only[Ae hb]at vM
    have kz:(gP w).length=(oV w).length:=ME
    have dc:=asI (s:=s) (r:=⟨bs.set b (bD (gP w)),tk⟩) (b:=b) (out:=gP w) (by simp[db]) (fun p hp=>(cK p ((vT.mem_iff).1 hp)).ok)
    rw[kz]at dc
    have aF:gP w≠[]:=by intro e;rw[e]at kz;simp at kz;omega
    have alG:AV.slice .any 3 ((gP w).map aq)=bB 3 ((gP w).map aq):=by
     cases hg:gP w with
     |nil=>exact absurd hg aF
     |cons _ _=>rfl
    rw[←alG]
    have vM:aw AP (.fn 36) [.aN s.ag.length b 0 3 (oV w).length 0,.fn 37 [] []] (s.push ⟨bs,tk⟩)=some (.tuple [],s.push ⟨bs.set b (bD (gP w)),tk⟩):=vM
    generalize(gP w).map aq=Z at*
    generalize bs.set b (bD (gP w))=W0 at*
    simp only[go_sem,Es,g8,vM,simprocAttr]
    rw[dc];rfl
  have k2:∀(bo:Nat) (k:Nat) ρ m,k≤w.rs.l.length→(ρ 4=OW w∧ρ 34=.aN s.ag.length bo 0 1 w.rs.l.length 0∧ρ 35=I w.rs.l.length∧ρ 36=I k∧∃bs tk,GL s.ag.length 3 (bD (((iu w).take k).foldl (eJ w) [])) (((iu w).take k).foldl (eJ w) []).length (ρ 8) bs (bo+1)∧bs[bo]? =some (ch (iu w))∧m=s.push ⟨bs,tk⟩)→
    go AP Qv (.c (.loop A3)::arh) ⟨ρ,m⟩=some (.tuple [bB 3 ((gP w).map aq),I 0],s):=by
   intro bo
   refine bA w.rs.l.length _ _ ?_ ?_
   ·rintro k ρ m hk ⟨g4,pj,BX,Lo,bs,tk,hG,tY,rfl⟩ ih
    obtain⟨i,hi⟩:=get_some (l:=iu w) (k:=k) (by omega)
    have ui:=C5.1 (bE hi)
    have bf:=zM (d:=s.ag.length) (b:=bo) (es:=1) hk
    have dW:(ch (iu w))[0+k*1]? =some (I i):=by
     rw[show 0+k*1=k by omega];unfold ch;rw[iL,hi];rfl
    have fj:((iu w).take (k+1)).foldl (eJ w) []=eJ w (((iu w).take k).foldl (eJ w) []) i:=by
     rw[du hi,DD];rfl
    have fk:∀p∈((iu w).take k).foldl (eJ w) [],bJ w p:=QQ aY (fun j hj=>C5.1 (oB hj)) (by simp)
    have hlen:=QR (w:=w) (l:=(iu w).take k) (pl:=[])
    rw[ez]at hlen
    have hlen:(((iu w).take k).foldl (eJ w) []).length≤12:=by simp at hlen;omega
    obtain⟨x,hx⟩:∃x,x=ρ 8:=⟨_,rfl⟩
    rw[←hx]at hG
    generalize((iu w).take k).foldl (eJ w) []=pl at*
    have vH:=avm (s:=s) (i:=i) (tk:=tk) hs aY fk hG (by omega) ui.1 ui.2
    have kF:=bh hk (show(w.rs.l.length:Int)<_ by omega)
    simp only[OW]at g4 vH
    cases hq:ep w pl i with
    |nil=>
     rw[hq]at vH
     have vH:∀y,y=x→aw AP (.fn 35) [.bd (wk w.bm (w.as.v bR) (w.rs.v aS) (sc w.as.l)) 0,y,I i] (s.push ⟨bs,tk⟩)=some (.slice .aA 0 [],s.push ⟨bs,tk⟩):=by rintro y rfl;exact vH
     simp only[go_sem,A3,g4,pj,BX,Lo,←hx,aL hk,bf,tY,dW,vH,kF,fY,simprocAttr]
     refine ih _ _ ?_
     refine⟨by simp only[OW];exact g4,pj,BX,rfl,bs,tk,?_,tY,rfl⟩
     rw[fj,show eJ w pl i=pl by unfold eJ;rw[hq]]
     show GL _ _ _ _ (ρ 8) _ _
     rw[←hx];exact hG
    | cons p r =>
     have hp:p∈ep w pl i:=by rw[hq];simp
     have anq:=(jO aY ui.1 ui.2 (ji.1 hp).1).1
     have lS:closeAll (aq p)=some (aq p):=by
      simp only[aq,ie,jW,nC,Sl.close anq.ok];rfl
     obtain⟨x',yN,tk',ha,LA,Rw⟩:=Vk (tk:=tk) (o:=.full) (r2:=aq p) hG GY (by omega)
     rw[hq]at vH
     obtain⟨Z,hZ⟩:∃Z,Z=(p::r).map aq:=⟨_,rfl⟩
     have vH:∀y,y=x→aw AP (.fn 35) [.bd (wk w.bm (w.as.v bR) (w.rs.v aS) (sc w.as.l)) 0,y,I i] (s.push ⟨bs,tk⟩)=some (.slice .any 3 Z,s.push ⟨bs,tk⟩):=by rintro y rfl;rw[hZ];exact vH
     have xX:decide ((0:Int)<(Z.length:Int))=true:=by rw[hZ];simp
     have oJ:gR none 3 (.slice .any 3 Z) (I 0)=some (.bd (aq p) 0):=by rw[hZ];simp[gR,idx]
     simp only[aq,Sl.v]at lS ha oJ
     simp only[go_sem,A3,g4,pj,BX,Lo,←hx,aL hk,bf,tY,dW,vH,kF,xX,oJ,lS,ha,simprocAttr]
     refine ih _ _ ?_
     refine⟨by simp only[OW];exact g4,pj,BX,rfl,yN,tk',?_,by rw[Rw bo (by omega)];exact tY,rfl⟩
     rw[fj,show eJ w pl i=pl++[p]by unfold eJ;rw[hq],Lj,cG]
     exact LA
   ·rintro ρ m ⟨g4,pj,BX,Lo,bs,tk,hG,tY,rfl⟩
    simp only[go_sem,A3,BX,Lo,bg,simprocAttr]
    refine fin _ _ _ _ (bo+1) ?_ rfl
    rw[←zz,er]at hG
    exact hG
  have k1:∀(k:Nat) ρ m,k≤w.rs.l.length→(ρ 1=.ptr s.ag.length 0 0∧ρ 4=OW w∧ρ 22=I w.rs.l.length∧ρ 23=I k∧∃bs tk,GL s.ag.length 1 (ch (rM k)) k (ρ 6) bs 1∧bs[0]? =some (aW w)∧m=s.push ⟨bs,tk⟩)→
    go AP Qv (.c (.loop Er)::ari) ⟨ρ,m⟩=some (.tuple [bB 3 ((gP w).map aq),I 0],s):=by
   refine bA w.rs.l.length _ _ ?_ ?_
   ·rintro k ρ m hk ⟨g1,g4,g22,g23,bs,tk,hG,gj,rfl⟩ ih
    obtain⟨x,hx⟩:∃x,x=ρ 6:=⟨_,rfl⟩
    rw[←hx]at hG
    obtain⟨x',yN,tk',ha,LA,Rw⟩:=Vk (tk:=tk) (o:=.full) (r2:=[I (k:Int)]) hG (by rw[Yu,M7];omega) (by omega)
    have kF:=bh hk (show(w.rs.l.length:Int)<_ by omega)
    simp only[go_sem,Er,g22,g23,←hx,aL hk,kF,ha,simprocAttr]
    refine ih _ _ ?_
    refine⟨g1,g4,g22,rfl,yN,tk',?_,by rw[Rw 0 (by omega)];exact gj,rfl⟩
    rw[awJ];unfold ch at LA⊢;rw[fH];exact LA
   ·rintro ρ m ⟨g1,g4,g22,g23,bs,tk,hG,gj,rfl⟩
    obtain⟨x,hx⟩:∃x,x=ρ 6:=⟨_,rfl⟩
    rw[←hx]at hG
    obtain⟨eZ,⟨h2,h3,rfl⟩|⟨dK,b,L2,hb,rfl⟩⟩:=hG
    ·have ub:decide ((0:Int)<0)=false:=rfl
     have hz:=azt (s:=s.push ⟨bs,tk⟩) (g:=34) (caps:=[.ptr s.ag.length 0 0])
     simp only[go_sem,Er,J5,g1,g22,g23,←hx,bg,hz,fY,simprocAttr]
     rw[go_loop]
     simp only[go_sem,A3,simprocAttr]
     refine fin _ _ _ _ 0 ⟨aV _,.inl ?_⟩ rfl
     have:oV w=[]:=rV (by omega)
     rw[this];exact⟨rfl,rfl,rfl⟩
    ·have db:b<bs.length:=(bI.1 hb).1
     have h0b:∀r q1 q2 q3,((((s.push ⟨bs.set b r,tk⟩).push q1).push q2).push q3).box s.ag.length 0=some (aW w):=fun r q1 q2 q3=>by
      refine eA (eA (eA ?_ _) _) _
      rw[ib]
      show(bs.set b r)[0]? =_
      rw[uM (by omega)];exact gj
     have vM:=azs (l:=rM w.rs.l.length) (g:=34) (caps:=[.ptr s.ag.length 0 0]) (c:=fun a b=>(w.rq b).val-(w.rq a).val) (S:=fun i=>0≤i∧i<w.rs.l.length) (Xa hs (tk:=tk) db) (by rw[M7];exact fV) (fun x hx=>acO.1 hx)
      (fun x y hx hy row q1 q2 q3=>aw7 ((((hs.push _).push _).push _).push _) aY hx hy (h0b row q1 q2 q3))
     simp only[Ae hb,M7]at vM
     have vM:aw AP (.fn 33) [.aN s.ag.length b 0 1 w.rs.l.length 0,.fn 34 [] [.ptr s.ag.length 0 0]] (s.push ⟨bs,tk⟩)=some (.tuple [],s.push ⟨bs.set b (ch (iu w)),tk⟩):=vM
     have tY:(bs.set b (ch (iu w)))[b]? =some (ch (iu w)):=by simp[db]
     have qt:b+1≤(bs.set b (ch (iu w))).length:=by rw[tt];omega
     generalize bs.set b (ch (iu w))=W0 at*
     simp only[go_sem,Er,J5,g1,g22,g23,←hx,bg,vM,yc,simprocAttr]
     refine k2 b 0 _ _ (aV _) ?_
     exact⟨g4,rfl,rfl,rfl,W0,tk,⟨qt,.inl ⟨rfl,rfl,rfl⟩⟩,tY,rfl⟩
  rw[aG (show AP 10=some Bm from rfl) rfl]
  simp only[OW]at k1 ho⊢
  simp only[go_sem,Pa,ho,bV,gI,se,simprocAttr]
  refine k1 0 _ _ (aV _) ?_
  exact⟨rfl,rfl,rfl,rfl,[aW w],[],⟨by simp,.inl ⟨rfl,rfl,rfl⟩⟩,rfl,rfl⟩
 ·rw[ak he]
  have ho:∀r,aw AP (.fn 32) [w.v] (s.push r)=some (.tuple [NP,I (cM w).2.2],s.push r):=fun r=>Ir (hs.push r) hw hf he
  simp only[W.v,aW,Sl.v]at ho
  rw[aG (show AP 10=some Bm from rfl) rfl]
  simp only[go_sem,Pa,ho,he,bV,j3,tO,simprocAttr]
  rfl
end
section
variable{w:W}
def zs (w:W):List P→List P→Prop
 |_,[]=>True
 |a,p::b=>dY w p a=0∧zs w (a++[p]) b
theorem aeE:∀{b a:List P},(∀(j:Nat) x,b[j]? =some x→dY w x (a++b.take j)=0)→zs w a b
 |[],_,_=>trivial
 | p :: b, a, h => by
  refine⟨?_,aeE fun j x hj=>?_⟩
  ·have:=h 0 p rfl;simpa using this
  ·have:=h (j+1) x hj
   rw[gK];exact this
theorem aeD:∀{b a:List P} {l:List P},l=a++b→zs w a b→fT (fun i x=>dY w x (l.take i)) a.length b=none
 |[],_,_,_,_=>rfl
 |p::b,a,l,hl,h=>by
  simp only[fT]
  have e:l.take a.length=a:=by rw[hl,List.take_left]
  rw[e,aj h.1]
  have:=aeD (b:=b) (a:=a++[p]) (l:=l) (by rw[hl,gK];rfl) h.2
  rw[cG]at this
  exact this
theorem ahB {l:List P} (h:zs w [] l):gC w l=(0,0):=by
 have:=aeD (b:=l) (a:=[]) (l:=l) rfl h
 unfold gC
 rw[show([]:List P).length=0 from rfl]at this
 rw[this]
theorem ace {p:P} {a:List P} (h:dY w p a=0):fN a<p.req∧cY w p a=false:=by
 unfold dY at h
 by_cases c1:wi p.req 0 (w.rs.l.length-1)=true
 ·rw [aj c1] at h
  by_cases c2:fN a<p.req
  ·refine⟨c2,?_⟩
   rw[aj c2]at h
   by_cases c3:wi p.start (w.rq p.req).lo ((w.rq p.req).hi+1-(w.rq p.req).len)=true
   ·rw [aj c3] at h
    by_cases c4:(p.an.l.length:Int)=(w.rq p.req).need
    ·rw[aj c4]at h
     by_cases c5:eW (w.rq p.req) (-1) p.an.l=0
     ·rw[aj c5]at h
      by_cases c6:(p.an.l.any fun a=>!cU w a p.start (w.rq p.req).len)=true
      ·rw[aj c6]at h;exact absurd h (by decide)
      ·rw[ak c6]at h
       cases hc:cY w p a with
       |false=>rfl
       |true=>rw[hc]at h;exact absurd h (by decide)
     ·rw[ak c5]at h;exact absurd h c5
    ·rw[ak c4]at h;exact absurd h (by decide)
   ·rw[ak c3]at h;exact absurd h (by decide)
  ·rw[ak c2]at h;exact absurd h (by decide)
 ·rw[ak c1]at h;exact absurd h (by decide)
theorem asb {a b:List P} (h:b≠[]):fN (a++b)=fN b:=by
 unfold fN
 rw[List.getLast?_append,List.getLast?_eq_some_getLast h];rfl
theorem aeF:∀{b a:List P},zs w a b→b≠[]→fN a+b.length<w.rs.l.length
 |[],_,_,h=>absurd rfl h
 | p :: b, a, h, _ => by
  have h1:=(ace h.1).1
  have h2:=acf h.1
  by_cases hb:b=[]
  ·subst hb;simp;omega
  ·have:=aeF h.2 hb
   rw[asb (by simp)]at this
   have e:fN [p]=p.req:=rfl
   rw[e]at this
   simp only[cH]
   omega
theorem azz (hw:Wk w) {l:List P} (h:zs w [] l):l.length≤12:=by
 have fV:=hw.v.rl
 by_cases hl:l=[]
 ·subst hl;simp
 ·have:=aeF h hl
  have e:fN ([]:List P)=-1:=rfl
  rw[e]at this
  omega
theorem U9 {r:R}:∀{g:List Int} {k:Int},g.Pairwise (· <·)→(∀a∈g,a∈r.an.l∧k<a)→eW r k g=0
 |[],_,_,_=>rfl
 |a::t,k,hp,h=>by
  have ha:=h a (by simp)
  have hm:(r.an.l.any fun b=>decide (a=b))=true:=fc.2 ⟨a,ha.1,by simp⟩
  simp only[eW]
  rw[aj hm,aj ha.2]
  exact U9 (Uo hp) fun b hb=>⟨(h b (cD _ hb)).1,aeW hp hb⟩
theorem avb (hw:Wk w) {i:Int} (h0:0≤i) (h1:i<w.rs.l.length) {x:P} (hx:x∈ct w i) {a:List P} (hl:fN a<i) (hc:cY w x a=false):dY w x a=0:=by
 obtain⟨fk,hr,jq,la,hn,_,jr,bU⟩:=jO hw h0 h1 hx
 have hq:=hw.rq h0 h1
 unfold dY
 rw[hr]
 rw[aj (gy.2 ⟨h0,by omega⟩),aj hl,aj (gy.2 ⟨jq,by omega⟩),aj hn]
 have sA:eW (w.rq i) (-1) x.an.l=0:=U9 (hq.DX.sublist jr) fun b hb=>⟨jr.subset hb,by have:=(hq.tG b (jr.subset hb)).1;omega⟩
 have kE:¬(x.an.l.any fun a=>!cU w a x.start (w.rq i).len)=true:=by
  rw[fc]
  rintro⟨b,hb,h⟩
  rw[bU b hb]at h;exact absurd h (by decide)
 rw[aj sA,ak kE,hc]
 rfl
end
section
variable{w:W}
theorem avy {i st:Int} (h0:0≤i) (h1:i<w.rs.l.length):mD (cW w) i st=mD w i st:=by
 unfold mD uA
 rw[u9 h0 h1]
 simp only[abQ]
 rfl
theorem acn {i:Int} (h0:0≤i) (h1:i<w.rs.l.length):∀{n:Nat} {st:Int},jN (cW w) i st n=jN w i st n
 |0,_=>rfl
 |n+1,st=>by simp only[jN];rw[avy h0 h1,acn h0 h1]
theorem Tn {i:Int} (h0:0≤i) (h1:i<w.rs.l.length):ct (cW w) i=ct w i:=by
 unfold ct
 rw[acn h0 h1,u9 h0 h1];rfl
theorem ack (hw:Wk w) {l:List P} {i:Int} (h0:0≤i) (h1:i<w.rs.l.length) (hl:∀x∈l,0≤x.req∧x.req<w.rs.l.length):ep (cW w) (l.map cP) i=ep w l i:=by
 unfold ep
 rw[Tn h0 h1]
 apply NG
 intro x hx
 obtain⟨fk,hr,_,_,_,sA,_⟩:=jO hw h0 h1 hx
 have nV:cP x=x:=by
  unfold cP;rw[←sA]
 have:=Xn (w:=w) (p:=x) (l:=l) fk.r0 fk.r1 hl
 rw[nV]at this
 rw[this]
end
theorem aa5:∀{a b c:List Int},lexB a b=true→lexB b c=true→lexB a c=true
 |[],_,[],_,h=>by cases ‹List Int› <;>simp[lexB]at h
 |[],_,_::_,_,_=>rfl
 |_::_,[],_,h,_=>by simp[lexB]at h
 |x::a,y::b,[],_,h=>by simp[lexB]at h
 | x :: a, y :: b, z :: c, h1, h2 => by
  simp only[lexB]at h1 h2⊢
  by_cases dX:x=y
  ·subst dX
   rw[aj rfl]at h1
   by_cases rG:x=z
   ·subst rG
    rw[aj rfl]at h2⊢
    exact aa5 h1 h2
   ·rw[ak rG]at h2⊢;exact h2
  ·rw[ak dX,fB]at h1
   by_cases rG:y=z
   ·subst rG
    rw[ak dX];simpa using h1
   ·rw[ak rG,fB]at h2
    rw[ak (by omega)];simp;omega
theorem aa4:∀{a b:List Int},lexB a b=false→lexB b a=false→a=b
 |[],[],_,_=>rfl
 |[],_::_,h,_=>by simp[lexB]at h
 |_::_,[],_,h=>by simp[lexB]at h
 | x :: a, y :: b, h1, h2 => by
  simp only[lexB]at h1 h2
  by_cases dX:x=y
  ·subst dX
   rw[aj rfl]at h1 h2
   rw[aa4 h1 h2]
  ·rw[ak dX,tN]at h1
   rw[ak (fun e=>dX (wE e)),tN]at h2
   omega
theorem QW:∀{k:Nat} {l:List Int},l.Pairwise (· <·)→(bn k l).Pairwise fun a b=>lexB a b=true
 |0,_,_=>by simp[bn]
 |_+1,[],_=>by simp[bn]
 | k + 1, x :: r, h => by
  simp only[bn]
  rw[jj]
  refine⟨?_,QW (Uo h),?_⟩
  ·rw[Av]
   refine(QW (k:=k) (Uo h)).imp fun jY=>?_
   simp only[lexB,cI];exact jY
  ·intro a ha b hb
   obtain⟨g,hg,rfl⟩:=cN.1 ha
   have db:=xJ hb
   cases b with
   |nil=>simp at db
   |cons y t=>
    have hy:y∈r:=(G8 hb).subset (by simp)
    have dX:=aeW h hy
    simp only[lexB]
    rw[ak (by omega)];simpa using dX
section
variable{w:W}
theorem SI {x:Int} {a b:List Int}:lexB (x::a) (x::b)=lexB a b:=by simp only[lexB,cI]
theorem avA {i st:Int} (hq:(w.rq i).an.l.Pairwise (· <·)):(mD w i st).Pairwise fun a b=>lexB (kP a) (kP b)=true:=by
 unfold mD
 rw[Av]
 refine(QW (List.Pairwise.sublist Uu hq)).imp fun jY=>?_
 show lexB (i::st::_) (i::st::_)=true
 rw[SI,SI];exact jY
theorem acq {i:Int} (hq:(w.rq i).an.l.Pairwise (· <·)):∀{n:Nat} {st:Int},(jN w i st n).Pairwise fun a b=>lexB (kP a) (kP b)=true
 |0,_=>List.Pairwise.nil
 |n+1,st=>by
  simp only[jN]
  rw[jj]
  refine⟨avA hq,acq hq,?_⟩
  intro a ha b hb
  obtain⟨t,h1,_,h3⟩:=Tm hb
  obtain⟨g,_,rfl⟩:=cN.1 ha
  obtain⟨g2,_,rfl⟩:=cN.1 h3
  show lexB (i::st::_) (i::t::_)=true
  rw[SI]
  simp only[lexB]
  rw[ak (by omega)];simp;omega
theorem avF (hw:Wk w) {i:Int} (h0:0≤i) (h1:i<w.rs.l.length):(ct w i).Pairwise fun a b=>lexB (kP a) (kP b)=true:=acq (hw.rq h0 h1).DX
end
def ff:List P→List P→Bool
 |[],[]=>false
 |[],_::_=>true
 |_::_,[]=>false
 |x::r,y::t=>if kP x=kP y then ff r t else lexB (kP x) (kP y)
theorem WS:∀{l:List P},ff l l=false
 |[]=>rfl
 |x::r=>by simp only[ff,cI];exact WS
theorem P2:∀{a b c:List P},ff a b=true→ff b c=true→ff a c=true
 |[],_,[],_,h=>by cases ‹List P› <;>simp[ff]at h
 |[],_,_::_,_,_=>rfl
 |_::_,[],_,h,_=>by simp[ff]at h
 |x::a,y::b,[],_,h=>by simp[ff]at h
 | x :: a, y :: b, z :: c, h1, h2 => by
  simp only[ff]at h1 h2⊢
  by_cases dX:kP x=kP y
  ·rw[aj dX]at h1
   rw[dX]
   by_cases rG:kP y=kP z
   ·rw[aj rG]at h2⊢
    exact P2 h1 h2
   ·rw[ak rG]at h2⊢;exact h2
  ·rw[ak dX]at h1
   by_cases rG:kP y=kP z
   ·rw[ak (by rw[←rG];exact dX),←rG];exact h1
   ·rw[ak rG]at h2
    have h3:=aa5 h1 h2
    rw[ak (by intro e;rw[e,H6]at h3;exact absurd h3 (by decide))];exact h3
theorem WT:∀{a b:List P},ff a b=false→ff b a=false→a.map kP=b.map kP
 |[],[],_,_=>rfl
 |[],_::_,h,_=>by simp[ff]at h
 |_::_,[],_,h=>by simp[ff]at h
 | x :: a, y :: b, h1, h2 => by
  simp only[ff]at h1 h2
  by_cases dX:kP x=kP y
  ·rw[aj dX]at h1
   rw[aj (wE dX)]at h2
   rw[fR,fR,dX,WT h1 h2]
  ·rw[ak dX]at h1
   rw[ak (fun e=>dX (wE e))]at h2
   exact absurd (aa4 h1 h2) dX
theorem KG:∀{a b c:List P},ff (a++b) (a++c)=ff b c
 |[],_,_=>rfl
 |x::a,b,c=>by simp only[fZ,ff,cI];exact KG
theorem agl {a c:List P} (h:c≠[]):ff a (a++c)=true:=by
 have:=KG (a:=a) (b:=[]) (c:=c)
 rw[kR]at this
 rw[this]
 cases c with
 |nil=>exact absurd rfl h
 |cons _ _=>rfl
section
variable{w:W}
structure NC (w:W) (l:List (List P)) (c:Nat→P):Prop where
 mem:∀k x,l[k]? =some x→c k∈x
 nc:∀j k,j<l.length→k<l.length→j≠k→dA w (c j) (c k)=false
theorem IM {p x:P} {l:List P}:x∈wo w p l↔x∈l∧dA w x p=false:=by
 unfold wo
 rw[ji]
 simp
theorem XU {p:P} {l:List (List P)} {s k:Nat}:((l.eraseIdx s).map (wo w p))[k]? =((if k<s then l[k]? else l[k+1]?).map (wo w p)):=by
 rw[iL,List.getElem?_eraseIdx]
theorem Ys (hw:Wk w):∀(n:Nat) (l:List (List P)),l.length=n→(∀x∈l,∀p∈x,bJ w p)→qc w n l=true→∃c,NC w l c
 |0,l,hl,_,_=>⟨fun _=>fl,fun k x h=>by rw[rV hl]at h;simp at h,fun j k h=>by omega⟩
 | n + 1, l, hl, hp, h => by
  have aF:l≠[]:=by intro e;rw[e]at hl;simp at hl
  have hs:=TL aF
  simp only[qc]at h
  generalize fP l=s at*
  obtain⟨x,hx⟩:=get_some hs
  rw[List.getD,hx,uO,fc]at h
  obtain⟨p,Mb,hf⟩:=h
  have dk:=bE hx
  have kY:=hp x dk p Mb
  have Ho:((l.eraseIdx s).map (wo w p)).length=n:=by rw[cg,NM hs];omega
  obtain⟨c,gl,gZ⟩:=Ys hw n ((l.eraseIdx s).map (wo w p)) Ho (fun y hy q hq=>by
   obtain⟨z,hz,rfl⟩:=cN.1 hy
   exact hp z (UE hz) q (IM.1 hq).1) hf
  rw[Ho]at gZ
  have key:∀k,k<n→∃y,l[if k<s then k else k+1]? =some y∧c k∈y∧dA w (c k) p=false∧bJ w (c k):=by
   intro k hk
   obtain⟨y,hy⟩:=get_some (l:=(l.eraseIdx s).map (wo w p)) (k:=k) (by omega)
   have hm:=gl k y hy
   rw[XU]at hy
   obtain⟨z,hz,rfl⟩:=aZ.1 hy
   obtain⟨lR,jH⟩:=IM.1 hm
   have HN:l[if k<s then k else k+1]? =some z:=by
    by_cases h:k<s
    ·rw[aj h]at hz⊢;exact hz
    ·rw[ak h]at hz⊢;exact hz
   exact⟨z,HN,lR,jH,hp z (bE HN) _ lR⟩
  refine⟨fun k=>if k<s then c k else if k=s then p else c (k-1),?_,?_⟩
  ·intro k y hy
   have zu:=(bI.1 hy).1
   show(if k<s then c k else if k=s then p else c (k-1))∈y
   by_cases h1:k<s
   ·rw[aj h1]
    obtain⟨z,hz,hm,_⟩:=key k (by omega)
    rw[aj h1,hy]at hz;injection hz with hz;rw[hz];exact hm
   ·rw[ak h1]
    by_cases h2:k=s
    ·rw[aj h2];subst h2;rw[hx]at hy;injection hy with hy;rw[←hy];exact Mb
    ·rw[ak h2]
     obtain⟨z,hz,hm,_⟩:=key (k-1) (by omega)
     rw[ak (by omega),show k-1+1=k by omega,hy]at hz;injection hz with hz;rw[hz];exact hm
  ·intro j k hj hk Cw
   show dA w (if j<s then c j else if j=s then p else c (j-1)) (if k<s then c k else if k=s then p else c (k-1))=false
   have oI:∀i,i<n→dA w p (c i)=false:=fun i hi=>by
    obtain⟨_,_,_,h3,h4⟩:=key i hi
    rw[GG hw kY h4];exact h3
   have Zh:∀i,i<n→dA w (c i) p=false:=fun i hi=>(key i hi).choose_spec.2.2.1
   by_cases j1:j<s
   ·rw[aj j1]
    by_cases k1:k<s
    ·rw[aj k1];exact gZ j k (by omega) (by omega) Cw
    ·rw[ak k1]
     by_cases k2:k=s
     ·rw[aj k2];exact Zh j (by omega)
     ·rw[ak k2];exact gZ j (k-1) (by omega) (by omega) (by omega)
   ·rw[ak j1]
    by_cases j2:j=s
    ·rw[aj j2]
     by_cases k1:k<s
     ·rw[aj k1];exact oI k (by omega)
     ·rw[ak k1,ak (by omega)];exact oI (k-1) (by omega)
    ·rw[ak j2]
     by_cases k1:k<s
     ·rw[aj k1];exact gZ (j-1) k (by omega) (by omega) (by omega)
     ·rw[ak k1]
      by_cases k2:k=s
      ·rw[aj k2];exact Zh (j-1) (by omega)
      ·rw[ak k2];exact gZ (j-1) (k-1) (by omega) (by omega) (by omega)
theorem abJ (hw:Wk w):∀(n:Nat) (l:List (List P)),l.length=n→(∀x∈l,∀p∈x,bJ w p)→(∃c,NC w l c)→qc w n l=true
 |0,_,_,_,_=>rfl
 | n + 1, l, hl, hp, ⟨c, gl, gZ⟩ => by
  have aF:l≠[]:=by intro e;rw[e]at hl;simp at hl
  have hs:=TL aF
  simp only[qc]
  generalize fP l=s at*
  obtain⟨x,hx⟩:=get_some hs
  rw[List.getD,hx,uO,fc]
  have Ho:((l.eraseIdx s).map (wo w (c s))).length=n:=by rw[cg,NM hs];omega
  refine⟨c s,gl s x hx,abJ hw n _ Ho (fun y hy q hq=>by
   obtain⟨z,hz,rfl⟩:=cN.1 hy
   exact hp z (UE hz) q (IM.1 hq).1) ⟨fun k=>c (if k<s then k else k+1),fun k y hy=>?_,fun j k hj hk Cw=>?_⟩⟩
  ·have zu:=(bI.1 hy).1
   rw[XU]at hy
   obtain⟨z,hz,rfl⟩:=aZ.1 hy
   have HN:l[if k<s then k else k+1]? =some z:=by
    by_cases h:k<s
    ·rw[aj h]at hz⊢;exact hz
    ·rw[ak h]at hz⊢;exact hz
   exact IM.2 ⟨gl _ z HN,gZ _ _ (bI.1 HN).1 hs (by split<;>omega)⟩
  ·rw[Ho]at hj hk
   exact gZ _ _ (by split<;>omega) (by split<;>omega) (by split<;>split<;>omega)
theorem ajI (hw:Wk w) {l:List (List P)} (hp:∀x∈l,∀p∈x,bJ w p):fit w l=true↔∃c,NC w l c:=
 ⟨Ys hw l.length l rfl hp,abJ hw l.length l rfl hp⟩
end
section
variable{w:W}
theorem aer {q:P}:∀{plan:List P} {x:Sl P},q∈(l7 w plan x).l↔q∈x.l∧∀p∈plan,dA w q p=false
 |[],x=>by simp[l7]
 |p::r,x=>by
  have h:l7 w (p::r) x=l7 w r (fJ 3 (wo w p x.l)):=rfl
  rw[h,aer (plan:=r),me,IM]
  simp only[dr,forall_eq_or_imp]
  constructor
  ·rintro⟨⟨h1,h2⟩,h3⟩;exact⟨h1,h2,h3⟩
  ·rintro⟨h1,h2,h3⟩;exact⟨⟨h1,h2⟩,h3⟩
theorem avu {i:Int}:ep w [] i=ct w i:=by
 unfold ep
 rw[List.filter_eq_self]
 intro x _;rfl
theorem QH {i:Nat} (h:i<w.rs.l.length):(df w).getD i default=(fJ 3 (ct w (i:Int)),true):=by
 unfold df qe
 rw[List.getD,iL,Uy h]
 simp only[dJ,uO,avu]
def ni (pl:List P) (m:Nat):List Int:=(dy m).filter fun i=>(iJ pl i).isNone
theorem MN {m:Nat} {i:Int} (hm:m<2^62):i∈dy m↔0≤i∧m.testBit i.toNat=true:=by
 unfold dy pL
 simp only[cN,ji,pW]
 constructor
 ·rintro⟨k,⟨h1,h2⟩,rfl⟩;exact⟨by omega,by simpa using h2⟩
 ·rintro⟨h0,h1⟩
  refine⟨i.toNat,⟨?_,h1⟩,by omega⟩
  apply tj
  intro h
  have:m<2^i.toNat:=pY hm (mb (by decide) (by omega))
  rw[N3 this]at h1
  exact absurd h1 (by decide)
theorem SV {m:Nat}:(dy m).Pairwise (· <·):=by
 unfold dy pL
 rw[Av]
 refine(Un _ aeU).imp fun h=>by omega
theorem Yt (hw:Wk w) {pl:List P} {m:Nat} (hm:m<2^w.rs.l.length):
  kV w (df w) pl m=true↔∃f:Int→P,(∀i∈ni pl m,f i∈ct w i∧∀p∈pl,dA w (f i) p=false)∧(∀i∈ni pl m,∀j∈ni pl m,i≠j→dA w (f i) (f j)=false):=by
 have fV:=hw.v.rl
 have xT:m<2^62:=pY hm (mb (by decide) (by omega))
 have bH:∀i∈ni pl m,0≤i∧i<w.rs.l.length:=by
  intro i hi
  obtain⟨h0,h1⟩:=(MN xT).1 (ji.1 hi).1
  refine⟨h0,?_⟩
  apply tj
  intro h
  have:m<2^i.toNat:=pY hm (mb (by decide) (by omega))
  rw[N3 this]at h1
  exact absurd h1 (by decide)
 have sB:(ni pl m).Pairwise (· <·):=Un _ SV
 have hls:(oU w (df w) pl (dy m)).map (·.l)=(ni pl m).map fun i=>(l7 w pl ((df w).getD i.toNat default).1).l:=by
  unfold oU ni
  rw[I4];rfl
 unfold kV
 rw[hls]
 have dW:∀i∈ni pl m,∀q,q∈(l7 w pl ((df w).getD i.toNat default).1).l↔q∈ct w i∧∀p∈pl,dA w q p=false:=by
  intro i hi q
  obtain⟨h0,h1⟩:=bH i hi
  rw[QH (by omega),aer,me,show((i.toNat:Nat):Int)=i by omega]
 generalize ni pl m=L at*
 have hP:∀x∈L.map (fun i=>(l7 w pl ((df w).getD i.toNat default).1).l),∀p∈x,bJ w p:=by
  intro x hx p hp
  obtain⟨i,hi,rfl⟩:=cN.1 hx
  obtain⟨h0,h1⟩:=bH i hi
  exact(jO hw h0 h1 ((dW i hi p).1 hp).1).1
 rw[ajI hw hP]
 constructor
 ·rintro⟨c,gl,gZ⟩
  refine⟨fun i=>c (L.idxOf i),fun i hi=>?_,fun i hi j hj py=>?_⟩
  ·have hk:L[L.idxOf i]? =some i:=by
    rw[dq (I0.2 hi),UA]
   have:=gl (L.idxOf i) _ (by rw[iL,hk];rfl)
   exact(dW i hi _).1 this
  ·refine gZ _ _ ?_ ?_ ?_
   ·rw[cg];exact I0.2 hi
   ·rw[cg];exact I0.2 hj
   ·intro e
    apply py
    have h1:L[L.idxOf i]? =some i:=by rw[dq (I0.2 hi),UA]
    have h2:L[L.idxOf j]? =some j:=by rw[dq (I0.2 hj),UA]
    rw[e,h2]at h1;injection h1 with h1;exact wE h1
 ·rintro⟨f,pr,sG⟩
  refine⟨fun k=>f (L.getD k 0),fun k x hx=>?_,fun j k hj hk Cw=>?_⟩
  ·rw[iL]at hx
   obtain⟨i,hi,rfl⟩:=aZ.1 hx
   have jH:=bE hi
   show f (L.getD k 0)∈_
   have e0:L.getD k 0=i:=by rw[List.getD,hi];rfl
   rw[e0]
   exact(dW i jH _).2 (pr i jH)
  ·rw[cg]at hj hk
   obtain⟨a,ha⟩:=get_some hj
   obtain⟨b,hb⟩:=get_some hk
   show dA w (f (L.getD j 0)) (f (L.getD k 0))=false
   rw[List.getD,List.getD,ha,hb,uO,uO]
   refine sG a (bE ha) b (bE hb) ?_
   intro e
   subst e
   have vJ:=UH.1 sB
   obtain⟨_,ea⟩:=bI.1 ha
   obtain⟨_,eb⟩:=bI.1 hb
   rcases Nat.lt_or_gt_of_ne Cw with h|h
   ·have:=vJ j k hj hk h;omega
   ·have:=vJ k j hk hj h;omega
end
section
variable{w:W}
structure VP (w:W) (R:List P):Prop where
 mem:∀p∈R,0≤p.req∧p.req<w.rs.l.length∧p∈ct w p.req
 qV:R.Pairwise fun a b=>a.req<b.req
 nc:R.Pairwise fun a b=>dA w a b=false
theorem VP.nil:VP w []:=⟨fun _ h=>absurd h (by simp),List.Pairwise.nil,List.Pairwise.nil⟩
theorem VP.n6 (hw:Wk w) {R:List P} (h:VP w R):∀p∈R,bJ w p:=fun p hp=>by
 obtain⟨h0,h1,h2⟩:=h.mem p hp
 exact(jO hw h0 h1 h2).1
theorem VP.pre {a b:List P} (h:VP w (a++b)):VP w a:=
 ⟨fun p hp=>h.mem p (tu _ hp),(jj.1 h.qV).1,(jj.1 h.nc).1⟩
theorem ab7:∀{R:List P} {o i:Nat},(R.foldl (fun o p=>o|||2^p.req.toNat) o).testBit i=(o.testBit i||R.any fun p=>decide (p.req.toNat=i))
 |[],o,i=>by simp
 |p::r,o,i=>by
  rw[ma,ab7 (R:=r),DR,N4,ke,Bool.or_assoc]
theorem zU {R:List P} {i:Nat}:(eL R).testBit i=R.any fun p=>decide (p.req.toNat=i):=by
 unfold eL
 rw[ab7];simp
theorem auQ {R:List P} {n:Nat} (h:∀p∈R,p.req.toNat<n):eL R<2^n:=by
 apply Nat.lt_pow_two_of_testBit
 intro i hi
 rw[zU,qM]
 intro p hp
 have:=h p hp
 simp;omega
theorem adR {w:W}:∀{R:List P},oq w (R.map (·.req))=ck w R
 |[]=>rfl
 |p::r=>by simp only[fR,oq,ck];rw[adR]
theorem Vt:∀{a b:List Int},a.Pairwise (· <·)→b.Pairwise (· <·)→(∀x,x∈a↔x∈b)→a=b
 |[],[],_,_,_=>rfl
 |[],y::b,_,_,h=>absurd ((h y).2 (by simp)) (by simp)
 |x::a,[],_,_,h=>absurd ((h x).1 (by simp)) (by simp)
 | x :: a, y :: b, ha, hb, h => by
  have h1:=rX.1 ha
  have h2:=rX.1 hb
  have dX:x=y:=by
   rcases dr.1 ((h x).1 (by simp))with e|e
   ·exact e
   ·rcases dr.1 ((h y).2 (by simp))with e2|e2
    ·exact wE e2
    ·have:=h1.1 y e2;have:=h2.1 x e;omega
  subst dX
  congr 1
  refine Vt h1.2 h2.2 fun z=>?_
  constructor
  ·intro hz
   rcases dr.1 ((h z).1 (cD _ hz))with e|e
   ·subst e;have:=h1.1 z hz;omega
   ·exact e
  ·intro hz
   rcases dr.1 ((h z).2 (cD _ hz))with e|e
   ·subst e;have:=h2.1 z hz;omega
   ·exact e
theorem VP.Ig {R:List P} (h:VP w R):eL R<2^w.rs.l.length:=auQ fun p hp=>by have:=(h.mem p hp).1;have:=(h.mem p hp).2.1;omega
theorem VP.reqs (hw:Wk w) {R:List P} (h:VP w R):dy (eL R)=R.map (·.req):=by
 have fV:=hw.v.rl
 have aB:eL R<2^62:=pY h.Ig (mb (by decide) (by omega))
 refine Vt SV (by rw[Av];exact h.qV) fun x=>?_
 rw[MN aB,zU,fc]
 simp only[cN,fB]
 constructor
 ·rintro⟨h0,p,hp,he⟩
  have:=(h.mem p hp).1
  exact⟨p,hp,by omega⟩
 ·rintro⟨p,hp,rfl⟩
  exact⟨(h.mem p hp).1,p,hp,rfl⟩
theorem VP.val (hw:Wk w) {R:List P} (h:VP w R):ou w (eL R)=ck w R:=by
 unfold ou
 rw[h.reqs hw,adR]
end
section
variable{w:W}
theorem VP.sep (hw:Wk w) {R:List P} (h:VP w R) {p q:P} (hp:p∈R) (hq:q∈R) (aF:p.req≠q.req):dA w p q=false:=by
 obtain⟨i,hi⟩:=oZ hp
 obtain⟨j,hj⟩:=oZ hq
 obtain⟨uh,Zt⟩:=bI.1 hi
 obtain⟨nL,Zy⟩:=bI.1 hj
 have vJ:=UH.1 h.nc
 rcases UQ i j with py|py|py
 ·have:=vJ i j uh nL py
  rwa [Zt,Zy]at this
 ·subst py
  rw[hi]at hj;injection hj with hj
  exact absurd (by rw[hj]) aF
 ·have:=vJ j i nL uh py
  rw[Zt,Zy]at this
  rw[GG hw (h.n6 hw p hp) (h.n6 hw q hq)];exact this
theorem ab9 {l:List P} {i:Int} {p:P} (h:iJ l i=some p):p∈l∧p.req=i:=by
 unfold iJ at h
 exact⟨aeT h,by simpa using List.find?_some h⟩
theorem ab8 {l:List P} {i:Int} (h:(iJ l i).isNone=true):∀p∈l,p.req≠i:=by
 intro p hp he
 unfold iJ at h
 rw[ae1,Uw]at h
 exact h p hp (by simpa using he)
theorem auZ {l:List P} {i:Int} (h:∃p∈l,p.req=i):∃p,iJ l i=some p:=by
 obtain⟨p,hp,he⟩:=h
 unfold iJ
 have:(l.find? fun x=>decide (x.req=i)).isSome=true:=List.find?_isSome.2 ⟨p,hp,by simpa using he⟩
 exact tB.1 this
theorem QE (hw:Wk w) {pl rest:List P} (h:VP w (pl++rest)):kV w (df w) pl (eL (pl++rest))=true:=by
 have fV:=hw.v.rl
 rw[Yt hw h.Ig]
 have bU:∀i∈ni pl (eL (pl++rest)),∃p,iJ (pl++rest) i=some p∧p∈pl++rest∧p.req=i∧∀q∈pl,q.req≠i:=by
  intro i hi
  obtain⟨h1,h2⟩:=ji.1 hi
  rw[h.reqs hw,cN]at h1
  obtain⟨p,hp⟩:=auZ h1
  exact⟨p,hp,(ab9 hp).1,(ab9 hp).2,ab8 h2⟩
 refine⟨fun i=>(iJ (pl++rest) i).getD fl,fun i hi=>?_,fun i hi j hj py=>?_⟩
 ·obtain⟨p,hp,hm,hr,kE⟩:=bU i hi
  show(iJ (pl++rest) i).getD fl∈_∧∀q∈pl,dA w ((iJ (pl++rest) i).getD fl) q=false
  rw[hp,uO]
  refine⟨by rw[←hr];exact(h.mem p hm).2.2,fun q hq=>?_⟩
  exact h.sep hw hm (tu _ hq) (by rw[hr];exact fun e=>kE q hq (wE e))
 ·obtain⟨p,hp,hm,hr,_⟩:=bU i hi
  obtain⟨q,hq,jH,j0,_⟩:=bU j hj
  show dA w ((iJ (pl++rest) i).getD fl) ((iJ (pl++rest) j).getD fl)=false
  rw[hp,hq,uO,uO]
  exact h.sep hw hm jH (by rw[hr,j0];exact py)
theorem acj (hw:Wk w) {pl:List P} {m k:Nat} (h:VP w pl) (hk:∀p∈pl,p.req<k) (hm:m<2^w.rs.l.length) (Cz:∀i,i<k→m.testBit i=(eL pl).testBit i) (hf:kV w (df w) pl m=true):
  ∃rest,VP w (pl++rest)∧eL (pl++rest)=m∧∀p∈rest,(k:Int)≤p.req:=by
 have fV:=hw.v.rl
 have xT:m<2^62:=pY hm (mb (by decide) (by omega))
 obtain⟨f,pr,sG⟩:=(Yt hw hm).1 hf
 have bU:∀i∈ni pl m,0≤i∧i<w.rs.l.length∧m.testBit i.toNat=true∧(k:Int)≤i∧∀q∈pl,q.req≠i:=by
  intro i hi
  obtain⟨h1,h2⟩:=ji.1 hi
  obtain⟨h3,h4⟩:=(MN xT).1 h1
  have kE:=ab8 h2
  refine⟨h3,(SW hm h1).2,h4,?_,kE⟩
  apply tj
  intro aB
  rw[Cz i.toNat (by omega),zU,fc]at h4
  obtain⟨p,hp,he⟩:=h4
  have:=(h.mem p hp).1
  exact kE p hp (by simp at he;omega)
 have sB:(ni pl m).Pairwise (· <·):=Un _ SV
 have oN:∀i∈ni pl m,(f i).req=i:=fun i hi=>by
  obtain⟨h0,h1,_⟩:=bU i hi
  exact(jO hw h0 h1 (pr i hi).1).2.1
 have fk:∀i∈ni pl m,bJ w (f i):=fun i hi=>by
  obtain⟨h0,h1,_⟩:=bU i hi
  exact(jO hw h0 h1 (pr i hi).1).1
 have hR:VP w (pl++(ni pl m).map f):=by
  refine⟨fun p hp=>?_,?_,?_⟩
  ·rcases dR.1 hp with hp|hp
   ·exact h.mem p hp
   ·obtain⟨i,hi,rfl⟩:=cN.1 hp
    obtain⟨h0,h1,_⟩:=bU i hi
    rw[oN i hi]
    exact⟨h0,h1,(pr i hi).1⟩
  ·rw[jj]
   refine⟨h.qV,?_,fun a ha b hb=>?_⟩
   ·rw[Av]
    refine sB.imp_of_mem fun{a b} ha hb jY=>?_
    rw[oN a ha,oN b hb];exact jY
   ·obtain⟨i,hi,rfl⟩:=cN.1 hb
    have:=hk a ha
    have:=(bU i hi).2.2.2.1
    rw[oN i hi];omega
  ·rw[jj]
   refine⟨h.nc,?_,fun a ha b hb=>?_⟩
   ·rw[Av]
    refine sB.imp_of_mem fun{a b} ha hb jY=>?_
    exact sG a ha b hb (by omega)
   ·obtain⟨i,hi,rfl⟩:=cN.1 hb
    rw[GG hw (h.n6 hw a ha) (fk i hi)]
    exact(pr i hi).2 a ha
 refine⟨(ni pl m).map f,hR,?_,fun p hp=>?_⟩
 ·apply Nat.eq_of_testBit_eq
  intro i
  rw[zU,tn,IP,An,fc,fc]
  constructor
  ·rintro(⟨p,hp,he⟩|⟨p,hp,he⟩)
   ·have h0:=(h.mem p hp).1
    have h1:=hk p hp
    have ku:p.req.toNat=i:=by simpa using he
    rw[Cz i (by omega),zU,fc]
    exact⟨p,hp,he⟩
   ·obtain⟨j,hj,rfl⟩:=cN.1 hp
    have ku:(f j).req.toNat=i:=by simpa using he
    rw[oN j hj]at ku
    rw[←ku];exact(bU j hj).2.2.1
  ·intro hb
   by_cases hex:∃p∈pl,p.req.toNat=i
   ·obtain⟨p,hp,he⟩:=hex
    exact .inl ⟨p,hp,by simpa using he⟩
   ·right
    have hi:(i:Int)∈ni pl m:=by
     refine ji.2 ⟨(MN xT).2 ⟨by omega,by simpa using hb⟩,?_⟩
     rw[ae1]
     unfold iJ
     rw[Uw]
     intro p hp he
     have:p.req=(i:Int):=by simpa using he
     exact hex ⟨p,hp,by omega⟩
    refine⟨f i,cN.2 ⟨i,hi,rfl⟩,?_⟩
    rw[oN _ hi];simp
 ·obtain⟨i,hi,rfl⟩:=cN.1 hp
  rw[oN i hi];exact(bU i hi).2.2.2.1
end
section
variable{w:W}
theorem avh {all:List (Sl P×Bool)} {m:Nat}:∀{k:Nat},(∀c∈all,c.2=true)→zY m k all=true:=by
 induction all with
 |nil=>intro k _;rfl
 |cons c r ih=>
  intro k h
  simp only[zY]
  rw[h c (by simp),Ao,kQ]
  exact ih fun x hx=>h x (cD _ hx)
theorem avg {m:Nat}:Dc (df w) m=true:=by
 unfold Dc
 refine avh fun c hc=>?_
 unfold df qe at hc
 obtain⟨i,_,rfl⟩:=cN.1 hc
 rfl
theorem Ix:∀{N:Nat},(∀m,m∈(ft w (df w) N).2↔m<N∧kV w (df w) [] m=true∧ou w m=(ft w (df w) N).1)∧(∀m,m<N→kV w (df w) [] m=true→ou w m≤(ft w (df w) N).1)
 |0=>⟨fun m=>by simp[ft],fun m h=>by omega⟩
 | N + 1 => by
  obtain⟨h1,h2⟩:=Ix (N:=N)
  rw[Iw]
  unfold Ah
  rw[avg,kQ]
  cases hf:kV w (df w) [] N with
  | false =>
   rw[l8,ak (by decide)]
   refine⟨fun m=>?_,fun m hm vz=>?_⟩
   ·rw[h1]
    constructor
    ·rintro⟨a,b,c⟩;exact⟨by omega,b,c⟩
    ·rintro⟨a,b,c⟩
     have:m≠N:=by intro e;rw[e,hf]at b;exact absurd b (by decide)
     exact⟨by omega,b,c⟩
   ·have:m≠N:=by intro e;rw[e,hf]at vz;exact absurd vz (by decide)
    exact h2 m (by omega) vz
  | true =>
   rw[Am]
   by_cases hle:(ft w (df w) N).1≤ou w N
   ·rw [aj (by simpa using hle)]
    by_cases aB:(ft w (df w) N).1<ou w N
    ·rw[aj aB]
     refine⟨fun m=>?_,fun m hm vz=>?_⟩
     ·simp only[fS]
      constructor
      ·rintro rfl;exact⟨by omega,hf,rfl⟩
      ·rintro⟨a,b,c⟩
       apply tj
       intro aF
       have:=h2 m (by omega) b
       omega
     ·show ou w m≤ou w N
      by_cases e:m=N
      ·rw[e];exact rU _
      ·have:=h2 m (by omega) vz;omega
    ·rw[ak aB]
     refine⟨fun m=>?_,fun m hm vz=>?_⟩
     ·simp only[dR,fS]
      rw[h1]
      constructor
      ·rintro(⟨a,b,c⟩|rfl)
       ·exact⟨by omega,b,c⟩
       ·exact⟨by omega,hf,by omega⟩
      ·rintro⟨a,b,c⟩
       by_cases e:m=N
       ·exact .inr e
       ·exact .inl ⟨by omega,b,c⟩
     ·show ou w m≤(ft w (df w) N).1
      by_cases e:m=N
      ·rw[e];omega
      ·exact h2 m (by omega) vz
   ·rw[ak (by simpa using hle)]
    refine⟨fun m=>?_,fun m hm vz=>?_⟩
    ·rw[h1]
     constructor
     ·rintro⟨a,b,c⟩;exact⟨by omega,b,c⟩
     ·rintro⟨a,b,c⟩
      by_cases e:m=N
      ·subst e;omega
      ·exact⟨by omega,b,c⟩
    ·by_cases e:m=N
     ·subst e;omega
     ·exact h2 m (by omega) vz
def rI (w:W):Int:=(ft w (df w) (2^w.rs.l.length)).1
def zP (w:W):List Nat:=(ft w (df w) (2^w.rs.l.length)).2
theorem VP.le_max (hw:Wk w) {R:List P} (h:VP w R):ck w R≤rI w:=by
 have:=QE hw (pl:=[]) (rest:=R) (by simpa using h)
 rw[gL]at this
 have h2:=(Ix (w:=w) (N:=2^w.rs.l.length)).2 (eL R) h.Ig this
 rwa [h.val hw]at h2
theorem VP.Sd (hw:Wk w) {R:List P} (h:VP w R):eL R∈zP w↔ck w R=rI w:=by
 have hf:=QE hw (pl:=[]) (rest:=R) (by simpa using h)
 rw[gL]at hf
 rw[show zP w=(ft w (df w) (2^w.rs.l.length)).2 from rfl,(Ix (w:=w) (N:=2^w.rs.l.length)).1]
 rw[h.val hw]
 exact⟨fun h=>h.2.2,fun hv=>⟨h.Ig,hf,hv⟩⟩
theorem atl (hw:Wk w):∃R,VP w R∧ck w R=rI w:=by
 have h0:eL ([]:List P)<2^w.rs.l.length:=(VP.nil (w:=w)).Ig
 have hle:=(VP.nil (w:=w)).le_max hw
 have Mn:ck w []=0:=rfl
 have key:∀N,(ft w (df w) N).1=-1∨∃m,m∈(ft w (df w) N).2:=by
  intro N
  induction N with
  |zero=>left;rfl
  | succ N ih =>
   rw[Iw];unfold Ah
   split
   ·split
    ·right;exact⟨N,by simp⟩
    ·right;exact⟨N,by simp⟩
   ·exact ih
 rcases key (2^w.rs.l.length)with h|⟨m,hm⟩
 ·have:rI w=-1:=h
  omega
 ·obtain⟨h1,h2,h3⟩:=(Ix (w:=w) (N:=2^w.rs.l.length)).1 m |>.1 hm
  obtain⟨R,hR,ho,_⟩:=acj hw (pl:=[]) (k:=0) VP.nil (fun p hp=>absurd hp (by simp)) h1 (fun i hi=>by omega) h2
  rw[gL]at hR ho
  exact⟨R,hR,by rw[←hR.val hw,ho];exact h3⟩
end
section
variable{w:W}
theorem abr {all:List (Sl P×Bool)} {plan:List P} {own:Nat} {bW:List Nat} {q:P} {j:Nat} (hq:(all.getD j default).1.l.find? (oS w all plan own bW j)=some q):
  ∀{n i:Nat},i≤j→j<i+n→(∀i',i≤i'→i'<j→(all.getD i' default).1.l.find? (oS w all plan own bW i')=none)→pM w all plan own bW i n=some q
 |0,i,h1,h2,_=>by omega
 | n + 1, i, h1, h2, h3 => by
  simp only[pM]
  by_cases e:i=j
  ·subst e;rw[hq]
  ·rw[h3 i (aI _) (by omega)]
   exact abr hq (by omega) (by omega) fun i' a b=>h3 i' (by omega) b
theorem ajW {pl:List P} {w:W} (h:VP w pl) {i:Int}:((mR pl:Nat):Int)≤i→∀p∈pl,p.req<i:=by
 intro hi p hp
 unfold mR at hi
 cases hl:pl.getLast? with
 |none=>rw[NK]at hl;subst hl;exact absurd hp (by simp)
 | some z =>
  rw[hl]at hi
  simp only at hi
  have hz:=(h.mem z (NR hl)).1
  have hpz:p.req≤z.req:=by
   obtain⟨a,ha⟩:=aeR.1 hl
   rw[ha,dR,fS]at hp
   rcases hp with hp|rfl
   ·have:=h.qV
    rw[ha,jj]at this
    exact Int.le_of_lt (this.2.2 p hp z (by simp))
   ·exact rU _
  omega
theorem ajV {pl t:List P} {q:P} {w:W} (h:VP w (pl++q::t)):mR pl≤q.req.toNat:=by
 unfold mR
 cases hl:pl.getLast? with
 |none=>exact aV _
 |some z=>
  have hzm:=NR hl
  have hz:=(h.mem z (tu _ hzm)).1
  have:=h.qV
  rw[jj]at this
  have:=this.2.2 z hzm q (by simp)
  show z.req.toNat+1≤q.req.toNat
  omega
theorem WY {m o i:Nat}:m&&&(2^(i+1)-1)=o|||2^i↔∀j,((m.testBit j&&decide (j<i+1))=(o.testBit j||decide (i=j))):=by
 constructor
 ·intro h j
  have:=gX (fun x=>Nat.testBit x j) h
  simp only[Nat.testBit_and,ae0,DR,N4]at this
  exact this
 ·intro h
  apply Nat.eq_of_testBit_eq
  intro j
  rw[Nat.testBit_and,ae0,DR,N4]
  exact h j
theorem BL {p:P} {l:List P}:cY w p l=false↔∀q∈l,dA w q p=false:=by
 unfold cY
 rw[qM]
 constructor
 ·intro h q hq;simpa using h q hq
 ·intro h q hq;simpa using h q hq
theorem abu (hw:Wk w) {pl:List P} (h:VP w pl) {i:Nat} (hi:mR pl≤i) (bH:i<w.rs.l.length) {p:P} (hp:p∈ct w (i:Int)) (ho:oS w (df w) pl (eL pl) (zP w) i p=true):
  ∃rest,VP w (pl++p::rest)∧ck w (pl++p::rest)=rI w:=by
 unfold oS at ho
 rw[dE]at ho
 obtain⟨hc,hs⟩:=ho
 have hc:cY w p pl=false:=by simpa using hc
 obtain⟨m,hm,jH⟩:=fc.1 hs
 rw[dE,fB]at jH
 obtain⟨Cz,nJ⟩:=jH
 obtain⟨fk,hr,_⟩:=jO hw (show(0:Int)≤(i:Int)by omega) (by omega) hp
 have oN:=ajW h (i:=(i:Int)) (by omega)
 have h1:VP w (pl++[p]):=by
  refine⟨fun q hq=>?_,?_,?_⟩
  ·rw[dR,fS]at hq
   rcases hq with hq|rfl
   ·exact h.mem q hq
   ·rw[hr];exact⟨by omega,by omega,hp⟩
  ·rw[jj]
   refine⟨h.qV,NT _ _,fun a ha b hb=>?_⟩
   rw[fS]at hb;subst hb
   rw[hr];exact oN a ha
  ·rw[jj]
   refine⟨h.nc,NT _ _,fun a ha b hb=>?_⟩
   rw[fS]at hb;subst hb
   exact BL.1 hc a ha
 obtain⟨amV,hmf,hmv⟩:=(Ix (w:=w) (N:=2^w.rs.l.length)).1 m |>.1 hm
 have hb:=WY.1 Cz
 obtain⟨rest,hR,nO,_⟩:=acj hw (pl:=pl++[p]) (m:=m) (k:=i+1) h1 (fun q hq=>by
  rw[dR,fS]at hq
  rcases hq with hq|rfl
  ·have:=oN q hq;omega
  ·rw[hr];omega) amV (fun j hj=>by
  have:=hb j
  rw[bS hj,Am]at this
  rw[this,ab4,DR,hr,N4];simp) nJ
 rw[gK,List.singleton_append]at hR nO
 exact⟨rest,hR,by rw[←hR.val hw,nO];exact hmv⟩
theorem YS (hw : Wk w) {Q : List P} (hQ : VP w Q) (hv : ck w Q = rI w) (rp : ∀ R, VP w R → ck w R = rI w → ff R Q = false) :
  ∀(fuel:Nat) (pl t:List P),Q=pl++t→t.length<fuel→xI w (df w) (zP w) fuel pl=Q
 |0,_,_,_,h=>absurd h (dH _)
 | fuel + 1, pl, t, hq, hl => by
  simp only[xI]
  have ed:VP w pl:=by rw[hq]at hQ;exact hQ.pre
  cases t with
  |nil=>
   rw[kR]at hq
   subst hq
   rw[aj (fc.2 ⟨eL Q,(hQ.Sd hw).2 hv,by simp⟩)]
  | cons q t =>
   rw[ak (by
    intro h
    obtain⟨m,hm,he⟩:=fc.1 h
    have he:eL pl=m:=by simpa using he
    rw[←he]at hm
    have:=rp pl ed ((ed.Sd hw).1 hm)
    rw[hq,agl (by simp)]at this
    exact absurd this (by decide))]
   have Cd:=hQ
   rw[hq]at Cd
   obtain⟨q0,q1,qp⟩:=Cd.mem q (by simp)
   have hlen:(df w).length=w.rs.l.length:=by unfold df qe;simp
   have ZB:((q.req.toNat:Nat):Int)=q.req:=by omega
   have qq:=ajV Cd
   have am3 : vX w (df w) pl (eL pl) (zP w) = some q := by
    unfold vX
    rw[hlen]
    refine abr (j:=q.req.toNat) ?_ qq (by omega) ?_
    ·rw [QH (by omega), me, ZB]
     rw[List.find?_eq_some_iff_append]
     have Z5:=avF hw q0 q1
     obtain⟨as,bs,jY⟩:=List.append_of_mem qp
     refine⟨?_,as,bs,jY,fun p hp=>?_⟩
     · -- q itself may come next
      unfold oS
      rw[dE]
      refine⟨?_,fc.2 ⟨eL Q,(hQ.Sd hw).2 hv,?_⟩⟩
      ·have:cY w q pl=false:=BL.2 fun a ha=>by
        have:=Cd.nc
        rw[jj]at this
        exact this.2.2 a ha q (by simp)
       rw[this];rfl
      ·rw [dE, fB]
       constructor
       ·rw[WY]
        intro j
        rw[hq,zU,zU,tn,ke]
        have sB:=Cd.qV
        rw[jj,rX]at sB
        have ht:∀x∈t,q.req<x.req:=sB.2.1.1
        have vI:∀x∈pl,x.req<q.req:=fun x hx=>sB.2.2 x hx q (by simp)
        have h0:∀x∈pl,0≤x.req:=fun x hx=>(ed.mem x hx).1
        by_cases hj:j<q.req.toNat+1
        ·rw[bS hj,Am]
         have:(t.any fun p=>decide (p.req.toNat=j))=false:=by
          rw[qM];intro x hx;have:=ht x hx;simp;omega
         rw[this,uJ]
        ·rw[bX hj,l8]
         have h1:(pl.any fun p=>decide (p.req.toNat=j))=false:=by
          rw[qM];intro x hx;have:=vI x hx;have:=h0 x hx;simp;omega
         rw[h1,bX (by omega)];rfl
       ·rw[hq,show pl++q::t=(pl++[q])++t by simp]
        exact QE hw (by rw[gK];exact Cd)
     · -- an earlier one would give an earlier plan
      rw[NB]
      cases ho:oS w (df w) pl (eL pl) (zP w) q.req.toNat p with
      |false=>rfl
      | true =>
       have pD:p∈ct w q.req:=by rw[jY];simp[hp]
       obtain⟨rest,hR,LF⟩:=abu hw ed qq (by omega) (by rw[ZB];exact pD) ho
       have:=rp _ hR LF
       rw[hq,KG]at this
       have aB:lexB (kP p) (kP q)=true:=by
        rw[jY,jj]at Z5
        exact Z5.2.2 p hp q (by simp)
       simp only[ff]at this
       rw[ak (by intro e;rw[e,H6]at aB;exact absurd aB (by decide)),aB]at this
       exact absurd this (by decide)
    ·intro i' h1 h2
     rw[QH (by omega),me,Uw]
     intro p hp ho
     obtain⟨rest,hR,LF⟩:=abu hw ed h1 (by omega) hp ho
     have:=rp _ hR LF
     rw[hq,KG]at this
     have hr:=(jO hw (show(0:Int)≤(i':Int)by omega) (by omega) hp).2.1
     have aB:lexB (kP p) (kP q)=true:=by
      unfold kP
      simp only[lexB]
      rw[ak (by omega)];simp;omega
     simp only[ff]at this
     rw[ak (by intro e;rw[e,H6]at aB;exact absurd aB (by decide)),aB]at this
     exact absurd this (by decide)
   rw[am3]
   exact YS hw hQ hv rp fuel (pl++[q]) t (by rw[hq];simp) (by simp at hl;omega)
theorem agp (hw:Wk w) {Q:List P} (hQ:VP w Q) (hv:ck w Q=rI w) (rp:∀R,VP w R→ck w R=rI w→ff R Q=false):gd w=(Q,rI w,true):=by
 have hlen:(df w).length=w.rs.l.length:=by unfold df qe;simp
 have hle:=(VP.nil (w:=w)).le_max hw
 have Mn:ck w []=0:=rfl
 unfold gd ES
 rw[hlen]
 rw[ak (show¬(ft w (df w) (2^w.rs.l.length)).1<0 from by show¬rI w<0;omega)]
 have HI:Q.length<w.rs.l.length+1:=by
  have:∀(l:List P) (k:Int),0≤k→l.Pairwise (fun a b=>a.req<b.req)→(∀p∈l,k≤p.req∧p.req<w.rs.l.length)→(l.length:Int)≤w.rs.l.length-k∨l=[]:=by
   intro l
   induction l with
   |nil=>intro _ _ _ _;right;rfl
   |cons x r ih=>
    intro k hk hp hm
    left
    have hx:=hm x (by simp)
    have CJ:=rX.1 hp
    rcases ih (x.req+1) (by omega) CJ.2 (fun p jJ=>⟨by have:=CJ.1 p jJ;omega,(hm p (cD _ jJ)).2⟩)with h|h
    ·simp only[cH];omega
    ·subst h;simp;omega
  rcases this Q 0 (by omega) hQ.qV (fun p hp=>⟨(hQ.mem p hp).1,(hQ.mem p hp).2.1⟩)with h|h
  ·omega
  ·subst h;simp
 have:=YS hw hQ hv rp (w.rs.l.length+1) [] Q rfl HI
 rw[show(ft w (df w) (2^w.rs.l.length)).2=zP w from rfl,this]
 rfl
end
section
variable{w:W}
def n7 (w:W) (rq:List Int):Nat→Nat→List P→List (List P)
 |_,0,l=>[l]
 |i,k+1,l=>n7 w rq (i+1) k l++if(rq.any fun x=>decide (x=(i:Int)))=true then(ep w l i).flatMap fun p=>n7 w rq (i+1) k (l++[p])else[]
theorem VP.snoc (hw:Wk w) {l:List P} (h:VP w l) {i:Nat} (hi:∀p∈l,p.req<i) (bH:i<w.rs.l.length) {p:P} (hp:p∈ep w l i):VP w (l++[p])∧p.req=i:=by
 obtain⟨kY,hc⟩:=ji.1 hp
 have hc:cY w p l=false:=by simpa using hc
 obtain⟨fk,hr,_⟩:=jO hw (show(0:Int)≤(i:Int)by omega) (by omega) kY
 refine⟨⟨fun q hq=>?_,?_,?_⟩,hr⟩
 ·rw[dR,fS]at hq
  rcases hq with hq|rfl
  ·exact h.mem q hq
  ·rw[hr];exact⟨by omega,by omega,kY⟩
 ·rw[jj]
  refine⟨h.qV,NT _ _,fun a ha b hb=>?_⟩
  rw[fS]at hb;subst hb
  rw[hr];exact hi a ha
 ·rw[jj]
  refine⟨h.nc,NT _ _,fun a ha b hb=>?_⟩
  rw[fS]at hb;subst hb
  exact BL.1 hc a ha
theorem Dd (hw:Wk w) {rq:List Int}:∀{k i:Nat} {l X:List P},i+k=w.rs.l.length→VP w l→(∀p∈l,p.req<i)→
  (X∈n7 w rq i k l↔VP w X∧∃t,X=l++t∧∀p∈t,(i:Int)≤p.req∧p.req∈rq)
 | 0, i, l, X, hk, hl, hi => by
  simp only[n7,fS]
  constructor
  ·rintro rfl;exact⟨hl,[],by simp,fun p hp=>absurd hp (by simp)⟩
  ·rintro⟨hX,t,rfl,ht⟩
   cases t with
   |nil=>simp
   |cons p t=>
    have h1:=(hX.mem p (by simp)).2.1
    have h2:=(ht p (by simp)).1
    omega
 | k + 1, i, l, X, hk, hl, hi => by
  simp only[n7,dR]
  rw[Dd hw (k:=k) (i:=i+1) (by omega) hl fun p hp=>by have:=hi p hp;omega]
  constructor
  ·rintro(⟨hX,t,rfl,ht⟩|h)
   ·exact⟨hX,t,rfl,fun p hp=>⟨by have:=(ht p hp).1;omega,(ht p hp).2⟩⟩
   ·by_cases hr:(rq.any fun x=>decide (x=(i:Int)))=true
    ·rw[aj hr,List.mem_flatMap]at h
     obtain⟨p,hp,hX⟩:=h
     obtain⟨hv,ru⟩:=hl.snoc hw hi (by omega) hp
     rw[Dd hw (k:=k) (i:=i+1) (by omega) hv fun q hq=>by
      rw[dR,fS]at hq
      rcases hq with hq|rfl
      ·have:=hi q hq;omega
      ·omega]at hX
     obtain⟨hX,t,rfl,ht⟩:=hX
     refine⟨hX,p::t,by simp,fun q hq=>?_⟩
     rcases dr.1 hq with rfl|hq
     ·refine⟨by omega,?_⟩
      obtain⟨x,hx,he⟩:=fc.1 hr
      rw[ru,←S2 he];exact hx
     ·exact⟨by have:=(ht q hq).1;omega,(ht q hq).2⟩
    ·rw[ak hr]at h;exact absurd h (by simp)
  ·rintro⟨hX,t,rfl,ht⟩
   by_cases hex:∃p t',t=p::t'∧p.req=i
   ·obtain⟨p,t',rfl,hp⟩:=hex
    right
    have hr:(rq.any fun x=>decide (x=(i:Int)))=true:=fc.2 ⟨p.req,(ht p (by simp)).2,by simp[hp]⟩
    rw[aj hr,List.mem_flatMap]
    have pD:=(hX.mem p (by simp)).2.2
    rw[hp]at pD
    have lS:p∈ep w l i:=ji.2 ⟨pD,by
     have:cY w p l=false:=BL.2 fun a ha=>by
      have:=hX.nc
      rw[jj]at this
      exact this.2.2 a ha p (by simp)
     rw[this];rfl⟩
    obtain⟨hv,ru⟩:=hl.snoc hw hi (by omega) lS
    refine⟨p,lS,?_⟩
    rw[Dd hw (k:=k) (i:=i+1) (by omega) hv fun q hq=>by
      rw[dR,fS]at hq
      rcases hq with hq|rfl
      ·have:=hi q hq;omega
      ·omega]
    refine⟨hX,t',by simp,fun q hq=>⟨?_,(ht q (cD _ hq)).2⟩⟩
    have:=hX.qV
    rw[jj,rX]at this
    have:=this.2.1.1 q hq
    omega
   ·left
    refine⟨hX,t,rfl,fun p hp=>⟨?_,(ht p hp).2⟩⟩
    cases t with
    |nil=>exact absurd hp (by simp)
    | cons q t' =>
     have hq:=(ht q (by simp)).1
     have hqn:q.req≠i:=fun e=>hex ⟨q,t',rfl,e⟩
     rcases dr.1 hp with rfl|hp
     ·omega
     ·have:=hX.qV
      rw[jj,rX]at this
      have:=this.2.1.1 p hp
      omega
theorem agk {y:List P}:∀{a b:List P},a.map kP=b.map kP→ff y a=ff y b:=by
 induction y with
 | nil =>
  intro a b h
  cases a with
  |nil=>cases b with
   |nil=>rfl
   |cons _ _=>simp at h
  |cons _ _=>cases b with
   |nil=>simp at h
   |cons _ _=>rfl
 | cons x r ih =>
  intro a b h
  cases a with
  |nil=>cases b with
   |nil=>rfl
   |cons _ _=>simp at h
  | cons u a => cases b with
   |nil=>simp at h
   |cons v b=>
    rw[fR,fR,DB]at h
    simp only[ff]
    rw[h.1,ih h.2]
def better (w:W) (a b:List P):Bool:=decide (ck w b<ck w a)||(decide (ck w a=ck w b)&&ff a b)
def iN (w:W) (b:List P) (l:List (List P)):List P:=l.foldl (fun b x=>if better w x b=true then x else b) b
theorem ET:∀{l:List (List P)} {b:List P},(iN w b l=b∨iN w b l∈l)∧ck w b≤ck w (iN w b l)∧(∀x∈l,ck w x≤ck w (iN w b l))∧
  (ck w b=ck w (iN w b l)→ff b (iN w b l)=false)∧(∀x∈l,ck w x=ck w (iN w b l)→ff x (iN w b l)=false)
 |[],b=>⟨.inl rfl,rU _,fun x hx=>absurd hx (by simp),fun _=>WS,fun x hx=>absurd hx (by simp)⟩
 | x :: r, b => by
  have e:iN w b (x::r)=iN w (if better w x b=true then x else b) r:=rfl
  rw[e]
  by_cases hb:better w x b=true
  ·rw[aj hb]
   obtain⟨h1,h2,h3,h4,h5⟩:=ET (l:=r) (b:=x)
   have vP:ck w b≤ck w x∧(ck w b=ck w x→ff x b=true):=by
    unfold better at hb
    rw[An,dE,fB,fB]at hb
    rcases hb with hb|⟨hb,iB⟩
    ·exact⟨by omega,fun h=>by omega⟩
    ·exact⟨by omega,fun _=>iB⟩
   refine⟨?_,by omega,fun y hy=>?_,fun hv=>?_,fun y hy hv=>?_⟩
   ·rcases h1 with h1|h1
    ·right;rw[h1];simp
    ·right;exact cD _ h1
   ·rcases dr.1 hy with rfl|hy
    ·exact h2
    ·exact h3 y hy
   ·have hx:=h4 (by omega)
    have dC:=vP.2 (by omega)
    cases hc:ff b (iN w x r)with
    |false=>rfl
    |true=>rw[P2 dC hc]at hx;exact absurd hx (by decide)
   ·rcases dr.1 hy with rfl|hy
    ·exact h4 hv
    ·exact h5 y hy hv
  ·rw [ak hb]
   obtain⟨h1,h2,h3,h4,h5⟩:=ET (l:=r) (b:=b)
   have vP:ck w x≤ck w b∧(ck w x=ck w b→ff x b=false):=by
    unfold better at hb
    rw[An,dE,fB,fB,not_or]at hb
    refine⟨by omega,fun hv=>?_⟩
    cases hc:ff x b with
    |false=>rfl
    |true=>exact absurd ⟨hv,hc⟩ hb.2
   refine⟨?_,h2,fun y hy=>?_,h4,fun y hy hv=>?_⟩
   ·rcases h1 with h1|h1
    ·exact .inl h1
    ·right;exact cD _ h1
   ·rcases dr.1 hy with rfl|hy
    ·omega
    ·exact h3 y hy
   ·rcases dr.1 hy with rfl|hy
    ·have hx:=vP.2 (by omega)
     have iB:=h4 (by omega)
     cases hc:ff y (iN w b r)with
     |false=>rfl
     | true =>
      cases Ci:ff (iN w b r) b with
      |true=>rw[P2 hc Ci]at hx;exact absurd hx (by decide)
      |false=>
       have hk:=WT iB Ci
       rw[agk (wE hk),hx]at hc
       exact absurd hc (by decide)
    ·exact h5 y hy hv
theorem P4 (hw:Wk w) {rq:List Int} (Mh:∀i:Nat,i<w.rs.l.length→(i:Int)∈rq) {b:List P} {r:List (List P)} (hp:n7 w rq 0 w.rs.l.length []=b::r):gd w=(iN w b r,ck w (iN w b r),true):=by
 have Hs:=fun X=>Dd (X:=X) hw (rq:=rq) (k:=w.rs.l.length) (i:=0) (by omega) VP.nil (fun p hp=>absurd hp (by simp))
 rw[hp]at Hs
 have gm:∀X,X∈b::r↔VP w X:=fun X=>by
  rw[Hs X]
  constructor
  ·rintro⟨h,_⟩;exact h
  ·intro h
   refine⟨h,X,rfl,fun p hp=>?_⟩
   obtain⟨h0,h1,_⟩:=h.mem p hp
   have:=Mh p.req.toNat (by omega)
   rw[show((p.req.toNat:Nat):Int)=p.req by omega]at this
   exact⟨by omega,this⟩
 obtain⟨h1,h2,h3,h4,h5⟩:=ET (w:=w) (l:=r) (b:=b)
 have hQ:VP w (iN w b r):=(gm _).1 (by
  rcases h1 with h|h
  ·rw[h];simp
  ·exact cD _ h)
 have jF:∀X,VP w X→ck w X≤ck w (iN w b r):=fun X hX=>by
  rcases dr.1 ((gm X).2 hX)with rfl|h
  ·exact h2
  ·exact h3 X h
 obtain⟨R,hR,LF⟩:=atl hw
 have hv:ck w (iN w b r)=rI w:=by
  have:=jF R hR
  have:=hQ.le_max hw
  omega
 rw[agp hw hQ hv fun X hX hXv=>by
  rcases dr.1 ((gm X).2 hX)with rfl|h
  ·exact h4 (by omega)
  ·exact h5 X h (by omega),hv]
end
section
variable{s:ae} {w:W}
theorem acC (hs:Ok s) (hw:w.Ok) (hf:w.jT):aw AP (.fn 6) [w.v] s=some (I (kN w),s):=by
 have iZ:∀r,aw AP (.fn 26) [w.v] (s.push r)=some (I (cM w).2.2,s.push r):=fun r=>acE (hs.push r) hw hf
 simp only[W.v,aW,Sl.v]at iZ
 unfold kN
 by_cases h0:(cM w).2.2=0
 ·rw [aj h0]
  have aY:Wk w:=⟨hw,hf,pR h0⟩
  have fV:=aY.v.rl
  have h6:decide ((6:Int)<(w.rs.l.length:Int))=!decide (w.rs.l.length≤6):=qa (by omega)
  have key:∀(k:Nat) ρ m,k≤w.rs.l.length→(ρ 1=.ptr s.ag.length 0 0∧ρ 4=I k∧∃bx,m=s.push ⟨aW w::bx,[]⟩)→
    go AP ai6 (.c (.loop Ef)::aqY) ⟨ρ,m⟩=some (I (cond ((w.rs.l.drop k).any fun r=>decide (8<r.hi-r.lo+2-r.len)) 8 0),s):=by
   refine bA _ _ _ ?_ ?_
   ·rintro k ρ m hk ⟨g1,g4,bx,rfl⟩ ih
    obtain⟨q,hq⟩:=get_some hk
    have bf:=Sl.ix (f:=aS) hw.rs hq
    have HJ:=aY.v.r q (bE hq)
    have a1:=HJ.pK
    have a2:=HJ.bH
    have a3:=HJ.CX
    have a4:=HJ.kJ
    have a5:=HJ.pJ
    have a6:=aY.v.n2
    have w1:IntKind.i64.wrap (IntKind.i64.wrap (IntKind.i64.wrap (IntKind.i64.wrap (q.hi-q.lo)+1)-q.len)+1)=q.hi-q.lo+2-q.len:=by
     rw[bq (x:=q.hi-q.lo) (by omega) (by omega),bq (x:=q.hi-q.lo+1) (by omega) (by omega),bq (x:=q.hi-q.lo+1-q.len) (by omega) (by omega),bq (by omega) (by omega)];omega
    simp only[aS,Sl.v]at bf
    rw[gO hq,ke]
    cases hd:decide (8<q.hi-q.lo+2-q.len)with
    |true=>simp only[go_sem,Ef,g1,g4,hs,aL hk,bf,w1,hd,Ao,simprocAttr]
    |false=>
     simp only[go_sem,Ef,g1,g4,hs,aL hk,bf,w1,hd,bh hk (show(w.rs.l.length:Int)<_ by omega),simprocAttr]
     rw[nq]
     refine ih _ _ ?_
     exact⟨g1,rfl,_,rfl⟩
   ·rintro ρ m ⟨g1,g4,bx,rfl⟩
    simp only[go_sem,Ef,OR,g1,g4,bg,simprocAttr]
    rw[fe];rfl
  rw[aG (show AP 6=some Bi from rfl) rfl]
  unfold Ag
  cases hd:decide (w.rs.l.length≤6)with
  |false=>simp only[go_sem,JK,iZ,h0,h6,hd,bV,gI,th,lr,simprocAttr]
  | true =>
   simp only[go_sem,JK,iZ,h0,h6,hd,bV,gI,ov,simprocAttr]
   refine yo (key 0 _ _ (aV _) ?_) ?_
   ·exact⟨rfl,rfl,[],rfl⟩
   ·rw[iK]
    cases(w.rs.l.any fun r=>decide (8<r.hi-r.lo+2-r.len))<;>rfl
 ·rw[ak h0]
  rw[aG (show AP 6=some Bi from rfl) rfl]
  simp only[go_sem,JK,iZ,h0,bV,j3,simprocAttr]
end
section
variable{s:ae} {w:W}
end
section
variable{s:ae} {w:W}
def Du (w:W) (dD:Int):Nat→Nat→Int→Int
 |_,0,n=>n
 |i,k+1,n=>if n≤dD then Du w dD (i+1) k (n*(1+(ct w (i:Int)).length))else n
theorem awl (hs:Ok s) (hw:Wk w):aw AP (.fn 25) [w.v,I 2000] s=some (I (Du w 2000 0 w.rs.l.length 1),s):=by
 have fV:=hw.v.rl
 have key:∀(k:Nat) (i:Nat) (n:Int) ρ m,i+k=w.rs.l.length→(ρ 1=I 2000∧ρ 2=.ptr s.ag.length 0 0∧ρ 5=I n∧ρ 6=I i∧1≤n∧m=s.push ⟨[aW w],[]⟩)→
   go AP ai8 (.c (.loop Eg)::aq0) ⟨ρ,m⟩=some (I (Du w 2000 i k n),s):=by
  intro k
  induction k with
  |zero=>
   rintro i n ρ m hk ⟨g1,g2,g5,g6,hn,rfl⟩
   have hi:i=w.rs.l.length:=by omega
   subst hi
   rw[go_loop]
   simp only[go_sem,Eg,JM,g2,g5,g6,bg,simprocAttr]
   rfl
  | succ k ih =>
   rintro i n ρ m hk ⟨g1,g2,g5,g6,hn,rfl⟩
   have vx:=z7 hw (i:=(i:Int)) (by omega) (by omega)
   have iE:∀r,aw AP (.fn 57) [w.v,I i] (s.push r)=some (bB 3 (((ct w i).map (Ab (w.rq i).need.toNat)).map aq),s.push r):=fun r=>awj (hs.push r) hw (by omega) (by omega)
   have qt:oR false (bB 3 (((ct w i).map (Ab (w.rq i).need.toNat)).map aq))=some (I (ct w i).length):=by rw[SH,cg,cg]
   simp only[W.v,aW,Sl.v]at iE
   rw[go_loop]
   simp only[Du]
   by_cases hle:n≤2000
   ·rw[aj hle]
    have hb:n*(1+((ct w i).length:Int))≤2000*13001:=by
     refine Int.le_trans (Uj hle (by omega)) ?_
     omega
    have gj:1≤n*(1+((ct w i).length:Int)):=by
     have:=Int.mul_pos (show(0:Int)<n by omega) (show(0:Int)<1+((ct w i).length:Int)by omega)
     omega
    have w1:IntKind.i64.wrap (1+((ct w i).length:Int))=1+((ct w i).length:Int):=bq (by omega) (by omega)
    have w2:IntKind.i64.wrap (n*(1+((ct w i).length:Int)))=n*(1+((ct w i).length:Int)):=bq (by omega) (by omega)
    have d1:decide ((i:Int)<(w.rs.l.length:Int))=true:=by simp;omega
    have d2:decide (n≤2000)=true:=by simpa using hle
    have w3:IntKind.i64.wrap ((i:Int)+1)=((i+1:Nat):Int):=by rw[bq (by omega) (by omega)];omega
    simp only[go_sem,Eg,g1,g2,g5,g6,d1,d2,iE,qt,w1,w2,w3,simprocAttr]
    refine ih (i+1) _ _ _ (by omega) ?_
    exact⟨g1,g2,rfl,rfl,gj,rfl⟩
   ·rw[ak hle]
    have d1:decide ((i:Int)<(w.rs.l.length:Int))=true:=by simp;omega
    have d2:decide (n≤2000)=false:=by simp;omega
    simp only[go_sem,Eg,JM,g1,g2,g5,g6,d1,d2,simprocAttr]
 rw[aG (show AP 25=some Ft from rfl) rfl]
 simp only[go_sem,VU,simprocAttr]
 refine key w.rs.l.length 0 1 _ _ (by omega) ?_
 exact⟨rfl,rfl,rfl,rfl,by omega,rfl⟩
end
section
variable{s:ae} {w:W}
def H7 (w:W):Bool:=y3 w&&(decide (¬kN w=0)||decide (Du w 2000 0 w.rs.l.length 1≤2000))
theorem adw {w:W} (h:kN w=0):(cM w).2.2=0:=by
 unfold kN at h
 by_cases h0:(cM w).2.2=0
 ·exact h0
 ·rw[ak h0]at h;exact h
theorem ar9 (hs:Ok s) (hw:w.Ok) (hb:w.qL):aw AP (.fn 5) [w.v] s=some (B (H7 w),s):=by
 have LY:∀r,aw AP (.fn 24) [w.v] (s.push r)=some (B (y3 w),s.push r):=fun r=>ar8 (hs.push r) hw hb
 simp only[W.v,aW,Sl.v]at LY
 unfold H7
 cases hf:y3 w with
 |false=>
  rw[aG (show AP 5=some yR from rfl) rfl]
  simp only[go_sem,JD,LY,hf,lr,simprocAttr]
 | true =>
  have hF:=Yh hf
  have um:∀r,aw AP (.fn 6) [w.v] (s.push r)=some (I (kN w),s.push r):=fun r=>acC (hs.push r) hw hF
  simp only[W.v,aW,Sl.v]at um
  by_cases h0:kN w=0
  ·have aY:Wk w:=⟨hw,hF,pR (adw h0)⟩
   have nT:∀r,aw AP (.fn 25) [w.v,I 2000] (s.push r)=some (I (Du w 2000 0 w.rs.l.length 1),s.push r):=fun r=>awl (hs.push r) aY
   simp only[W.v,aW,Sl.v]at nT
   rw[h0]at um
   rw[aG (show AP 5=some yR from rfl) rfl]
   simp only[go_sem,JD,LY,hf,um,nT,h0,bV,gI,kQ,nq,se,simprocAttr]
  ·have hd:decide (¬kN w=0)=true:=by simp[h0]
   rw[aG (show AP 5=some yR from rfl) rfl]
   simp only[go_sem,JD,LY,hf,um,hd,bV,kQ,Ao,simprocAttr]
end
section
variable{s:ae} {w:W}
def AG (d es:Nat) (xs:List (List AV)) (x:AV) (tk:List (Option Nat)):Prop:=
 x=.slice .full es xs∨∃g,x=.slice (.tok d g) es xs∧tk[g]? =some (some xs.length)
theorem AG.sl {d es:Nat} {xs:List (List AV)} {x:AV} {tk:List (Option Nat)} (h:AG d es xs x tk):∃o,x=.slice o es xs:=by
 rcases h with h|⟨g,h,_⟩
 ·exact⟨_,h⟩
 ·exact⟨_,h⟩
theorem AG.ext {d es:Nat} {xs:List (List AV)} {x:AV} {tk tk':List (Option Nat)} (h:AG d es xs x tk) (hx:∀(g:Nat) (n:Option Nat),tk[g]? =some n→tk'[g]? =some n):AG d es xs x tk':=by
 rcases h with h|⟨g,h,hg⟩
 ·exact .inl h
 ·exact .inr ⟨g,h,hx _ _ hg⟩
theorem AG.append {es:Nat} {xs:List (List AV)} {x:AV} {tk:List (Option Nat)} (h:AG s.ag.length es xs x tk) (hs:Ok s) (o:Own) {ys:List (List AV)} (hy:ys≠[]) (hl:xs.length+ys.length≤4294967296):
  ∃x' tk',(∀bx,et (s.push ⟨bx,tk⟩) es x (.slice o es ys)=some (x',s.push ⟨bx,tk'⟩))∧AG s.ag.length es (xs++ys) x' tk':=by
 have pG:ys.isEmpty=false:=by cases ys<;>simp_all
 rcases h with rfl|⟨g,rfl,hg⟩
 ·refine⟨.slice (.tok s.ag.length tk.length) es (xs++ys),tk++[some (xs.length+ys.length)],fun bx=>?_,.inr ⟨tk.length,rfl,by simp⟩⟩
  simp[et,pG,Own.isNil,dD,hl,pO,oC,gD]
 ·refine⟨.slice (.tok s.ag.length g) es (xs++ys),tk.set g (some (xs.length+ys.length)),fun bx=>?_,.inr ⟨g,rfl,?_⟩⟩
  ·simp[et,pG,dD,hl,Aj,hg,M8,hs.ro,Iu]
  ·rw[wH (bI.1 hg).1];simp
end
section
variable{s:ae} {w:W}
theorem Tl {rq:List Int}:∀{k i:Nat} {l:List P},n7 w rq i k l≠[]
 |0,_,_=>by simp[n7]
 |k+1,i,l=>by
  simp only[n7]
  intro h
  exact Tl (Ur.1 h).1
theorem Xo {p:P}:∀{l:List P},cY w p (l.map cP)=cY w p l
 |[]=>rfl
 |x::r=>by
  have h:=Xo (p:=p) (l:=r)
  unfold cY at*
  rw[fR,ke,ke,h];rfl
theorem avr {l:List P} {i:Int}:ep w (l.map cP) i=ep w l i:=by
 unfold ep
 simp only[Xo]
theorem auR {Q:ae} {R:Rec} {es:Nat} {xs:List (List AV)}:nZ (Q.push R) (.slice .full es xs)=some (.slice .full es xs,Q):=by
 show some (_,(Q.push R).pop)=_
 rw[pop_push]
theorem AG.own {Q:ae} {bx:List (List AV)} {tk:List (Option Nat)} {B:List (List AV)} {es:Nat} {xs:List (List AV)} {x:AV} {wy:List (Option Nat)} (hQ:Ok Q) (h:AG (Q.ag.length+1) es xs x wy):
  ∃x' tk',nZ ((Q.push ⟨bx,tk⟩).push ⟨B,wy⟩) x=some (x',Q.push ⟨bx,tk'⟩)∧AG Q.ag.length es xs x' tk'∧(∀(g:Nat) (n:Option Nat),tk[g]? =some n→tk'[g]? =some n):=by
 rcases h with rfl|⟨g,rfl,hg⟩
 ·exact⟨_,_,auR,.inl rfl,fun _ _ h=>h⟩
 ·refine⟨_,_,MY hQ (R:=⟨bx,tk⟩) (r0:=⟨B,wy⟩) hg,.inr ⟨tk.length,rfl,by simp⟩,fun g n h=>?_⟩
  rw[dG (bI.1 h).1];exact h
end
section
variable{s:ae} {w:W}
theorem Nu:∀{l:List P},ck w (l.map cP)=ck w l
 |[]=>rfl
 |p::r=>by
  simp only[fR,ck,Nu (l:=r)];rfl
abbrev Ad (n:Nat):List Int:=(List.range n).map fun i:Nat=>(i:Int)
theorem Wk.c (hw:Wk w) (h0:(cM w).2.2=0):Wk (cW w):=⟨Bf,Be hw.si,pR (by rw[Dt];exact h0)⟩
theorem Tk (hw:Wk w) {rq:List Int}:∀{k i:Nat} {l:List P},i+k=w.rs.l.length→(∀x∈l,0≤x.req∧x.req<w.rs.l.length)→n7 (cW w) rq i k l=n7 w rq i k l
 |0,_,_,_,_=>rfl
 | k + 1, i, l, hk, hl => by
  simp only[n7]
  rw[Tk hw (k:=k) (i:=i+1) (by omega) hl,←avr (w:=cW w),ack hw (by omega) (by omega) hl]
  congr 1
  split
  ·have:∀L:List P,(∀p∈L,p∈ep w l (i:Int))→(L.flatMap fun p=>n7 (cW w) rq (i+1) k (l++[p]))=L.flatMap fun p=>n7 w rq (i+1) k (l++[p]):=by
    intro L
    induction L with
    |nil=>intro _;rfl
    | cons a L ih =>
     intro h
     have ha:=h a (by simp)
     obtain⟨fk,_⟩:=jO hw (show(0:Int)≤(i:Int)by omega) (by omega) (ji.1 ha).1
     rw[IX,IX,ih fun p hp=>h p (cD _ hp),Tk hw (k:=k) (i:=i+1) (by omega) fun x hx=>by
      rw[dR,fS]at hx
      rcases hx with hx|rfl
      ·exact hl x hx
      ·exact⟨fk.r0,fk.r1⟩]
   exact this _ fun _ h=>h
  ·rfl
theorem agr {a b:List P} (ha:∀x∈a,0≤x.req∧x.req<w.rs.l.length) (hb:∀x∈b,0≤x.req∧x.req<w.rs.l.length):better (cW w) a b=better w a b:=by
 unfold better
 rw[←Nu (w:=cW w) (l:=a),Nt ha,←Nu (w:=cW w) (l:=b),Nt hb]
theorem WV:∀{l:List (List P)} {b:List P},(∀x∈b,0≤x.req∧x.req<w.rs.l.length)→(∀a∈l,∀x∈a,0≤x.req∧x.req<w.rs.l.length)→iN (cW w) b l=iN w b l
 |[],_,_,_=>rfl
 |x::r,b,hb,hl=>by
  have hx:=hl x (by simp)
  show iN (cW w) (if better (cW w) x b=true then x else b) r=iN w (if better w x b=true then x else b) r
  rw[agr hx hb]
  refine WV ?_ fun a ha=>hl a (cD _ ha)
  split
  ·exact hx
  ·exact hb
theorem ago (hw:Wk w) (h0:(cM w).2.2=0):(gd (cW w)).1=(gd w).1∧(gd (cW w)).2.1=(gd w).2.1:=by
 have Mh:∀i:Nat,i<w.rs.l.length→(i:Int)∈Ad w.rs.l.length:=fun i hi=>cN.2 ⟨i,pW.2 hi,rfl⟩
 have lS:=Tk hw (rq:=Ad w.rs.l.length) (k:=w.rs.l.length) (i:=0) (l:=[]) (by omega) (fun x hx=>absurd hx (by simp))
 cases hp:n7 w (Ad w.rs.l.length) 0 w.rs.l.length []with
 |nil=>exact absurd hp Tl
 | cons b r =>
  have bH:∀X∈b::r,∀x∈X,0≤x.req∧x.req<w.rs.l.length:=fun X hX x hx=>by
   rw[←hp,Dd hw (by omega) VP.nil (fun p hp=>absurd hp (by simp))]at hX
   have:=hX.1.mem x hx
   exact⟨this.1,this.2.1⟩
  have h1:=P4 hw Mh hp
  have h2:=P4 (w:=cW w) (hw.c h0) (rq:=Ad w.rs.l.length) (fun i hi=>Mh i (by rw[xe]at hi;exact hi)) (b:=b) (r:=r) (by rw[xe,lS,hp])
  have hf:=WV (w:=w) (b:=b) (l:=r) (bH b (by simp)) fun a ha=>bH a (cD _ ha)
  rw[h1,h2,hf]
  refine⟨rfl,?_⟩
  show ck (cW w) (iN w b r)=ck w (iN w b r)
  obtain⟨hm,_⟩:=ET (w:=w) (l:=r) (b:=b)
  rw[←Nu (w:=cW w) (l:=iN w b r),Nt]
  rcases hm with hm|hm
  ·rw[hm];exact bH b (by simp)
  ·exact bH _ (cD _ hm)
theorem axW:kN (cW w)=kN w:=by
 unfold kN
 rw[Dt]
 have:Ag (cW w)=Ag w:=by
  unfold Ag
  rw[xe,va,IV];rfl
 rw[this]
end
section
variable{s:ae} {w:W}
end
section
variable{s:ae} {w:W}
end
section
variable{s:ae} {w:W}
theorem Ends.find {α ι:Type} {I:List α→ι→Prop} {st:α→Bool} {O:List α→α→ι→Prop} {i:ι}:∀{xs done:List α},Ends I (fun _ x=>st x) O done xs false i→∃x dn,xs.find? st=some x∧O dn x i
 |[],_,h=>absurd h.1 (by decide)
 | x :: r, done, h => by
  simp only[Ends]at h
  cases hs:st x with
  |true=>rw[aj hs]at h;exact⟨x,done,by rw[Uv,hs],h.2⟩
  |false=>
   rw[ak (by rw[hs];decide)]at h
   rw[Uv,hs]
   exact Ends.find h
end
section
variable{s:ae} {w:W}
end
abbrev cL (x:Sl Int):List AV:=[x.v aC]
attribute [go_sem] cL
structure Jd (p:List (Sl Int)):Prop where
 len:(p.length:Int)<9223372036854775808
 ok:∀x∈p,x.ok 1
 big:∀x∈p,(x.l.length:Int)<9223372036854775808
structure wQ (p:List (Sl Int)):Prop where
 len:p.length≤6
 ok:∀x∈p,x.ok 1
 big:∀x∈p,x.l.length≤202
section
variable{s:ae} {w:W}
def cX (x:Sl Int):Sl Int:=fg x.l
theorem ag2 {x:Sl Int}:(cX x).ok 1:=xq
theorem af9 {p:List (Sl Int)} {o:Own} {e:Nat} (hs:Ok s) (hp:wQ p) (he:p=[]∨e=1):aw AP (.fn 12) [.slice o e (p.map cL)] s=some (bB 1 ((p.map cX).map cL),s):=by
 have hlen:=hp.len
 have key:∀(k:Nat) ρ m,k≤p.length→(ρ 0=.slice o e (p.map cL)∧ρ 4=I k∧∃x og tk,Acc s.ag.length 1 (((p.take k).map cX).map cL) x og tk∧ρ 3=x∧m=s.push ⟨[],tk⟩)→
   go AP aiY (.c (.loop Js)::aqz) ⟨ρ,m⟩=some (bB 1 ((p.map cX).map cL),s):=by
  refine bA p.length _ _ ?_ ?_
  ·rintro k ρ m hk ⟨h0,h4,x,og,tk,hA,h3,rfl⟩ ih
   obtain⟨y,hy⟩:=get_some hk
   have cS:e=1:=by rcases he with h|h;(rw[h]at hy;simp at hy);exact h
   subst cS
   have sO:=bE hy
   have bf:=cz (f:=cL) (o:=o) (es:=1) hy
   have m2:=hp.big y sO
   obtain⟨oo,IG,gl,gZ,oH,_,_⟩:=Vw (Q:=s) (l:=y.l) (o:=y.o) (e:=y.e) (tk:=tk) hs (hp.ok y sO).1 (by omega)
   have su:=Acc.ext hA oH
   have aU:(p.take k).length≤6:=by rw[ez];omega
   obtain⟨x',bQ,mK,cp,di,_⟩:=su.append hs .full (ys:=[cL (cX y)]) (by simp) (by simp;omega)
   obtain⟨C3,BQ,Di,rfl⟩:=Acc.sl hA
   obtain⟨Td,Qt,M9,rfl⟩:=Acc.sl di
   have aQ:closeAll [.slice oo 1 (y.l.map aC)]=some (cL (cX y)):=by
    simp only[ie,jW,gZ];rfl
   simp only[cL,Sl.v]at cp aQ bf
   simp only[go_sem,Js,h0,h3,h4,aL hk,bf,gl,aQ,cp,bh hk (show(p.length:Int)<_ by omega),simprocAttr]
   refine ih _ _ ?_
   refine⟨h0,rfl,_,bQ,mK,?_,rfl,rfl⟩
   rw[du hy,fH,fH];exact di
  ·rintro ρ m ⟨h0,h4,x,og,tk,hA,h3,rfl⟩
   rw[er]at hA
   have l1:=fun q:ae=>hA.leave q
   obtain⟨C3,BQ,Di,rfl⟩:=Acc.sl hA
   simp only[go_sem,Js,Ot,h0,h3,h4,bg,l1,simprocAttr]
 rw[aG (show AP 12=some E1 from rfl) rfl]
 simp only[go_sem,Vz,simprocAttr]
 refine key 0 _ _ (aV _) ?_
 exact⟨rfl,rfl,_,none,[],Acc.start,rfl,rfl⟩
def mE (w:W) (p:List (Sl Int)):Int:=
 if p.length=w.as.l.length∧(∀x∈p,(x.l.length:Int)=w.bm)then
  if p.all (fun x=>x.l.all fun n=>wi n 0 100000)then 0 else 2
 else 10
theorem Tp {p:List (Sl Int)} (h:¬(p.length=w.as.l.length∧(∀x∈p,(x.l.length:Int)=w.bm))):mE w p=10:=by
 unfold mE;rw[ak h]
theorem acB {p:List (Sl Int)} {o:Own} {e:Nat} (hs:Ok s) (hw:Wk w) (hp:Jd p) (he:p=[]∨e=1):aw AP (.fn 7) [w.v,.slice o e (p.map cL)] s=some (I (mE w p),s):=by
 have hlen:=hp.len
 have fC:=hw.v.al
 have oL:=hw.v.n1
 have dK:=hw.v.n2
 have inner:∀(x:Sl Int) (i:Nat) (R:Option (AV×ae)),p[i]? =some x→e=1→
   (∀ρ m,(ρ 1=.slice o e (p.map cL)∧ρ 2=.ptr s.ag.length 0 0∧ρ 6=I ((i+1:Nat):Int)∧m=s.push ⟨[aW w],[]⟩)→go AP K8 (.c (.loop AY)::aaD) ⟨ρ,m⟩=R)→
   ∀(k:Nat) ρ m,k≤x.l.length→(ρ 1=.slice o e (p.map cL)∧ρ 2=.ptr s.ag.length 0 0∧ρ 6=I i∧ρ 7=I k∧m=s.push ⟨[aW w],[]⟩)→
   go AP K8 (.c (.loop Ec)::aqV) ⟨ρ,m⟩=if(x.l.drop k).all (fun n=>wi n 0 100000)=true then R else some (I 2,s):=by
  intro x i R hx lO hR
  subst lO
  have dk:=bE hx
  have uh:i<p.length:=(bI.1 hx).1
  have rB:=hp.ok x dk
  have vP:=hp.big x dk
  have bf:=cz (f:=cL) (o:=o) (es:=1) hx
  simp only[cL,Sl.v]at bf
  refine bA x.l.length _ _ ?_ ?_
  ·rintro k ρ m hk ⟨h1,h2,h6,h7,rfl⟩ ih
   obtain⟨n,hn⟩:=get_some hk
   have cS:x.e=1:=by rcases rB.1 with h|h;(rw[h]at hn;simp at hn);exact h
   have Zw:=cz (f:=aC) (o:=x.o) (es:=1) hn
   rw[cS]at bf
   have mr:∀q,aw AP (.fn 21) [I n,I 0,I 100000] (s.push q)=some (B (wi n 0 100000),s.push q):=fun q=>gA
   rw[AJ hn]
   cases hd:wi n 0 100000 with
   |false=>
    rw[hd]at mr
    simp only[go_sem,Ec,h1,h6,h7,aL hk,bf,Zw,mr,th,lr,simprocAttr]
   |true=>
    rw[hd]at mr
    simp only[go_sem,Ec,h1,h6,h7,aL hk,bf,Zw,mr,ov,bh hk (show(x.l.length:Int)<_ by omega),kQ,simprocAttr]
    exact ih _ _ ⟨h1,h2,h6,rfl,rfl⟩
  ·rintro ρ m ⟨h1,h2,h6,h7,rfl⟩
   rw[fe]
   simp only[go_sem,Ec,ON,h1,h6,h7,bf,bg,Ap,bh uh (show(p.length:Int)<_ by omega),simprocAttr]
   exact hR _ _ ⟨h1,h2,rfl,rfl⟩
 have k2:∀(k:Nat) ρ m,k≤p.length→(ρ 1=.slice o e (p.map cL)∧ρ 2=.ptr s.ag.length 0 0∧ρ 6=I k∧m=s.push ⟨[aW w],[]⟩)→
   go AP K8 (.c (.loop AY)::aaD) ⟨ρ,m⟩=some (I (if(p.drop k).all (fun x=>x.l.all fun n=>wi n 0 100000)=true then 0 else 2),s):=by
  refine bA p.length _ _ ?_ ?_
  ·rintro k ρ m hk ⟨h1,h2,h6,rfl⟩ ih
   obtain⟨x,hx⟩:=get_some hk
   have cS:e=1:=by rcases he with h|h;(rw[h]at hx;simp at hx);exact h
   simp only[go_sem,AY,h1,h6,aL hk,simprocAttr]
   refine(inner x k _ hx cS (fun ρ m h=>ih ρ m h) 0 _ _ (aV _) ?_).trans ?_
   ·exact⟨h1,h2,h6,rfl,rfl⟩
   rw[AJ hx,iK]
   cases(x.l.all fun n=>wi n 0 100000)<;>simp
  ·rintro ρ m ⟨h1,h2,h6,rfl⟩
   rw[fe]
   simp only[go_sem,AY,JJ,h1,h6,bg,Ap,simprocAttr]
 have k1:∀(k:Nat) ρ m,k≤p.length→(ρ 1=.slice o e (p.map cL)∧ρ 2=.ptr s.ag.length 0 0∧ρ 5=I k∧m=s.push ⟨[aW w],[]⟩)→
   go AP K8 (.c (.loop Ed)::aqW) ⟨ρ,m⟩=some (I (if∀x∈p.drop k,(x.l.length:Int)=w.bm then(if p.all (fun x=>x.l.all fun n=>wi n 0 100000)=true then 0 else 2)else 10),s):=by
  refine bA p.length _ _ ?_ ?_
  ·rintro k ρ m hk ⟨h1,h2,h5,rfl⟩ ih
   obtain⟨x,hx⟩:=get_some hk
   have cS:e=1:=by rcases he with h|h;(rw[h]at hx;simp at hx);exact h
   subst cS
   have bf:=cz (f:=cL) (o:=o) (es:=1) hx
   simp only[cL,Sl.v]at bf
   rw[gO hx]
   by_cases rC:(x.l.length:Int)=w.bm
   ·have hd:decide ((x.l.length:Int)≠w.bm)=false:=by simp[rC]
    simp only[go_sem,Ed,h1,h2,h5,aL hk,bf,hd,bh hk (show(p.length:Int)<_ by omega),simprocAttr]
    refine(ih _ _ ?_).trans ?_
    ·exact⟨h1,h2,rfl,rfl⟩
    simp[rC]
   ·have hd:decide ((x.l.length:Int)≠w.bm)=true:=by simp[rC]
    simp only[go_sem,Ed,h1,h2,h5,aL hk,bf,hd,simprocAttr]
    simp[rC]
  ·rintro ρ m ⟨h1,h2,h5,rfl⟩
   rw[fe,aj (by simp)]
   simp only[go_sem,Ed,OO,h1,h5,bg,simprocAttr]
   refine(k2 0 _ _ (aV _) ?_).trans ?_
   ·exact⟨h1,h2,rfl,rfl⟩
   rw[iK]
 by_cases hl:p.length=w.as.l.length
 ·have hd:decide ((p.length:Int)≠(w.as.l.length:Int))=false:=by simp;omega
  rw[aG (show AP 7=some Bg from rfl) rfl]
  simp only[go_sem,OM,hd,simprocAttr]
  refine(k1 0 _ _ (aV _) ?_).trans ?_
  ·exact⟨rfl,rfl,rfl,rfl⟩
  rw[iK]
  unfold mE
  simp only[hl,IH]
 ·have hd:decide ((p.length:Int)≠(w.as.l.length:Int))=true:=by simp;omega
  rw[Tp (fun h=>hl h.1)]
  rw[aG (show AP 7=some Bg from rfl) rfl]
  simp only[go_sem,OM,hd,simprocAttr]
theorem aBV {p:List (Sl Int)} {o:Own} {e:Nat} (hs:Ok s) (hw:Wk w) (hp:wQ p) (he:p=[]∨e=1):aw AP (.fn 7) [w.v,.slice o e (p.map cL)] s=some (I (mE w p),s):=
 acB hs hw ⟨by have:=hp.len;omega,hp.ok,fun x hx=>by have:=hp.big x hx;omega⟩ he
end
section
variable{s:ae} {w:W}
def lE (w:W) (l:List P) (a:Int) (t:Nat):Bool:=gw w l a (t:Int)||bY w.as.l a.toNat t
theorem adG {busy:Nat→Bool} {out:List (Int×Int)} {t:Nat} (h:busy t=true):qI busy out t=out:=by
 unfold qI;rw[aj h]
theorem ax5 {busy:Nat→Bool} {t:Nat} (h:busy t=false):qI busy [] t=[((t:Int),(t:Int))]:=by
 unfold qI;rw[ak (by rw[h];decide)];rfl
theorem ax3 {busy:Nat→Bool} {init:List (Int×Int)} {p:Int×Int} {t:Nat} (h:busy t=false) (hp:p.2=(t:Int)-1):qI busy (init++[p]) t=init++[(p.1,(t:Int))]:=by
 unfold qI;rw[ak (by rw[h];decide),List.getLast?_concat]
 simp only
 rw[aj hp,List.dropLast_concat]
theorem ax4 {busy:Nat→Bool} {init:List (Int×Int)} {p:Int×Int} {t:Nat} (h:busy t=false) (hp:¬p.2=(t:Int)-1):qI busy (init++[p]) t=(init++[p])++[((t:Int),(t:Int))]:=by
 unfold qI;rw[ak (by rw[h];decide),List.getLast?_concat]
 simp only
 rw[ak hp]
theorem afe {out:List (Int×Int)} (h:out≠[]):AV.slice .any 2 (out.map dM)=bB 2 (out.map dM):=by
 cases out with
 |nil=>exact absurd rfl h
 |cons _ _=>rfl
theorem aw5 {l : List P} {o : Own} {e : Nat} {a : Int} (hs : Ok s) (hw : w.Ok) (hf : w.jT) (hl : kf l) (he : l = [] ∨ e = 3) (bH : (jv w l).2 = 0 → ∀ p ∈ l, bJ w p ∧ dU w p ≤ 200) :
  aw AP (.fn 20) [w.v,.slice o e (l.map aq),I a] s=some (.tuple [bB 2 ((if p6 w l a=0 then jD (lE w l a) w.bm.toNat else[]).map dM),I (p6 w l a)],s):=by
 have HB:∀r,aw AP (.fn 55) [w.v,.slice o e (l.map aq),I a] (s.push r)=some (.tuple [if(jv w l).2=0 then OW w else NP,I (p6 w l a)],s.push r):=fun r=>axg (hs.push r) hw hf hl he
 simp only[W.v,aW,Sl.v]at HB
 by_cases h0:p6 w l a=0
 ·have oM : (jv w l).2 = 0 := by
   unfold p6 at h0
   by_cases h:(jv w l).2=0
   ·exact h
   ·rw[ak h]at h0;exact absurd h0 h
  have hwa:wi a 0 (w.as.l.length-1)=true:=by
   unfold p6 at h0
   rw[aj oM]at h0
   cases hc:wi a 0 (w.as.l.length-1)with
   |true=>rfl
   |false=>rw[hc]at h0;exact absurd h0 (by decide)
  have Ms:(cM w).2.2=0:=by
   by_cases h:(cM w).2.2=0
   ·exact h
   ·unfold jv at oM;rw[ak h]at oM;exact absurd oM h
  have aY:Wk w:=⟨hw,hf,pR Ms⟩
  have bH:=bH oM
  have fC:=aY.v.al
  have oL:=aY.v.n1
  have dK:=aY.v.n2
  obtain⟨sx,cp⟩:=gy.1 hwa
  obtain⟨i,rfl⟩:∃i:Nat,a=i:=⟨a.toNat,by omega⟩
  obtain⟨n,hn⟩:∃n:Nat,w.bm=n:=⟨w.bm.toNat,by omega⟩
  have kA:idx (.v (.int .i64 (i:Int))) 4=some i:=sP (by omega)
  rw[aj oM,h0]at HB
  have RF:∀r,aw AP (.fn 56) [OW w,.slice o e (l.map aq),I (i:Int)] (s.push r)=some (.tuple [I (iI w (i:Int) l),.agg (gu fun t=>gw w l (i:Int) t)],s.push r):=fun r=>ayU (hs.push r) aY hl.len bH he
  obtain⟨F,hF⟩:∃F:Nat→Bool,F=fun t:Nat=>gw w l (i:Int) (t:Int):=⟨_,rfl⟩
  have hFt:∀t:Nat,gw w l (i:Int) (t:Int)=F t:=fun t=>by rw[hF]
  have LR:∀t:Nat,lE w l (i:Int) t=(F t||bY w.as.l i t):=fun t=>by unfold lE;rw[hFt,pT]
  rw[←hF]at RF
  simp only[h0,cI]
  rw[hn,pT]
  have key : ∀ (k : Nat) ρ m, k ≤ n → (ρ 2 = I i ∧ ρ 8 = OW w ∧ ρ 11 = .ptr s.ag.length 1 0 ∧ ρ 33 = I w.bm ∧ ρ 34 = I k ∧ ∃ bx tk, GB s (fun q => q + 1 + 1) (jD (lE w l i) k) (ρ 12) bx ∧ m = s.push ⟨aW w :: gu F :: bx, tk⟩) →
    go AP aja (.c (.loop uV)::arf) ⟨ρ,m⟩=some (.tuple [bB 2 ((jD (lE w l i) n).map dM),I 0],s):=by
   refine bA n _ _ ?_ ?_
   ·rintro k ρ m hk ⟨g2,g8,g11,BW,pj,bx,tk,hG,rfl⟩ ih
    have tS:=BW
    rw[hn]at tS
    have jG:idx (.v (.int .i64 (k:Int))) 200=some k:=sP (by omega)
    have vC:(gu F)[0+k*1]? =some (B (F k)):=by rw[show 0+k*1=k by omega];exact Ly (by omega)
    have eP:(wk w.bm (w.as.v bR) (w.rs.v aS) (sc w.as.l))[0+3+i*200+k*1]? =some (B (bY w.as.l i k)):=by
     rw[show 0+3+i*200+k*1=3+(i*200+k)by omega,Nx (by omega),GA,show(i*200+k)/200=i by omega,show(i*200+k)%200=k by omega]
    have kF:=bh hk (show(n:Int)<_ by omega)
    have ud:=QJ (busy:=lE w l (i:Int)) (n:=k)
    have hb:=LR k
    simp only[OW]at g8
    cases Cb:F k with
    |true=>
     rw[Cb]at vC hb
     simp only[go_sem,uV,g11,tS,pj,aL hk,jG,vC,kF,simprocAttr]
     refine ih _ _ ?_
     exact⟨g2,by simp only[OW];exact g8,g11,BW,rfl,bx,tk,by simp only[jD];rw[adG (by rw[hb];rfl)];exact hG,rfl⟩
    | false =>
     rw[Cb]at vC hb
     cases hc:bY w.as.l i k with
     |true=>
      rw[hc]at eP hb
      simp only[go_sem,uV,g2,g8,g11,tS,pj,aL hk,kA,jG,vC,eP,kF,simprocAttr]
      refine ih _ _ ?_
      exact⟨g2,by simp only[OW];exact g8,g11,BW,rfl,bx,tk,by simp only[jD];rw[adG (by rw[hb];rfl)];exact hG,rfl⟩
     | false =>
      rw[hc]at eP hb
      have Ci:lE w l (i:Int) k=false:=hb
      have hbc:y6 [I 0,I 0] 0 1 (I (k:Int))=some [I (k:Int),I 0]:=rfl
      rcases hG with⟨h1,h2⟩|⟨init,p,h1,pre,rfl,h2⟩
      ·have ha:mO (s.push ⟨aW w::gu F::bx,tk⟩) 2 (.slice .aA 0 []) (.slice .full 2 [[I (k:Int),I (k:Int)]])=some (.aN s.ag.length (bx.length+1+1) 0 2 1 0,s.push ⟨aW w::gu F::(bx++[[I (k:Int),I (k:Int)]]),tk⟩):=by
        rw[Vm];simp
       simp only[aW,Sl.v]at ha
       simp only[go_sem,uV,g2,g8,g11,tS,pj,h2,aL hk,kA,jG,vC,eP,kF,ha,fY,simprocAttr]
       refine ih _ _ ?_
       refine⟨g2,by simp only[OW];exact g8,g11,BW,rfl,_,tk,.inr ⟨[],((k:Int),(k:Int)),?_,bx,rfl,rfl⟩,rfl⟩
       simp only[jD];rw[h1,ax5 Ci];rfl
      ·have uh:init.length+1≤200:=by
        have:=ud
        rw[h1,cG,pV]at this;omega
       have xX:decide ((0:Int)<((init.length+1:Nat):Int))=true:=bS (by omega)
       have jr:IntKind.i64.wrap (((init.length+1:Nat):Int)-1)=(init.length:Int):=by rw[bq (by omega) (by omega)];omega
       have xR:IntKind.i64.wrap ((k:Int)-1)=(k:Int)-1:=bq (by omega) (by omega)
       have bf:=zM (d:=s.ag.length) (b:=pre.length+1+1) (es:=2) (i:=init.length) (n:=init.length+1) (by omega)
       have dW:=ajL (init:=init) (p:=p)
       by_cases qv:p.2=(k:Int)-1
       ·have hd:decide (p.2=(k:Int)-1)=true:=by simpa using qv
        have vG:=ajM (init:=init) (p:=p) (n:=(k:Int))
        simp only[go_sem,uV,g2,g8,g11,tS,pj,h2,hs,aL hk,kA,jG,vC,eP,kF,yc,xX,jr,xR,bf,dW,hd,vG,simprocAttr]
        refine ih _ _ ?_
        refine⟨g2,by simp only[OW];exact g8,g11,BW,rfl,_,tk,.inr ⟨init,(p.1,(k:Int)),?_,pre,rfl,h2⟩,rfl⟩
        simp only[jD];rw[h1,ax3 Ci qv]
       ·have hd:decide (p.2=(k:Int)-1)=false:=by simpa using qv
        have ha:mO (s.push ⟨aW w::gu F::(pre++[mg (init++[p])]),tk⟩) 2 (.aN s.ag.length (pre.length+1+1) 0 2 (init.length+1) 0) (.slice .full 2 [[I (k:Int),I (k:Int)]])=some (.aN s.ag.length ((pre++[[]]).length+1+1) 0 2 (init.length+1+1) 0,s.push ⟨aW w::gu F::((pre++[[]])++[mg (init++[p])++[I (k:Int),I (k:Int)]]),tk++[none]⟩):=by
         rw[Vl (row:=mg (init++[p])) (by simp) (by rw[GX];simp) (by omega) (by omega)]
         simp
        simp only[aW,Sl.v]at ha
        simp only[go_sem,uV,g2,g8,g11,tS,pj,h2,aL hk,kA,jG,vC,eP,kF,yc,xX,jr,xR,bf,dW,hd,ha,simprocAttr]
        refine ih _ _ ?_
        refine⟨g2,by simp only[OW];exact g8,g11,BW,rfl,_,_,.inr ⟨init++[p],((k:Int),(k:Int)),?_,pre++[[]],?_,by rw[cG (as:=init),cG (as:=pre)];rfl⟩,rfl⟩
        ·simp only[jD];rw[h1,ax4 Ci qv]
        ·rw[Li (out:=init++[p])];simp
   ·rintro ρ m ⟨g2,g8,g11,tS,pj,bx,tk,hG,rfl⟩
    rw[hn]at tS
    rcases hG with⟨h1,h2⟩|⟨init,p,h1,pre,rfl,h2⟩
    ·rw[h1]
     simp only[go_sem,uV,J4,tS,pj,h2,bg,simprocAttr]
     rfl
    ·have dc:=asH (s:=s) (r:=⟨aW w::gu F::(pre++[mg (init++[p])]),tk⟩) (b:=pre.length+1+1) (out:=init++[p]) (by simp)
     rw[cG,pV]at dc
     rw[h1,←afe (by simp)]
     simp only[aW,Sl.v]at dc
     simp only[go_sem,uV,J4,tS,pj,h2,bg,simprocAttr]
     rw[dc];rfl
  rw[aG (show AP 20=some Bl from rfl) rfl]
  simp only[OW]at HB RF key
  simp only[go_sem,O9,hs,HB,RF,aez,U6,Yr,ab1,bV,gI,simprocAttr]
  refine key 0 _ _ (aV _) ?_
  exact⟨rfl,rfl,rfl,rfl,rfl,[],[],.inl ⟨rfl,rfl⟩,rfl⟩
 ·simp only[h0,eu]
  rw[aG (show AP 20=some Bl from rfl) rfl]
  simp only[go_sem,O9,HB,h0,bV,j3,simprocAttr]
  rfl
end
section
variable{s:ae} {w:W}
theorem ahO {as:List A} {i t:Nat} {x:A} (h:as[i]? =some x):isClosed x (t:Int)=bY as i t:=by
 simp only[bY,h]
end
def cO (f:Nat→Int):Nat→Int
 |0=>0
 |n+1=>cO f n+f n
theorem Ai {f:Nat→Int} {c:Int}:∀{n:Nat},(∀i,i<n→0≤f i∧f i≤c)→0≤cO f n∧cO f n≤n*c
 |0,_=>by simp[cO]
 |n+1,h=>by
  have ih:=Ai (n:=n) fun i hi=>h i (by omega)
  have:=h n (by omega)
  have e:((n+1:Nat):Int)*c=n*c+c:=by rw[Uk,Int.add_mul];simp
  rw[e]
  simp only[cO]
  omega
theorem nn {f g:Nat→Int}:∀{n:Nat},(∀i,i<n→f i=g i)→cO f n=cO g n
 |0,_=>rfl
 |n+1,h=>by simp only[cO];rw[nn fun i hi=>h i (by omega),h n (by omega)]
def dz (p:List (Sl Int)) (a t:Nat):Int:=match p[a]? with
 |some x=>(x.l[t]?).getD 0
 |none=>0
def kM (w:W) (p:List (Sl Int)) (a:Nat) (k:Nat):Int:=cO (fun t=>if bY w.as.l a t=true then 0 else dz p a t) k
def jg (w:W) (p:List (Sl Int)) (k:Nat):Int:=cO (fun a=>kM w p a w.bm.toNat) k
def strip (p:List (Sl Int)) (a st:Nat) (k:Nat):Int:=cO (fun j=>dz p a (st+j)) k
def gg (p:List (Sl Int)) (st len:Nat):List Int→Int
 |[]=>0
 |a::r=>strip p a.toNat st len+gg p st len r
def jf (w:W) (p:List (Sl Int)) (i:Int) (m:Int) (x:P):Int:=max m ((w.rq i).val-gg p x.start.toNat (w.rq i).len.toNat x.an.l)
def l6 (w:W) (p:List (Sl Int)) (i:Int) (l:List P):Int:=l.foldl (jf w p i) 0
def qJ (w:W) (p:List (Sl Int)) (k:Nat):Int:=cO (fun i=>l6 w p i (ct w i)) k
def nx (w:W) (p:List (Sl Int)):Int:=jg w p w.as.l.length+qJ w p w.rs.l.length
structure lz (w:W) (p:List (Sl Int)):Prop where
 ok:wQ p
 len:p.length=w.as.l.length
 sl:∀x∈p,(x.l.length:Int)=w.bm
 rg:∀x∈p,∀n∈x.l,0≤n∧n≤100000
section
variable{s:ae} {w:W} {p:List (Sl Int)}
theorem avM (hp:wQ p) (h:mE w p=0):lz w p:=by
 unfold mE at h
 split at h
 ·rename_i h1
  split at h
  ·rename_i h2
   refine⟨hp,h1.1,h1.2,fun x hx n hn=>?_⟩
   have:=jh.1 (jh.1 h2 x hx) n hn
   exact gy.1 this
  ·omega
 ·omega
theorem lz.get (hv:lz w p) (hw:Wk w) {a:Nat} (ha:a<w.as.l.length):∃x,p[a]? =some x∧x.ok 1∧x.l.length=w.bm.toNat∧x.e=1∧∀t,t<w.bm.toNat→x.l[t]? =some (dz p a t)∧0≤dz p a t∧dz p a t≤100000:=by
 have oL:=hw.v.n1
 obtain⟨x,hx⟩:=get_some (l:=p) (k:=a) (by rw[hv.len];exact ha)
 have dk:=bE hx
 have hl:=hv.sl x dk
 have rB:=hv.ok.ok x dk
 refine⟨x,hx,rB,by omega,?_,fun t ht=>?_⟩
 ·rcases rB.1 with h|h
  ·rw[h]at hl;simp at hl;omega
  ·exact h
 ·obtain⟨n,hn⟩:=get_some (l:=x.l) (k:=t) (by omega)
  have e:dz p a t=n:=by simp only[dz,hx,hn];rfl
  rw[e]
  exact⟨hn,hv.rg x dk n (bE hn)⟩
theorem awL (hv:lz w p) (hw:Wk w) {a k:Nat} (ha:a<w.as.l.length) (hk:k≤w.bm.toNat):0≤kM w p a k∧kM w p a k≤k*100000:=by
 obtain⟨x,_,_,_,_,hx⟩:=hv.get hw ha
 refine Ai fun t ht=>?_
 have:=(hx t (by omega)).2
 split<;>omega
theorem ayn (hv:lz w p) (hw:Wk w) {k:Nat} (hk:k≤w.as.l.length):0≤jg w p k∧jg w p k≤k*20000000:=by
 have dK:=hw.v.n2
 refine Ai fun a ha=>?_
 have:=awL hv hw (a:=a) (k:=w.bm.toNat) (by omega) (aI _)
 omega
theorem adM (hv:lz w p) (hw:Wk w) {a st k:Nat} (ha:a<w.as.l.length) (hk:st+k≤w.bm.toNat):0≤strip p a st k∧strip p a st k≤k*100000:=by
 obtain⟨x,_,_,_,_,hx⟩:=hv.get hw ha
 exact Ai fun j hj=>(hx (st+j) (by omega)).2
theorem ah6 {st len:Nat} {l l2:List Int}:gg p st len (l++l2)=gg p st len l+gg p st len l2:=by
 induction l with
 |nil=>simp[gg]
 |cons a r ih=>simp only[fZ,gg,ih];omega
theorem K0 (hv:lz w p) (hw:Wk w) {st len:Nat} (hk:st+len≤w.bm.toNat):∀{l:List Int},(∀a∈l,0≤a∧a<w.as.l.length)→0≤gg p st len l∧gg p st len l≤l.length*20000000
 |[],_=>by simp[gg]
 |a::r,h=>by
  have dK:=hw.v.n2
  have ih:=K0 hv hw hk (l:=r) fun b hb=>h b (cD _ hb)
  have ha:=h a (by simp)
  have:=adM hv hw (a:=a.toNat) (by omega) hk
  simp only[gg,cH]
  omega
theorem aye {i:Int} {l:List P} {x:P}:l6 w p i (l++[x])=jf w p i (l6 w p i l) x:=by simp[l6]
theorem To (hw:Wk w) {i:Int} (h0:0≤i) (h1:i<w.rs.l.length) {x:P} (hx:x∈ct w i):x.start.toNat+(w.rq i).len.toNat≤w.bm.toNat∧(x.start.toNat:Int)=x.start∧(∀a∈x.an.l,0≤a∧a<w.as.l.length)∧x.an.l.length≤6:=by
 have hq:=hw.rq h0 h1
 obtain⟨bH,_,h3,h4,h5,_,h7,_⟩:=jO hw h0 h1 hx
 have b1:=hq.pK
 have b2:=hq.bH
 have b3:=hq.kJ
 have b7:=hw.si.an _ (W.oe h0 h1)
 have:=h7.length_le
 exact⟨by omega,by omega,bH.an,by omega⟩
theorem Nh (hv:lz w p) (hw:Wk w) {i:Int} (h0:0≤i) (h1:i<w.rs.l.length) {l:List P} (hl:∀x∈l,x∈ct w i):0≤l6 w p i l∧l6 w p i l≤100000:=by
 have hq:=hw.rq h0 h1
 have c2:=hq.tc
 have key:∀(l:List P) (m:Int),(∀x∈l,x∈ct w i)→0≤m→m≤100000→0≤l.foldl (jf w p i) m∧l.foldl (jf w p i) m≤100000:=by
  intro l
  induction l with
  |nil=>intro m _ a b;exact⟨a,b⟩
  |cons x r ih=>
   intro m hl a b
   obtain⟨a1,a2,a3,a4⟩:=To hw h0 h1 (hl x (by simp))
   have:=K0 hv hw a1 a3
   refine ih _ (fun y hy=>hl y (cD _ hy)) ?_ ?_
   ·unfold jf;omega
   ·unfold jf;omega
 exact key l 0 hl (by omega) (by omega)
theorem ayd (hv:lz w p) (hw:Wk w) {k:Nat} (hk:k≤w.rs.l.length):0≤qJ w p k∧qJ w p k≤k*100000:=
 Ai fun i hi=>Nh hv hw (by omega) (by omega) fun _ h=>h
theorem abn {a b:Int}:rJ true [I a,I b]=some (I (max a b)):=by rw[abm]
end
theorem axQ {α:Type} {f:α→List AV} {o:Own} {es i k:Nat} {l:List α} (hi:i≤k) (hk:k≤l.length):∃o',fQ (.sl es) (.slice o es (l.map f)) (some (I (i:Int))) (some (I (k:Int))) none=some (.slice o' es (((l.take k).drop i).map f)):=by
 refine⟨wq o false (i==0&&k==(l.map f).length) (k==(l.map f).length&&0<(l.map f).length),?_⟩
 have h1:iU (some (I (k:Int))) false (l.map f).length (l.map f).length=some k:=by
  simp[iU,asNat,hk]
 have h2:iq (some (I (i:Int))) k=some i:=by simp[iq,asNat,hi]
 simp only[cg]at h1
 simp[fQ,qD,h1,h2,I5,List.map_drop]
section
variable{s:ae} {w:W} {p:List (Sl Int)}
theorem azl {l:List (Sl Int)} {o:Own} {e:Nat} {g:FuncId} {caps:List AV} {p:(Sl Int)→Bool} (he:l=[]∨e=1) (hl:(l.length:Int)<9223372036854775808)
  (hg:∀a∈l,∀r,aw AP (.fn g) ((a.v aC)::caps) (s.push r)=some (B (p a),s.push r)):aw AP (.fn 73) [.slice o e (l.map cL),.fn g [] caps] s=some (I (eY p l),s):=by
 have key:∀k ρ m,k≤l.length→(ρ 0=.slice o e (l.map cL)∧ρ 1=.fn g [] caps∧ρ 7=I l.length∧ρ 8=I k∧(∀j y,j<k→l[j]? =some y→p y=false)∧m=s.push ⟨[],[]⟩)→go AP ajo (.c (.loop Ku)::arR) ⟨ρ,m⟩=some (I (eY p l),s):=by
  refine bA l.length _ _ ?_ ?_
  ·rintro k ρ m hk ⟨h0,h1,h7,h8,hp,rfl⟩ ih
   obtain⟨a,ha⟩:=get_some hk
   have he:e=1:=by rcases he with h|h;(rw[h]at ha;simp at ha);exact h
   subst he
   have hr:=cz (o:=o) (es:=1) (f:=cL) ha
   simp only[go_sem,Ku,h0,h1,h7,h8,aL hk,hr,hg a (bE ha),bh hk hl,simprocAttr]
   cases fD:p a with
   |true=>
    simp only[fK]
    rw[xw ha fD hp]
   |false=>
    simp only[ig]
    refine ih _ _ ?_
    refine⟨h0,h1,h7,rfl,fun j y hj hy=>?_,rfl⟩
    by_cases e:j=k
    ·subst e;rw[ha]at hy;injection hy with hy;rw[←hy];exact fD
    ·exact hp j y (by omega) hy
  ·rintro ρ m ⟨h0,h1,h7,h8,hp,rfl⟩
   simp only[go_sem,Ku,PR,h7,h8,bg,simprocAttr]
   rw[xy hp]
 rw[aG (show AP 73=some Gt from rfl) rfl]
 simp only[go_sem,WN,simprocAttr]
 exact key 0 _ _ (aV _) ⟨rfl,rfl,rfl,rfl,fun j y hj=>absurd hj (dH _),rfl⟩
theorem aze {l:List (Sl Int)} {o:Own} {e:Nat} {g:FuncId} {caps:List AV} {p:(Sl Int)→Bool} (he:l=[]∨e=1) (hl:(l.length:Int)<9223372036854775808)
  (hg:∀a∈l,∀r q,aw AP (.fn g) ((a.v aC)::caps) ((s.push r).push q)=some (B (p a),(s.push r).push q)):aw AP (.fn 39) [.slice o e (l.map cL),.fn g [] caps] s=some (B (l.any p),s):=by
 have h:=azl (s:=s.push ⟨[],[]⟩) (o:=o) (caps:=caps) (g:=g) he hl (fun a ha r=>hg a ha _ r)
 rw[aG (show AP 39=some Gn from rfl) rfl]
 simp only[go_sem,WH,h,vk,simprocAttr]
theorem aw4 {x:Sl Int} {d b:Nat} (hs:Ok s) (hb:s.box d b=some (aW w)):aw AP (.fn 38) [x.v aC,.ptr d b 0] s=some (B (!decide ((x.l.length:Int)=w.bm)),s):=by
 have Ck:∀r,(s.push r).box d b=some (aW w):=fun r=>eA hb r
 have hd:decide ((x.l.length:Int)≠w.bm)=!decide ((x.l.length:Int)=w.bm):=by simp
 simp only[aW,Sl.v]at Ck
 rw[aG (show AP 38=some FC from rfl) rfl]
 simp only[go_sem,VY,Ck,hd,simprocAttr]
abbrev EW (ρ:Nat→AV):da:=⟨true,none,ρ,[82],JS,JZ⟩
theorem ayc {x:Sl Int} {a st len:Nat} (hx:p[a]? =some x) (hl:st+len≤x.l.length) {j:Nat} (hj:j<len):((x.l.take (st+len)).drop st)[j]? =some (dz p a (st+j)):=by
 obtain⟨n,hn⟩:=get_some (l:=x.l) (k:=st+j) (by omega)
 have e:dz p a (st+j)=n:=by simp only[dz,hx,hn];rfl
 rw[e,Ux,wI,aj (by omega)];exact hn
theorem agy {X T : Rec → ae} {l d i : Nat} {ρ : Nat → AV} {tk : List (Option Nat)} {o : Own} {e : Nat} {pre : List (List AV)} {v : Int} {x : P} (hM : fu X d) (hX : ∀ r, busy l (T r) = X r) (hR : ∀ r, kS l (EW ρ) (T r)) (bz : ∀ r, Ok (T r)) (hw : Wk w) (hv : lz w p) (he : p = [] ∨ e = 1)
    (hi:i<w.rs.l.length) (hx:x∈ct w i) (oM:pre[0]? =some (aW w)) (nP:pre[1]? =some [.slice o e (p.map cL)]) (jJ:pre[2]? =some [OW w]) (h2:ρ 2=.ptr d 0 0) (h3:ρ 3=.ptr d 1 0) (h6:ρ 6=.ptr d 2 0) (sk:ρ 14=.ptr d pre.length 0) (sn:ρ 15=.ptr d (pre.length+1) 0) (Mn:0≤v) (Mp:v≤100000):
    aw AP (.yield l) [.agg (aq x)] (T ⟨pre++[[I i],[I v]],tk⟩)=some (.v (.bool true),T ⟨pre++[[I i],[I (jf w p i v x)]],tk⟩):=by
  have h0:(0:Int)≤i:=by omega
  have h1:(i:Int)<w.rs.l.length:=by omega
  have hq:=hw.rq h0 h1
  have HI:=hq.kJ
  have dK:=hw.v.n2
  have jK:=hq.uF
  have aBA:=hq.tc
  obtain⟨bH,Mt,_⟩:=jO hw h0 h1 hx
  obtain⟨q1,q2,q3,q4⟩:=To hw h0 h1 hx
  have eD:=oQ hw h0 h1
  have xV:∀r,Ok (X r):=fun r=>by rw[←hX];exact(bz r).busy
  have xK:∀r,(T r).ag.length=(X r).ag.length:=fun r=>by rw[←hX];rfl
  have nI:∀r ρ' q,jC l .normal ⟨ρ',(X r).push q⟩=some (.v (.bool true),T r):=fun r ρ' q=>by rw[←hX];exact GU (hR r)
  have asY:0<pre.length:=(bI.1 oM).1
  have kJ:1<pre.length:=(bI.1 nP).1
  have SG:2<pre.length:=(bI.1 jJ).1
  have k0:∀v q,((X ⟨pre++[[I i],[I v]],tk⟩).push q).box d 0=some (aW w):=fun v q=>by rw[hM.box,dG asY];exact oM
  have k1:∀v q,((X ⟨pre++[[I i],[I v]],tk⟩).push q).box d 1=some [.slice o e (p.map cL)]:=fun v q=>by rw[hM.box,dG kJ];exact nP
  have k2:∀v q,((X ⟨pre++[[I i],[I v]],tk⟩).push q).box d 2=some [OW w]:=fun v q=>by rw[hM.box,dG SG];exact jJ
  have k3:∀v q,((X ⟨pre++[[I i],[I v]],tk⟩).push q).box d pre.length=some [I i]:=fun v q=>by rw[hM.box];exact at_len
  have k4:∀v q,((X ⟨pre++[[I i],[I v]],tk⟩).push q).box d (pre.length+1)=some [I v]:=fun v q=>by rw[hM.box];exact AN
  have st:∀v' q,((X ⟨pre++[[I i],[I v]],tk⟩).push q).store 1 (.ptr d (pre.length+1) 0) (I v')=some ((X ⟨pre++[[I i],[I v']],tk⟩).push q):=fun v' q=>by
    have:=hM.store (r0:=q) (r:=⟨pre++[[I i],[I v]],tk⟩) (b:=pre.length+1) (off:=0) (n:=1) (y:=I v') (by rfl) (by rfl) (row:=[I v]) (row':=[I v']) AN (by rfl)
    rw[this,TK]
  have sF:∀q:ae,aw AP (.fn 42) [OW w,.agg (aq x)] (dP q)=some (I (((x.start.toNat+(w.rq i).len.toNat:Nat)):Int),dP q):=fun q=>by
    rw[Nv C4 hw bH.r0 bH.r1 bH.s0 bH.s1]
    simp only[dU,Mt]
    congr 3;omega
  obtain⟨D,hD⟩:∃D,D=(X ⟨pre++[[I i],[I v]],tk⟩).ag.length:=⟨_,rfl⟩
  have my:∀(n a:Nat) (oo:Own) (c0:Int) (R:Option (AV×ae)),n<x.an.l.length→a<w.as.l.length→0≤c0→c0≤200000000→
      (∀ρ' m,(ρ' 2=.ptr d 0 0∧ρ' 3=.ptr d 1 0∧ρ' 6=.ptr d 2 0∧ρ' 14=.ptr d pre.length 0∧ρ' 15=.ptr d (pre.length+1) 0∧ρ' 16=.ptr D 0 0∧ρ' 17=I (c0+strip p a x.start.toNat (w.rq i).len.toNat)∧ρ' 84=x.an.v aC∧ρ' 85=I x.an.l.length∧ρ' 86=I ((n+1:Nat):Int)∧m=(X ⟨pre++[[I i],[I v]],tk⟩).push ⟨[aq x],[]⟩)→
        go AP (jC l) (.c (.loop A0)::aaG) ⟨ρ',m⟩=R)→
      ∀ (j : Nat) ρ' m, j ≤ (w.rq i).len.toNat → (ρ' 2 = .ptr d 0 0 ∧ ρ' 3 = .ptr d 1 0 ∧ ρ' 6 = .ptr d 2 0 ∧ ρ' 14 = .ptr d pre.length 0 ∧ ρ' 15 = .ptr d (pre.length + 1) 0 ∧ ρ' 16 = .ptr D 0 0 ∧ ρ' 17 = I (c0 + strip p a x.start.toNat j) ∧ ρ' 84 = x.an.v aC ∧ ρ' 85 = I x.an.l.length ∧ ρ' 86 = I n ∧ ρ' 99 = .slice oo 1 ((((p[a]?.map Sl.l).getD []).take (x.start.toNat + (w.rq i).len.toNat)).drop x.start.toNat |>.map aC) ∧ ρ' 100 = I (w.rq i).len.toNat ∧ ρ' 101 = I j ∧ m = (X ⟨pre ++ [[I i], [I v]], tk⟩).push ⟨[aq x], []⟩) →
        go AP (jC l) (.c (.loop JT)::ara) ⟨ρ',m⟩=R:=by
    intro n a oo c0 R hn ha hc0 gl hRR
    obtain⟨y,hy,CQ,hyl,hye,hyt⟩:=hv.get hw ha
    refine bA (w.rq i).len.toNat _ (fun _=>R) ?_ ?_
    · rintro j ρ' m hj ⟨g2, g3, g6, g14, g15, g16, g17, za, xE, xF, G4, Lm, QL, rfl⟩ ih
      have bu:=ayc hy (st:=x.start.toNat) (len:=(w.rq i).len.toNat) (by omega) hj
      have bf:=cz (f:=aC) (o:=oo) (es:=1) bu
      obtain⟨_,t2,t3⟩:=hyt (x.start.toNat+j) (by omega)
      have vL:=adM hv hw (a:=a) (st:=x.start.toNat) (k:=j) ha (by omega)
      have xZ:IntKind.i64.wrap (c0+strip p a x.start.toNat j+dz p a (x.start.toNat+j))=c0+strip p a x.start.toNat (j+1):=by
        rw[bq (by omega) (by omega)];simp only[strip,cO];omega
      rw[hy]at G4
      simp only[dJ,uO]at G4
      simp only[go_sem,JT,g17,G4,Lm,QL,aL hj,bf,xZ,bh hj (show((w.rq i).len.toNat:Int)<_ by omega),simprocAttr]
      refine ih _ _ ?_
      refine⟨g2,g3,g6,g14,g15,g16,rfl,za,xE,xF,?_,Lm,rfl,rfl⟩
      rw[hy];exact G4
    · rintro ρ' m ⟨g2, g3, g6, g14, g15, g16, g17, za, xE, xF, G4, Lm, QL, rfl⟩
      simp only[go_sem,JT,O4,xF,Lm,QL,bg,bh hn (show(x.an.l.length:Int)<_ by omega),simprocAttr]
      refine hRR _ _ ?_
      exact⟨g2,g3,g6,g14,g15,g16,g17,za,xE,rfl,rfl⟩
  have key:∀(n:Nat) ρ' m,n≤x.an.l.length→(ρ' 2=.ptr d 0 0∧ρ' 3=.ptr d 1 0∧ρ' 6=.ptr d 2 0∧ρ' 14=.ptr d pre.length 0∧ρ' 15=.ptr d (pre.length+1) 0∧ρ' 16=.ptr D 0 0∧ρ' 17=I (gg p x.start.toNat (w.rq i).len.toNat (x.an.l.take n))∧ρ' 84=x.an.v aC∧ρ' 85=I x.an.l.length∧ρ' 86=I n∧m=(X ⟨pre++[[I i],[I v]],tk⟩).push ⟨[aq x],[]⟩)→
      go AP (jC l) (.c (.loop A0)::aaG) ⟨ρ',m⟩=some (.v (.bool true),T ⟨pre++[[I i],[I (jf w p i v x)]],tk⟩):=by
    refine bA x.an.l.length _ (fun _=>some (.v (.bool true),T ⟨pre++[[I i],[I (jf w p i v x)]],tk⟩)) ?_ ?_
    · rintro n ρ' m hn ⟨g2, g3, g6, g14, g15, g16, g17, za, xE, xF, rfl⟩ ih
      obtain⟨a,ha⟩:=get_some hn
      have sA:=q3 a (bE ha)
      obtain⟨an,rfl⟩:∃an:Nat,a=an:=⟨a.toNat,by omega⟩
      obtain⟨y,hy,CQ,hyl,hye,hyt⟩:=hv.get hw (a:=an) (by omega)
      have cS:e=1:=by rcases he with h|h;(rw[h]at hy;simp at hy);exact h
      have Zx:=Sl.ix (f:=aC) bH.ok ha
      have Rt:=cz (f:=cL) (o:=o) (es:=1) hy
      simp only[cL,Sl.v]at Rt
      rw[hye]at Rt
      obtain⟨oo,oP⟩:=axQ (f:=aC) (o:=y.o) (es:=1) (i:=x.start.toNat) (k:=x.start.toNat+(w.rq i).len.toNat) (l:=y.l) (by omega) (by omega)
      rw[q2]at oP
      have aU:(((y.l.take (x.start.toNat+(w.rq i).len.toNat)).drop x.start.toNat).length:Int)=((w.rq i).len.toNat:Int):=by
        rw[pU,ez];omega
      have Cl:=K0 hv hw q1 (l:=x.an.l.take n) fun b hb=>q3 b (oB hb)
      have RY:(x.an.l.take n).length≤6:=by rw[ez];omega
      have fL:gg p x.start.toNat (w.rq i).len.toNat (x.an.l.take (n+1))=gg p x.start.toNat (w.rq i).len.toNat (x.an.l.take n)+strip p an x.start.toNat (w.rq i).len.toNat:=by
        rw[du ha,ah6];simp[gg]
      have b0:∀q,((X ⟨pre++[[I i],[I v]],tk⟩).push ⟨aq x::q,[]⟩).box D 0=some (aq x):=fun q=>by rw[hD,ib];rfl
      simp only[aq,Sl.v,OW]at Zx sF k2 b0⊢
      rw[cS]at k1
      subst cS
      simp only[go_sem,A0,g3,g6,g16,za,xE,xF,aL hn,Zx,k1,k2,Rt,b0,sF,oP,aa2,aU,simprocAttr]
      refine my n an oo (gg p x.start.toNat (w.rq i).len.toNat (x.an.l.take n)) _ hn (by omega) (by omega) (by omega) (fun ρ'' m h=>ih ρ'' m ?_) 0 _ _ (aV _) ?_
      · rw[fL];exact h
      · refine ⟨g2, g3, g6, g14, g15, g16, ?_, za, xE, xF, ?_, rfl, rfl, rfl⟩
        · show _ = I (_ + 0)
          rw[Dz];exact g17
        · rw[hy];rfl
    · rintro ρ' m ⟨g2, g3, g6, g14, g15, g16, g17, za, xE, xF, rfl⟩
      rw[er]at g17
      have Cl:=K0 hv hw q1 q3
      have eK:IntKind.i64.wrap ((w.rq i).val-gg p x.start.toNat (w.rq i).len.toNat x.an.l)=(w.rq i).val-gg p x.start.toNat (w.rq i).len.toNat x.an.l:=bq (by omega) (by omega)
      have jI:max v ((w.rq i).val-gg p x.start.toNat (w.rq i).len.toNat x.an.l)=jf w p i v x:=rfl
      simp only[aS,aW,Sl.v]at eD k0
      simp only[go_sem,A0,JX,g2,g14,g15,g17,xE,xF,bg,k0,k3,k4,eD,eK,abn,jI,st,nI,simprocAttr]
  rw[BF (hR _) rfl]
  simp only[aq,Sl.v]at key⊢
  simp only[go_sem,JS,xv (hR _),bz,wj,simprocAttr]
  simp only[go_sem,JZ,hX,xK,simprocAttr]
  refine key 0 _ _ (aV _) ?_
  exact⟨h2,h3,h6,sk,sn,by rw[hD];rfl,rfl,rfl,rfl,rfl,rfl⟩
abbrev EV (s:ae) (ρ:Nat→AV) (r:Rec):ae:=enterLoop (s.push r) (EW ρ)
theorem agx {ρ:Nat→AV} {i:Nat} {tk:List (Option Nat)} {o:Own} {e:Nat} {pre:List (List AV)} (hs:Ok s) (hw:Wk w) (hv:lz w p) (he:p=[]∨e=1)
  (hi:i<w.rs.l.length) (oM:pre[0]? =some (aW w)) (nP:pre[1]? =some [.slice o e (p.map cL)]) (jJ:pre[2]? =some [OW w]) (h2:ρ 2=.ptr s.ag.length 0 0) (h3:ρ 3=.ptr s.ag.length 1 0) (h6:ρ 6=.ptr s.ag.length 2 0) (sk:ρ 14=.ptr s.ag.length pre.length 0) (sn:ρ 15=.ptr s.ag.length (pre.length+1) 0):
  Hand AP s.loops.length (fun x:P=>.agg (aq x)) (EV s ρ) (fun done r=>(∀x∈done,x∈ct w i)∧r=⟨pre++[[I i],[I (l6 w p i done)]],tk⟩)
   (fun _ _=>false) (fun _ _ _=>False) (fun x=>x∈ct w i) (s.ag.length+1) (s.loops.length+1) 100000:=by
 refine⟨fun r=>(hs.push _).enter,fun r=>by simp[EV,enterLoop,ae.push],fun r=>by simp[EV,enterLoop,ae.push],?_,fun _ _ _ _ _ _ _ _ h=>by cases h⟩
 rintro done x r B ls hd ⟨hI,rfl⟩ hx _
 have hM:fu (fun r=>up (busy s.loops.length (enterLoop (s.push r) (EW ρ))) B ls) s.ag.length:=H8 hs
 have hX:∀r,busy s.loops.length (up (EV s ρ r) B ls)=(fun r=>up (busy s.loops.length (enterLoop (s.push r) (EW ρ))) B ls) r:=fun r=>IK (by simp[enterLoop,ae.push])
 have vL:=Nh hv hw (i:=(i:Int)) (by omega) (by omega) hI
 refine⟨⟨pre++[[I i],[I (l6 w p i (done++[x]))]],tk⟩,?_,?_,rfl⟩
 ·rw[aye]
  exact agy (T:=fun r=>up (EV s ρ r) B ls) hM hX (fun r=>IL (GK (hs.push r))) (fun r=>((hs.push _).enter).up) hw hv he hi hx oM nP jJ h2 h3 h6 sk sn vL.1 vL.2
 ·intro y hy
  rcases dR.1 hy with h|h
  ·exact hI y h
  ·rw[fS.1 h];exact hx
end
section
variable{s:ae} {w:W} {p:List (Sl Int)}
def u7 (w:W) (p:List (Sl Int)):Int:=if(cM w).2.2=0 then mE w p else(cM w).2.2
theorem acP {a k:Nat} (h:∀t,t<k→0≤dz p a t∧dz p a t≤100000):0≤kM w p a k∧kM w p a k≤k*100000:=by
 refine Ai fun t ht=>?_
 have:=h t ht
 split<;>omega
theorem ayo (hw:Wk w) {k:Nat} (h:∀a,a<k→∀t,0≤dz p a t∧dz p a t≤100000):0≤jg w p k∧jg w p k≤k*20000000:=by
 have dK:=hw.v.n2
 refine Ai fun a ha=>?_
 have:=acP (w:=w) (a:=a) (k:=w.bm.toNat) fun t _=>h a ha t
 omega
theorem aw3 {o:Own} {e:Nat} (hs:Ok s) (hw:w.Ok) (hf:w.jT) (hp:wQ p) (he:p=[]∨e=1):
  aw AP (.fn 11) [w.v,.slice o e (p.map cL)] s=some (.tuple [I (if u7 w p=0 then nx w p else 0),I (u7 w p)],s):=by
 by_cases hz:(cM w).2.2=0
 ·have aY:Wk w:=⟨hw,hf,pR hz⟩
  have ho:∀r,aw AP (.fn 32) [w.v] (s.push r)=some (.tuple [OW w,I 0],s.push r):=fun r=>Iq (hs.push r) hw hf hz
  have fC:=aY.v.al
  have fV:=aY.v.rl
  have oL:=aY.v.n1
  have dK:=aY.v.n2
  have ed:=hp.len
  have sD:u7 w p=mE w p:=aj hz
  rw[sD]
  have k0:lz w p→∀(k:Nat) ρ m,k≤w.rs.l.length→(ρ 2=.ptr s.ag.length 0 0∧ρ 3=.ptr s.ag.length 1 0∧ρ 6=.ptr s.ag.length 2 0∧ρ 9=I (jg w p w.as.l.length+qJ w p k)∧ρ 75=I w.rs.l.length∧ρ 76=I k∧
    ∃jk,m=s.push ⟨aW w::[.slice o e (p.map cL)]::[OW w]::jk,[]⟩)→go AP GP (.c (.loop AZ)::aaF) ⟨ρ,m⟩=some (.tuple [I (nx w p),I 0],s):=by
   intro hv
   have htB:=ayn hv aY (aI w.as.l.length)
   refine bA w.rs.l.length _ (fun _=>some (.tuple [I (nx w p),I 0],s)) ?_ ?_
   ·rintro k ρ m hk ⟨g2,g3,g6,g9,Lu,qf,jk,rfl⟩ ih
    obtain⟨pre,jZ⟩:∃pre,pre=aW w::[AV.slice o e (p.map cL)]::[OW w]::jk:=⟨_,rfl⟩
    have oM:pre[0]? =some (aW w):=by rw[jZ];rfl
    have nP:pre[1]? =some [.slice o e (p.map cL)]:=by rw[jZ];rfl
    have jJ:pre[2]? =some [OW w]:=by rw[jZ];rfl
    have gn:∀r,aw AP (.fn 41) [OW w,I (k:Int)] (s.push r)=some (.fn 74 [] [.bd [OW w] 0,.bd [I (k:Int)] 0],s.push r):=fun r=>Nw (hs.push r)
    rw[←jZ]
    have gj:∀(q:List (List AV)),(s.push ⟨pre++q,[]⟩).box s.ag.length 2=some [OW w]:=fun q=>by rw[ib,dG (by rw[jZ];simp)];exact jJ
    have alX:(s.push ⟨pre,[]⟩).box s.ag.length 2=some [OW w]:=by rw[ib];exact jJ
    simp only[OW]at gn gj alX
    simp only[go_sem,AZ,g6,Lu,qf,hs,aL hk,gj,gn,simprocAttr]
    have rg:∀ρ1:Nat→AV,ρ1 2=.ptr s.ag.length 0 0→ρ1 3=.ptr s.ag.length 1 0→ρ1 6=.ptr s.ag.length 2 0→ρ1 9=I (jg w p w.as.l.length+qJ w p k)→ρ1 14=.ptr s.ag.length pre.length 0→ρ1 15=.ptr s.ag.length (pre.length+1) 0→ρ1 75=I w.rs.l.length→ρ1 76=I k→ρ1 81=.fn 74 [] [.bd [OW w] 0,.bd [I (k:Int)] 0]→
      go AP GP (.c (.rangeFunc (.tmp 81) [82] JS JZ)::.blk 6::.c JW::.blk 5::.c JV::.lp AZ::aaF) ⟨ρ1,s.push ⟨pre++[[I (k:Int)],[I 0]],[]⟩⟩=some (.tuple [I (nx w p),I 0],s):=by
     intro ρ1 q2 q3 q6 q9 q14 q15 q75 q76 q81
     obtain⟨b,r',hc,hE⟩:=M1 (agx (tk:=[]) hs aY hv he hk oM nP jJ q2 q3 q6 q14 q15) aY (req:=(k:Int)) (by omega) (by omega) (i:=⟨pre++[[I (k:Int)],[I 0]],[]⟩) (done:=[]) (by have:=z7 aY (i:=(k:Int)) (by omega) (by omega);simp;omega) ⟨by simp,rfl⟩ (fun p hp=>hp)
     obtain⟨rfl,_,rfl⟩:=hE.never (fun _ _=>rfl)
     rw[B7 (x:=.tmp 81) q81]
     refine(gX (Option.bind · _) hc).trans ?_
     simp only[dI,gL]
     refine(B6 (m:=s.push ⟨pre++[[I (k:Int)],[I (l6 w p k (ct w k))]],[]⟩) (lp:=EW ρ1) rfl rfl rfl).trans ?_
     have vL:=Nh hv aY (i:=(k:Int)) (by omega) (by omega) (l:=ct w k) fun y hy=>hy
     have hsS:=ayd hv aY (k:=k) (by omega)
     have eK:IntKind.i64.wrap (jg w p w.as.l.length+qJ w p k+l6 w p k (ct w k))=jg w p w.as.l.length+qJ w p (k+1):=by
      rw[bq (by omega) (by omega)];simp only[qJ,cO];omega
     generalize l6 w p k (ct w k)=sv at*
     simp only[go_sem,JW,JV,q9,q15,q76,eK,bh hk (show(w.rs.l.length:Int)<_ by omega),simprocAttr]
     refine ih _ _ ?_
     refine⟨q2,q3,q6,rfl,q75,rfl,jk++[[I (k:Int)],[I sv]],?_⟩
     rw[jZ];rfl
    refine rg _ ?_ ?_ ?_ ?_ ?_ ?_ ?_ ?_ ?_
    ·exact g2
    ·exact g3
    ·exact g6
    ·exact g9
    ·rfl
    ·rfl
    ·exact Lu
    ·exact qf
    ·simp only[OW];rfl
   ·rintro ρ m ⟨g2,g3,g6,g9,Lu,qf,jk,rfl⟩
    simp only[go_sem,AZ,JU,g9,Lu,qf,bg,simprocAttr]
    rfl
  have k5:∀(x:Sl Int) (a:Nat) (R:Option (AV×ae)),p[a]? =some x→a<w.as.l.length→x.l.length=w.bm.toNat→(∀a',a'<a→∀t,0≤dz p a' t∧dz p a' t≤100000)→
    (∀ρ m,(∀t,0≤dz p a t∧dz p a t≤100000)→(ρ 2=.ptr s.ag.length 0 0∧ρ 3=.ptr s.ag.length 1 0∧ρ 6=.ptr s.ag.length 2 0∧ρ 9=I (jg w p (a+1))∧ρ 42=.slice o e (p.map cL)∧ρ 43=I p.length∧ρ 44=I ((a+1:Nat):Int)∧m=s.push ⟨[aW w,[.slice o e (p.map cL)],[OW w]],[]⟩)→go AP GP (.c (.loop A1)::aaH) ⟨ρ,m⟩=R)→
    ∀(k:Nat) ρ m,k≤x.l.length→(ρ 2=.ptr s.ag.length 0 0∧ρ 3=.ptr s.ag.length 1 0∧ρ 6=.ptr s.ag.length 2 0∧ρ 9=I (jg w p a+kM w p a k)∧ρ 10=I a∧ρ 42=.slice o e (p.map cL)∧ρ 43=I p.length∧ρ 44=I a∧ρ 49=x.v aC∧ρ 50=I x.l.length∧ρ 51=I k∧(∀t,t<k→0≤dz p a t∧dz p a t≤100000)∧m=s.push ⟨[aW w,[.slice o e (p.map cL)],[OW w]],[]⟩)→
     go AP GP (.c (.loop A2)::arb) ⟨ρ,m⟩=if(x.l.drop k).all (fun n=>wi n 0 100000)=true then R else some (.tuple [I 0,I 2],s):=by
   intro x a R hx ha qA jZ hR
   have dk:=bE hx
   have rB:=hp.ok x dk
   have htb:=ayo (p:=p) aY (k:=a) jZ
   have anm:a<p.length:=(bI.1 hx).1
   have kA:idx (.v (.int .i64 (a:Int))) 4=some a:=sP (by omega)
   refine bA x.l.length _ _ ?_ ?_
   ·rintro k ρ m hk ⟨g2,g3,g6,g9,g10,xC,vl,vm,BY,y9,G0,nK,rfl⟩ ih
    obtain⟨n,hn⟩:=get_some hk
    have ru:dz p a k=n:=by simp only[dz,hx,hn];rfl
    have bf:=Sl.ix (f:=aC) rB hn
    have mr:∀q,aw AP (.fn 40) [I n,I 0,I 100000] (s.push q)=some (B (wi n 0 100000),s.push q):=fun q=>s5
    have jG:idx (.v (.int .i64 (k:Int))) 200=some k:=sP (by omega)
    have eP:(wk w.bm (w.as.v bR) (w.rs.v aS) (sc w.as.l))[0+3+a*200+k*1]? =some (B (bY w.as.l a k)):=by
     rw[show 0+3+a*200+k*1=3+(a*200+k)by omega,Nx (by omega),GA,show(a*200+k)/200=a by omega,show(a*200+k)%200=k by omega]
    have uk:=acP (w:=w) nK
    simp only[aC,Sl.v]at bf eP
    rw[AJ hn]
    cases hd:wi n 0 100000 with
    |false=>
     rw[hd]at mr
     simp only[go_sem,A2,BY,y9,G0,aL hk,bf,mr,th,lr,simprocAttr]
    | true =>
     rw[hd]at mr
     have amY:=gy.1 hd
     have Zp:∀t,t<k+1→0≤dz p a t∧dz p a t≤100000:=fun t ht=>by
      by_cases e:t=k
      ·subst e;rw[ru];exact amY
      ·exact nK t (by omega)
     cases hq:bY w.as.l a k with
     |true=>
      rw[hq]at eP
      have bu:jg w p a+kM w p a (k+1)=jg w p a+kM w p a k:=by simp only[kM,cO];rw[aj hq];omega
      simp only[OW]
      simp only[go_sem,A2,g6,g10,BY,y9,G0,MS,aL hk,bf,mr,kA,jG,eP,ov,kQ,bh hk (show(x.l.length:Int)<_ by omega),simprocAttr]
      refine ih _ _ ?_
      exact⟨g2,g3,g6,by rw[bu];exact g9,g10,xC,vl,vm,BY,y9,rfl,Zp,rfl⟩
     |false=>
      rw[hq]at eP
      have bu:jg w p a+kM w p a (k+1)=jg w p a+kM w p a k+n:=by simp only[kM,cO];rw[ak (by simp[hq]),ru];omega
      have eK:IntKind.i64.wrap (jg w p a+kM w p a k+n)=jg w p a+kM w p a (k+1):=by rw[bq (by omega) (by omega)];omega
      simp only[OW]
      simp only[go_sem,A2,g6,g9,g10,BY,y9,G0,MS,aL hk,bf,mr,kA,jG,eP,ov,th,kQ,eK,bh hk (show(x.l.length:Int)<_ by omega),simprocAttr]
      refine ih _ _ ?_
      exact⟨g2,g3,g6,rfl,g10,xC,vl,vm,BY,y9,rfl,Zp,rfl⟩
   ·rintro ρ m ⟨g2,g3,g6,g9,g10,xC,vl,vm,BY,y9,G0,nK,rfl⟩
    rw[fe]
    have jF:∀t,0≤dz p a t∧dz p a t≤100000:=fun t=>by
     by_cases h:t<x.l.length
     ·exact nK t h
     ·have:dz p a t=0:=by simp only[dz,hx,lu (Jb h)];rfl
      rw[this];omega
    simp only[go_sem,A2,O5,vm,y9,G0,bg,Ap,bh anm (show(p.length:Int)<_ by omega),simprocAttr]
    refine hR _ _ jF ?_
    refine⟨g2,g3,g6,?_,xC,vl,rfl,rfl⟩
    show ρ 9=_
    rw[g9,qA];rfl
  have k4:p.length=w.as.l.length→(∀x∈p,(x.l.length:Int)=w.bm)→∀(k:Nat) ρ m,k≤p.length→(ρ 2=.ptr s.ag.length 0 0∧ρ 3=.ptr s.ag.length 1 0∧ρ 6=.ptr s.ag.length 2 0∧ρ 9=I (jg w p k)∧ρ 42=.slice o e (p.map cL)∧ρ 43=I p.length∧ρ 44=I k∧(∀a,a<k→∀t,0≤dz p a t∧dz p a t≤100000)∧m=s.push ⟨[aW w,[.slice o e (p.map cL)],[OW w]],[]⟩)→
    go AP GP (.c (.loop A1)::aaH) ⟨ρ,m⟩=if(p.drop k).all (fun x=>x.l.all fun n=>wi n 0 100000)=true then some (.tuple [I (nx w p),I 0],s)else some (.tuple [I 0,I 2],s):=by
   intro hl iH
   refine bA p.length _ _ ?_ ?_
   ·rintro k ρ m hk ⟨g2,g3,g6,g9,xC,vl,vm,nK,rfl⟩ ih
    obtain⟨x,hx⟩:=get_some hk
    have cS:e=1:=by rcases he with h|h;(rw[h]at hx;simp at hx);exact h
    have rC:=iH x (bE hx)
    have bf:=cz (f:=cL) (o:=o) (es:=1) hx
    simp only[cL,Sl.v]at bf
    subst cS
    simp only[go_sem,A1,xC,vl,vm,aL hk,bf,simprocAttr]
    refine(k5 x k _ hx (by omega) (by omega) nK (fun ρ m jF h=>ih ρ m ?_) 0 _ _ (aV _) ?_).trans ?_
    ·obtain⟨c2,c3,c6,c9,c42,c43,c44,c⟩:=h
     refine⟨c2,c3,c6,c9,c42,c43,c44,fun a ha t=>?_,c⟩
     by_cases e:a=k
     ·subst e;exact jF t
     ·exact nK a (by omega) t
    ·refine⟨g2,g3,g6,?_,rfl,xC,vl,vm,rfl,rfl,rfl,fun t ht=>absurd ht (dH _),rfl⟩
     show ρ 9=I (_+0)
     rw[Dz];exact g9
    ·rw[AJ hx,iK]
     cases(x.l.all fun n=>wi n 0 100000)<;>simp
   ·rintro ρ m ⟨g2,g3,g6,g9,xC,vl,vm,nK,rfl⟩
    rw[fe,Ap,aj rfl]
    have hv:lz w p:=⟨hp,hl,iH,fun x hx n hn=>by
     obtain⟨a,ha,rfl⟩:=nr hx
     obtain⟨t,ht,rfl⟩:=nr hn
     have:=nK a ha t
     have e:dz p a t=p[a].l[t]:=by simp[dz,ha,ht]
     rw[e]at this;exact this⟩
    simp only[go_sem,A1,JY,g2,vl,vm,bg,simprocAttr]
    refine k0 hv 0 _ _ (aV _) ?_
    refine⟨g2,g3,g6,?_,rfl,rfl,[],rfl⟩
    show ρ 9=I (_+0)
    rw[Dz,←hl];exact g9
  have dw:∀r,aw AP (.fn 39) [.slice o e (p.map cL),.fn 38 [] [.ptr s.ag.length 0 0]] (s.push ⟨aW w::r,[]⟩)=some (B (p.any fun x=>!decide ((x.l.length:Int)=w.bm)),s.push ⟨aW w::r,[]⟩):=fun r=>
   aze he (by omega) fun x hx r q=>aw4 (((hs.push _).push _).push _) (eA (eA EX _) _)
  have YT:decide ((0:Int)≠0)=false:=rfl
  simp only[W.v,aW,Sl.v,OW]at ho dw
  by_cases hl:p.length=w.as.l.length
  ·have hd:decide ((p.length:Int)≠(w.as.l.length:Int))=false:=by simp;omega
   cases LK:p.any fun x=>!decide ((x.l.length:Int)=w.bm)with
   | true =>
    rw[LK]at dw
    have kE:¬(p.length=w.as.l.length∧∀x∈p,(x.l.length:Int)=w.bm):=by
     rintro⟨_,h⟩
     obtain⟨x,hx,nV⟩:=fc.1 LK
     rw[h x hx]at nV;simp at nV
    rw[Tp kE,ak (by decide)]
    rw[aG (show AP 11=some xg from rfl) rfl]
    simp only[go_sem,Eo,hs,ho,hd,dw,simprocAttr]
   | false =>
    rw[LK]at dw
    have iH:∀x∈p,(x.l.length:Int)=w.bm:=fun x hx=>by
     have:=qM.1 LK x hx
     simpa using this
    have iD:mE w p=if p.all (fun x=>x.l.all fun n=>wi n 0 100000)=true then 0 else 2:=aj ⟨hl,iH⟩
    rw[aG (show AP 11=some xg from rfl) rfl]
    simp only[go_sem,Eo,hs,ho,hd,dw,simprocAttr]
    refine(k4 hl iH 0 _ _ (aV _) ?_).trans ?_
    ·exact⟨rfl,rfl,rfl,rfl,rfl,rfl,rfl,fun a ha=>absurd ha (dH _),rfl⟩
    ·rw[iK,iD]
     cases(p.all fun x=>x.l.all fun n=>wi n 0 100000)<;>rfl
  ·have hd:decide ((p.length:Int)≠(w.as.l.length:Int))=true:=by simp;omega
   rw[Tp (fun h=>hl h.1),ak (by decide)]
   rw[aG (show AP 11=some xg from rfl) rfl]
   simp only[go_sem,Eo,hs,ho,hd,simprocAttr]
 ·have ho:∀r,aw AP (.fn 32) [w.v] (s.push r)=some (.tuple [NP,I (cM w).2.2],s.push r):=fun r=>Ir (hs.push r) hw hf hz
  have sD:u7 w p=(cM w).2.2:=ak hz
  rw[sD,ak hz]
  simp only[W.v,aW,Sl.v]at ho
  rw[aG (show AP 11=some xg from rfl) rfl]
  simp only[go_sem,Eo,hs,ho,hz,bV,j3,simprocAttr]
end
theorem abl {s:ae} {bs:List (List AV)} {tk:List (Option Nat)} {n:Nat} (h0:0<n) (hm:n≤4294967296):yg (s.push ⟨bs,tk⟩) 1 [I 0] (I n) (I n)=some (.aN s.ag.length bs.length 0 1 n n,s.push ⟨bs++[List.replicate n (I 0)],tk⟩):=by
 have h1:asNat (I (n:Int)) dD=some n:=by simp[asNat,dD];omega
 have h2:asNat (I (n:Int)) n=some n:=by simp[asNat]
 have h3:(List.replicate n [I 0]).flatten=List.replicate n (I 0):=by
  have:∀m:Nat,(List.replicate m [I 0]).flatten=List.replicate m (I 0):=fun m=>by
   induction m with
   |zero=>rfl
   |succ m ih=>rw[NV,qO,ih];rfl
  exact this n
 have h4:(List.replicate n (I 0)).isEmpty=false:=by cases n with|zero=>omega|succ n=>rfl
 simp only[yg,h1,h2,h3,h4,dI,dJ,gD,vW,MR]
 rfl
def jb (a:Int) (k n:Nat):List AV:=List.replicate k (I a)++List.replicate (n-k) (I 0)
theorem awy {a:Int} {n:Nat}:List.replicate n (I 0)=jb a 0 n:=by simp[jb]
theorem awz {a:Int} {n:Nat}:jb a n n=(List.replicate n a).map fun x=>I x:=by simp[jb]
theorem Io {a:Int} {k n:Nat} (h:k≤n):(jb a k n).length=n:=by simp[jb];omega
theorem awA {a:Int} {k n:Nat} (h:k<n):j5 (jb a k n) (0+k*1) [I a]=some (jb a (k+1) n):=by
 rw[pP,aj (by rw[Io (by omega)];simp;omega)]
 obtain⟨m,hm⟩:∃m,n-k=m+1:=⟨n-k-1,by omega⟩
 have e1:n-(k+1)=m:=by omega
 simp only[setCells,jb,hm,e1,gU,wO]
 rw[NV,UI (n:=k),gK]
 rw[Ay _ _ (by simp)]
 simp
theorem Sq {d b es n cap:Nat} {i:Nat} (h:i<n):gR none es (.aN d b 0 es n cap) (I (i:Int))=some (.ptr d b (0+i*es)):=by
 have h1:idx (I (i:Int)) n=some i:=by simp[idx];omega
 simp[gR,h1]
theorem ahI {l:List Int}:closeAll (l.map fun x=>I x)=some (l.map fun x=>I x):=by
 induction l with
 |nil=>rfl
 |cons a r ih=>simp only[fR,ie,nC,ih];rfl
theorem asG {s:ae} {r:Rec} {b n cap:Nat} {row:List AV} (h:r.boxes[b]? =some row) (hl:row.length=n) (hc:closeAll row=some row):dL (s.push r) (.aN s.ag.length b 0 1 n cap)=some (.slice .any 1 (row.map fun c=>[c])):=by
 have hv:dL (s.push r) (.aN s.ag.length b 0 1 n cap)=eR (s.push r) (.aN s.ag.length b 0 1 n cap):=rfl
 subst hl
 rw[hv,eR,aj (by rw[gD]),ib,h]
 simp only[dI,wO,gU,aI,cI,hc,dJ,iK]
 rw[Qa _ _ (aI _),er]
def ll (n:Nat) (Tq:Int):Sl Int:=⟨.any,1,List.replicate n Tq⟩
def eU (w:W) (Tq:Int):List (Sl Int):=List.replicate w.as.l.length (ll w.bm.toNat Tq)
theorem ayF {n:Nat} {a:Int}:(ll n a).ok 1:=⟨.inr rfl,.inl rfl⟩
section
variable{s:ae} {w:W}
theorem ayD (hw:Wk w) {a:Int} (h0:0≤a) (h1:a≤100000):lz w (eU w a):=by
 have fC:=hw.v.al
 have oL:=hw.v.n1
 have dK:=hw.v.n2
 have key:∀x∈eU w a,x=ll w.bm.toNat a:=fun x hx=>(As.1 hx).2
 refine⟨⟨by simp[eU];omega,fun x hx=>?_,fun x hx=>?_⟩,by simp[eU],fun x hx=>?_,fun x hx n hn=>?_⟩
 ·rw[key x hx];exact ayF
 ·rw[key x hx];simp[ll];omega
 ·rw[key x hx];simp[ll];omega
 ·rw[key x hx]at hn
  rw[(As.1 hn).2];exact⟨h0,h1⟩
end
abbrev cB (n:Int):AV:=.v (.int .u64 n)
theorem ad8 {a:Nat} (h:a<4294967296):(BitVec.ofInt 64 (a:Int)).toNat=a:=EY (by rw[MZ];omega)
theorem T1 {n:Nat} (h:n<4294967296):cC .and (cB n) (cB 4294967295)=some (cB n):=by
 have h1:((BitVec.ofInt 64 (n:Int)&&&BitVec.ofInt 64 ((4294967295:Nat):Int)).toNat:Int)=(n:Int):=by
  rw[BitVec.toNat_and,ad8 h,ad8 (by decide)]
  have:n&&&(2^32-1)=n%2^32:=Nat.and_two_pow_sub_one_eq_mod n 32
  have h2:n&&&4294967295=n:=by rw[show(4294967295:Nat)=2^32-1 by decide,this];omega
  rw[h2]
 show Option.map AV.v (some (Value.int IntKind.u64 (IntKind.u64.wrap ((BitVec.ofInt 64 (n:Int)&&&BitVec.ofInt 64 (4294967295:Int)).toNat:Int))))=_
 have h3:((4294967295:Nat):Int)=4294967295:=rfl
 rw[h3]at h1
 rw[h1,II (by omega) (by omega)];rfl
theorem T2 {n:Nat} (h:n<4294967296):cC .shr (cB n) (cB 32)=some (cB 0):=by
 have h1:((n:Int)).fdiv (2^32)=0:=by
  rw[Uh _ (by decide)]
  have:(2:Int)^32=4294967296:=by decide
  rw[this];omega
 show Option.map AV.v (rN .shr .u64 (n:Int) 32)=_
 have h2:min ((32:Int)).toNat IntKind.u64.bits=32:=by decide
 unfold rN
 rw[ak (by decide)]
 simp only[h2,h1];rfl
theorem Nl {a b:Int} (h0:0≤a*b) (h1:a*b<18446744073709551616):cC .mul (cB a) (cB b)=some (cB (a*b)):=by
 show Option.map AV.v (some (Value.int IntKind.u64 (IntKind.u64.wrap (a*b))))=_
 rw[II h0 h1];rfl
theorem ayv:cC .add (cB 0) (cB 0)=some (cB 0):=by
 show Option.map AV.v (some (Value.int IntKind.u64 (IntKind.u64.wrap (0+0))))=_
 rw[II (by decide) (by decide)];rfl
section
variable{s:ae} {w:W}
theorem agt {n:Nat} (h:n<4294967296):aw AP (.fn 125) [cB 1,cB n] s=some (.tuple [cB 0,cB n],s):=by
 have a1:=T1 h
 have a2:cC .and (cB 1) (cB 4294967295)=some (cB 1):=T1 (n:=1) (by decide)
 have a3:cC .and (cB 0) (cB 4294967295)=some (cB 0):=T1 (n:=0) (by decide)
 have b1:=T2 h
 have b2:cC .shr (cB 1) (cB 32)=some (cB 0):=T2 (n:=1) (by decide)
 have b3:cC .shr (cB 0) (cB 32)=some (cB 0):=T2 (n:=0) (by decide)
 have c1:cC .mul (cB 1) (cB n)=some (cB n):=by rw[Nl (by omega) (by omega),Int.one_mul]
 have c2:cC .mul (cB 0) (cB n)=some (cB 0):=by rw[Nl (by omega) (by omega),Int.zero_mul]
 have c3:cC .mul (cB 1) (cB 0)=some (cB 0):=Nl (by decide) (by decide)
 have c4:cC .mul (cB 0) (cB 0)=some (cB 0):=Nl (by decide) (by decide)
 have hl:∀m:ae,dL m (cB n)=some (cB n):=fun m=>rfl
 have fm:∀m:ae,dL m (cB 0)=some (cB 0):=fun m=>rfl
 simp only[cB]at*
 rw[aG (show AP 125=some Fh from rfl) rfl]
 simp only[go_sem,VM,a1,a2,a3,b1,b2,b3,c1,c2,c3,c4,ayv,hl,fm,simprocAttr]
theorem ags {n:Nat} (h:n<4294967296):aw AP (.fn 77) [cB 1,cB n] s=some (.tuple [cB 0,cB n],s):=by
 have hm:∀r,aw AP (.fn 125) [cB 1,cB n] (s.push r)=some (.tuple [cB 0,cB n],s.push r):=fun r=>agt h
 have hl:∀m:ae,dL m (cB n)=some (cB n):=fun m=>rfl
 have fm:∀m:ae,dL m (cB 0)=some (cB 0):=fun m=>rfl
 simp only[cB]at*
 rw[aG (show AP 77=some Fg from rfl) rfl]
 simp only[go_sem,VK,hm,hl,fm,simprocAttr]
theorem ade {a:Int} {n:Nat}:∀{j k:Nat},k+j≤n→setCells (jb a k n) k (List.replicate j (I a))=jb a (k+j) n
 |0,k,_=>rfl
 |j+1,k,h=>by
  rw[NV]
  simp only[setCells]
  have hs:=awA (a:=a) (k:=k) (n:=n) (by omega)
  rw[pP,aj (by rw[Io (by omega)];simp;omega)]at hs
  injection hs with hs
  simp only[setCells,gU,wO]at hs
  rw[hs,ade (j:=j) (k:=k+1) (by omega)]
  congr 1;omega
theorem Xp {a:Int} {n k j:Nat} (hs:Ok s) (h:k+j≤n):(s.push ⟨[jb a k n],[]⟩).store j (.ptr s.ag.length 0 k) (.agg (List.replicate j (I a)))=some (s.push ⟨[jb a (k+j) n],[]⟩):=by
 rw[adJ hs]
 have hf:lH j (AV.agg (List.replicate j (I a))).cells=true:=by
  rw[qd]
  refine⟨by simp[AV.cells],?_⟩
  rw[jh]
  intro x hx
  rw[(As.1 hx).2];rfl
 rw[hf,fK]
 simp only[Aq,dI,AV.cells,DJ]
 rw[pP,aj (by rw[Io (by omega),I1];exact h),ade h];rfl
theorem ahY {a:Int} {n k c1 c2:Nat} (hs:Ok s) (h0:0<k) (h:k<n):tM (s.push ⟨[jb a k n],[]⟩) (.aN s.ag.length 0 k 1 (n-k) c1) (.aN s.ag.length 0 0 1 k c2)=some (I (min (n-k) k:Nat),s.push ⟨[jb a (k+min (n-k) k) n],[]⟩):=by
 have RW:(s.push ⟨[jb a k n],[]⟩).yk (.aN s.ag.length 0 0 1 k c2)=some (List.replicate k (I a)):=by
  simp only[ae.yk,cI,ib,Aq,dI]
  rw[aj (by rw[Io (by omega)];omega)]
  rw[iK]
  unfold jb
  rw[List.take_left' (by simp)]
 have uq:(List.replicate k (I a)).take (n-k)=List.replicate (min (n-k) k) (I a):=by rw[List.take_replicate]
 have aF:(List.replicate (min (n-k) k) (I a)).isEmpty=false:=by
  obtain⟨q,hq⟩:∃q,min (n-k) k=q+1:=⟨min (n-k) k-1,by omega⟩
  rw[hq];rfl
 have bu:=Xp (a:=a) (k:=k) (j:=min (n-k) k) (n:=n) hs (by omega)
 simp only[tM,RW,cI,dI,uq,aF,ew,eu,I1,bu,dJ]
theorem ahX {a:Int} {n c:Nat} (hs:Ok s) (h:0<n):tM (s.push ⟨[jb a 0 n],[]⟩) (.aN s.ag.length 0 0 1 n c) (.slice .full 1 [[I a]])=some (I 1,s.push ⟨[jb a 1 n],[]⟩):=by
 have uq:([I a]:List AV).take n=List.replicate 1 (I a):=by
  obtain⟨q,rfl⟩:∃q,n=q+1:=⟨n-1,by omega⟩
  simp
 have bu:=Xp (a:=a) (k:=0) (j:=1) (n:=n) hs (by omega)
 have RW:(s.push ⟨[jb a 0 n],[]⟩).yk (.slice .full 1 [[I a]])=some [I a]:=rfl
 simp only[tM,RW,cI,dI,uq,I1,bu,dJ]
 rfl
theorem azp {a:Int} {n:Nat} (hs:Ok s) (h0:0<n) (h1:n≤100000):aw AP (.fn 45) [.slice .full 1 [[I a]],I n] s=some ((ll n a).v aC,s):=by
 have hm:∀r,aw AP (.fn 77) [cB 1,cB n] (s.push r)=some (.tuple [cB 0,cB n],s.push r):=fun r=>ags (by omega)
 have Ry:decide ((n:Int)<0)=false:=by simp
 have eK:IntKind.u64.wrap 1=1:=II (by decide) (by decide)
 have hwn:IntKind.u64.wrap (n:Int)=n:=II (by omega) (by omega)
 have bH:IntKind.i64.wrap (n:Int)=n:=bq (by omega) (by omega)
 have mV:cC .gtr (cB 0) (cB 0)=some (B false):=rfl
 have uf:cC .gtr (cB n) (cB 9223372036854775807)=some (B false):=by
  show Option.map AV.v (some (Value.bool (decide ((n:Int)>9223372036854775807))))=_
  have:decide ((n:Int)>9223372036854775807)=false:=by simp;omega
  rw[this];rfl
 have mZ:=abl (s:=s) (bs:=[]) (tk:=[]) h0 (by omega)
 rw[awy (a:=a)]at mZ
 simp only[jU,gL]at mZ
 have gl:=ahX (a:=a) (c:=n) hs h0
 have key:∀(d k:Nat) ρ m,n-k≤d→0<k→k≤n→(ρ 7=.aN s.ag.length 0 0 1 n n∧ρ 8=I k∧m=s.push ⟨[jb a k n],[]⟩)→go AP ajq (.c (.loop Ky)::arU) ⟨ρ,m⟩=some ((ll n a).v aC,s):=by
  intro d
  induction d with
  | zero =>
   rintro k ρ m hd hk ZC ⟨g7,g8,rfl⟩
   obtain rfl:k=n:=by omega
   have dc:=asG (s:=s) (r:=⟨[jb a k k],[]⟩) (b:=0) (n:=k) (cap:=k) (row:=jb a k k) rfl (by rw[Io (aI _)]) (by rw[awz];exact ahI)
   have iW:AV.slice .any 1 ((jb a k k).map fun c=>[c])=(ll k a).v aC:=by
    simp[jb,ll,Sl.v]
   rw[iW]at dc
   rw[go_loop]
   generalize(ll k a).v aC=Z at*
   simp only[go_sem,Ky,PV,g7,g8,yc,bg,dc,simprocAttr]
  | succ d ih =>
   rintro k ρ m hd hk ZC ⟨g7,g8,rfl⟩
   by_cases aBb:k=n
   ·exact ih k ρ _ (by omega) hk ZC ⟨g7,g8,rfl⟩
   ·have aB:k<n:=by omega
    have jq:fQ (.sl 1) (.aN s.ag.length 0 0 1 n n) (some (I (k:Int))) none none=some (.aN s.ag.length 0 k 1 (n-k) (n-k)):=by
     have e1:iq (some (I (k:Int))) n=some k:=by simp[iq,asNat];omega
     simp only[fQ,cI,qD,Nat.max_self,dI,iU,tC,ew,eu,e1,dJ]
     rw[ak (by omega)];simp
    have la:∃c,fQ (.sl 1) (.aN s.ag.length 0 0 1 n n) none (some (I (k:Int))) none=some (.aN s.ag.length 0 0 1 k c):=by
     have e1:iU (some (I (k:Int))) false n n=some k:=by simp[iU,asNat];omega
     refine⟨n-0,?_⟩
     simp only[fQ,cI,qD,Nat.max_self,dI,tC,e1,iq,dJ]
     rw[ak (by omega)];simp
    obtain⟨c,la⟩:=la
    have oI:=ahY (a:=a) (c1:=n-k) (c2:=c) hs hk aB
    have hw:IntKind.i64.wrap ((k:Int)+((min (n-k) k:Nat):Int))=((k+min (n-k) k:Nat):Int):=by rw[bq (by omega) (by omega)];omega
    have zp:=fun ρ m h=>ih (k+min (n-k) k) ρ m (by omega) (by omega) (by omega) h
    generalize min (n-k) k=q at*
    rw[go_loop]
    simp only[go_sem,Ky,g7,g8,yc,aL aB,jq,la,oI,hw,simprocAttr]
    refine zp _ _ ?_
    exact⟨g7,rfl,rfl⟩
 simp only[cB]at*
 rw[aG (show AP 45=some Gv from rfl) rfl]
 simp only[go_sem,WQ,Ry,eK,hwn,hm,mV,uf,bH,mZ,gl,fY,simprocAttr]
 refine key n 1 _ _ (by omega) (by omega) (by omega) ?_
 exact⟨rfl,rfl,rfl⟩
end
def Dw (d es:Nat) (xs:List (List AV)) (x:AV) (og:Option Nat) (toks:List (Option Nat)):Prop:=
 match og with
 |none=>x=.slice .full es xs
 |some g=>x=.slice (.tok d g) es xs∧toks[g]? =some (some xs.length)
theorem Dw.append {s:ae} {es:Nat} {xs:List (List AV)} {x:AV} {og:Option Nat} {toks:List (Option Nat)} (h:Dw s.ag.length es xs x og toks) (hs:Ok s) (o:Own) {ys:List (List AV)} (hy:ys≠[]) (hl:xs.length+ys.length≤4294967296):
  ∃x' bQ toks',(∀boxes,et (s.push ⟨boxes,toks⟩) es x (.slice o es ys)=some (x',s.push ⟨boxes,toks'⟩))∧Dw s.ag.length es (xs++ys) x' bQ toks':=by
 have pG:ys.isEmpty=false:=by cases ys<;>simp_all
 cases og with
 |none=>
  obtain rfl:=h
  refine⟨.slice (.tok s.ag.length toks.length) es (xs++ys),some toks.length,toks++[some (xs.length+ys.length)],fun boxes=>?_,⟨rfl,by simp⟩⟩
  simp[et,pG,Own.isNil,dD,hl,pO,oC]
 |some g=>
  obtain⟨rfl,hg⟩:=h
  refine⟨.slice (.tok s.ag.length g) es (xs++ys),some g,toks.set g (some (xs.length+ys.length)),fun boxes=>?_,⟨rfl,?_⟩⟩
  ·simp[et,pG,dD,hl,Aj,hg,M8,hs.ro,Iu]
  ·rw[wH (bI.1 hg).1];simp
theorem Dw.sl {d es:Nat} {xs:List (List AV)} {x:AV} {og:Option Nat} {toks:List (Option Nat)} (h:Dw d es xs x og toks):∃o,x=.slice o es xs:=by
 cases og with
 |none=>exact⟨_,h⟩
 |some g=>exact⟨_,h.1⟩
section
variable{s:ae} {w:W} {p:List (Sl Int)}
def oY (r:R):Int:=r.len*r.need
theorem ayG (hw:Wk w) {i:Int} (h0:0≤i) (h1:i<w.rs.l.length):1≤oY (w.rq i)∧oY (w.rq i)≤1200∧1≤(w.rq i).len∧(w.rq i).len≤200∧1≤(w.rq i).need∧(w.rq i).need≤6:=by
 have hq:=hw.rq h0 h1
 have dK:=hw.v.n2
 have b2:=hq.bH
 have b0:=hq.pK
 have b3:=hq.kJ
 have b4:=hq.pJ
 have b5:=hq.Ia
 have b6:=hq.Ib
 have b7:=hw.si.an _ (W.oe h0 h1)
 have c1:(w.rq i).len≤200:=by omega
 have c2:(w.rq i).need≤6:=by omega
 refine⟨?_,?_,b3,c1,b5,c2⟩
 ·have:=Ui b3 b5 (by omega) (by omega)
  simpa[oY]using this
 ·have:=Ui c1 c2 (by omega) (by omega)
  simpa[oY]using this
def T3 (w:W) (c:Int):Int:=nx w (eU w c)
end
end Go.Ax.Sx.Sc
