/- A part of the proof. -/
import Derived.Test.YthpnomimjpcgnaaGreatDoorT8
import Derived.Test.YthpnomimjpcgnaaGreatDoorT7
set_option linter.unusedSimpArgs false
set_option linter.unusedVariables false
set_option maxRecDepth 100000
namespace Go.Ax.Sx.Sc
open Go.Ax
section
variable{w:W}
theorem Ap:(cW w).rs.l.length=w.rs.l.length:=by rw[wh,bE]
theorem yk {i:Int} (h0:0≤i) (h1:i<w.rs.l.length):(cW w).rq i=cR (w.rq i):=by
 unfold W.rq
 rw[wh,gN]
 obtain⟨x,hx⟩:=get_some (l:=w.rs.l) (k:=i.toNat) (by omega)
 rw[hx];rfl
theorem adl {a:Int}:(cW w).pH a=w.pH a:=by
 unfold W.pH
 rw[yj,gN]
 cases w.as.l[a.toNat]? <;>rfl
theorem YT {a st n:Int}:cU (cW w) a st n=cU w a st n:=by
 unfold cU
 rw[yj,gN]
 cases w.as.l[a.toNat]? <;>rfl
theorem aeT {p:P} (h0:0≤p.req) (h1:p.req<w.rs.l.length):l4 (cW w) (cP p)=l4 w p:=by
 unfold l4
 rw[show(cP p).req=p.req from rfl,yk h0 h1];rfl
theorem Uy {a b:P} (rV:0≤a.req) (cw:a.req<w.rs.l.length) (jN:0≤b.req) (fB:b.req<w.rs.l.length):uC (cW w) (cP a) (cP b)=uC w a b:=by
 unfold uC
 simp only[aeT rV cw,show(cP a).req=a.req from rfl,show(cP b).req=b.req from rfl,yk rV cw,yk jN fB,adl]
 rfl
theorem UJ {a b:P} (rV:0≤a.req) (cw:a.req<w.rs.l.length) (jN:0≤b.req) (fB:b.req<w.rs.l.length):cQ (cW w) (cP a) (cP b)=cQ w a b:=by
 unfold cQ
 rw[Uy rV cw jN fB,Uy jN fB rV cw]
 rfl
theorem UK {p:P} {l:List P} (rV:0≤p.req) (cw:p.req<w.rs.l.length) (hl:∀x∈l,0≤x.req∧x.req<w.rs.l.length):cS (cW w) (cP p) (l.map cP)=cS w p l:=by
 unfold cS
 rw[Hh]
 rw[rr]
 simp only[fS,Function.comp]
 constructor
 ·rintro⟨x,hx,h⟩;exact⟨x,hx,by rwa [UJ (hl x hx).1 (hl x hx).2 rV cw]at h⟩
 ·rintro⟨x,hx,h⟩;exact⟨x,hx,by rwa [UJ (hl x hx).1 (hl x hx).2 rV cw]⟩
theorem anX {l:List P}:iB (l.map cP)=iB l:=by
 unfold iB
 rw[List.getLast?_map]
 cases l.getLast?<;>rfl
theorem Sr {r:R}:∀{l:List Int} {k:Int},eQ (cR r) k l=eQ r k l
 |[],_=>rfl
 |a::t,k=>by simp only[eQ,Sr (l:=t)];rfl
theorem aqy {p:P} {l:List P} (hl:∀x∈l,0≤x.req∧x.req<w.rs.l.length):dR (cW w) (cP p) (l.map cP)=dR w p l:=by
 unfold dR
 rw[anX,Ap,show(cP p).req=p.req from rfl,show(cP p).start=p.start from rfl,show(cP p).an.l=p.an.l from rfl]
 by_cases h1:wi p.req 0 (w.rs.l.length-1)=true
 ·obtain⟨h0,h2⟩:=iW.1 h1
  rw[UK h0 (by omega) hl,yk h0 (by omega)]
  simp only[Sr,YT]
  rfl
 ·rw[aq h1,aq h1]
theorem Zh {p:P} {l:List P} (h:dR w p l=0):0≤p.req∧p.req<w.rs.l.length:=by
 unfold dR at h
 by_cases h1:wi p.req 0 (w.rs.l.length-1)=true
 ·obtain⟨h0,h2⟩:=iW.1 h1
  exact⟨h0,by omega⟩
 ·rw[aq h1]at h;exact absurd h (by decide)
theorem VB {l:List P}:∀(n k:Nat),n+k=l.length→(∀x∈l.take k,0≤x.req∧x.req<w.rs.l.length)→
  fZ (fun i x=>dR (cW w) x ((l.map cP).take i)) k ((l.map cP).drop k)=fZ (fun i x=>dR w x (l.take i)) k (l.drop k)
 |0,k,h,_=>by
  have h1:l.drop k=[]:=xQ (by omega)
  have h2:(l.map cP).drop k=[]:=xQ (by rw[bE];omega)
  rw[h1,h2];rfl
 | n + 1, k, h, hl => by
  obtain⟨p,hp⟩:=get_some (l:=l) (k:=k) (by omega)
  have J2:(l.map cP)[k]? =some (cP p):=by rw[gN,hp];rfl
  rw[wI hp,wI J2]
  simp only[←Lw]
  rw[aqy hl]
  by_cases h0:dR w p (l.take k)=0
  ·rw[ak h0,ak h0]
   have:=VB (l:=l) n (k+1) (by omega) (fun x hx=>by
    rw[fi hp,c9]at hx
    rcases hx with hx|hx
    ·exact hl x hx
    ·rw[dO]at hx;rw[hx];exact Zh h0)
   simp only[←Lw]at this
   exact this
  ·rw[aq h0,aq h0]
theorem ad4 {l:List P}:fu (cW w) (l.map cP)=fu w l:=by
 unfold fu
 have:=VB (w:=w) (l:=l) l.length 0 (by omega) (fun x hx=>absurd hx (by simp))
 rw[kI,kI]at this
 rw[this]
theorem aaS:∀{l:List P},(∀x∈l,0≤x.req∧x.req<w.rs.l.length)→aV (cW w) (l.map cP)=aV w l
 |[],_=>rfl
 |p::r,h=>by
  have hp:=h p (by simp)
  simp only[gO,aV]
  rw[aaS fun x hx=>h x (gP _ hx),show(cP p).req=p.req from rfl,yk hp.1 hp.2];rfl
theorem Ud {l:List P} (hl:iH l):iH (l.map cP):=by
 refine⟨by rw[bE];exact hl.len,fun p hp=>?_⟩
 obtain⟨q,hq,rfl⟩:=cC.1 hp
 exact⟨yv,(hl.ok q hq).2⟩
end
section
variable{s:ae} {w:W}
theorem Oa:∀{k:Nat} {l:List Int},l.length<k→bd k l=[]
 |0,_,h=>absurd h (dk _)
 |k+1,[],_=>rfl
 |k+1,x::r,h=>by
  simp only[bd]
  rw[Oa (k:=k) (l:=r) (by simp at h;omega),Oa (k:=k+1) (l:=r) (by simp at h;omega)];rfl
def mD (n:Nat) (g:List Int):Sl Int:=⟨if n=1 then .full else .any,1,g⟩
theorem Cd {n:Nat} {g:List Int}:(mD n g).ok 1:=by
 refine⟨.inr rfl,?_⟩
 show(if n=1 then Own.full else Own.any)=.any∨(if n=1 then Own.full else Own.any)=.full∨_
 split
 ·exact .inr (.inl rfl)
 ·exact .inl rfl
def pQ:Nat→List Int→AV
 |0,_=>.slice .full 1 [[.slice .aA 0 []]]
 |n+1,l=>bp 1 ((bd (n+1) l).map fun g=>[(mD (n+1) g).v aD])
theorem E8 {n:Nat} {l:List Int}:mm false (pQ n l)=some (I (bd n l).length):=by
 cases n with
 |zero=>simp only[pQ,bd];rfl
 |succ n=>
  show mm false (bp 1 ((bd (n+1) l).map fun g=>[(mD (n+1) g).v aD]))=_
  rw[Gx,bE]
theorem adX {n:Nat} {l g:List Int} {k:Nat} (h:(bd n l)[k]? =some g):∃o e,jS none 1 (pQ n l) (I k)=some (.bo [.slice o e (g.map aD)] 0)∧(g=[]∨e=1)∧(g=[]↔n=0):=by
 have hg:=tt (bK h)
 cases n with
 | zero =>
  have hk:k=0:=by
   have:=(aY.1 h).1
   simp[bd]at this;exact this
  subst hk
  have:g=[]:=uf hg
  subst this
  exact⟨.aA,0,rfl,.inl rfl,by simp⟩
 |succ n=>
  refine⟨_,1,BI (by rw[gN,h];rfl),.inr rfl,?_⟩
  constructor
  ·intro e;rw[e]at hg;simp at hg
  ·intro e;omega
theorem LX {q:ae} {b:List (List AV)} {tk:List (Option Nat)} {lit ys:List (List AV)} {o:Own} {e:Nat} (he:ys=[]∨e=1) (hl:lit.length+ys.length≤4294967296):
  ∃o' tk',(∀b,ej (q.push ⟨b,tk⟩) 1 (.slice .full 1 lit) (.slice o e ys)=some (.slice o' 1 (lit++ys),q.push ⟨b,tk'⟩))∧(∀(g:Nat) (n:Option Nat),tk[g]? =some n→tk'[g]? =some n)∧
   (AV.slice o' 1 (lit++ys)).close=some (.slice (if ys=[]then .full else .any) 1 (lit++ys)):=by
 by_cases h0:ys=[]
 ·subst h0
  refine⟨.full,tk,fun b=>by simp[ej],fun _ _ h=>h,?_⟩
  simp only[iG,ak];rfl
 ·have kz:e=1:=by rcases he with h|h;exact absurd h h0;exact h
  subst kz
  have h1:ys.isEmpty=false:=by simpa using h0
  refine⟨.tok q.ag.length tk.length,tk++[some (lit.length+ys.length)],fun b=>?_,fun g n h=>?_,?_⟩
  ·simp[ej,h1,Own.isNil,di,hl,oH,nq,fw]
  ·have:=(aY.1 h).1
   rw[dB this];exact h
  ·rw[aq h0];rfl
theorem ZE : ∀ (n : Nat) {s : ae} {l : List Int} {o : Own} {e : Nat}, Ok s → (l = [] ∨ e = 1) → l.length ≤ 6 → n ≤ 6 → aw AP (.fn 81) [.slice o e (l.map aD), I n] s = some (pQ n l, s)
 |0,s,l,o,e,hs,he,hl,_=>by
  rw[aL (show AP 81=some As from rfl) rfl]
  simp only[go_sem,ME,fp,simprocAttr]
  rfl
 | n + 1, s, l, o, e, hs, he, hl, hn => by
  have fE:decide (((n+1:Nat):Int)=0)=false:=by simp;omega
  have jy:IntKind.i64.wrap (((n+1:Nat):Int)-1)=(n:Int):=by rw[bR (by omega) (by omega)];omega
  have outer : ∀ (i : Int) ρ m, (∃ k : Nat, i = k ∧ ρ 0 = .slice o e (l.map aD) ∧ ρ 1 = I ((n + 1 : Nat) : Int) ∧ ρ 6 = I k ∧ ∃ D x og tk, k ≤ l.length ∧ bd (n + 1) l = D ++ bd (n + 1) (l.drop k) ∧ Acc s.ag.length 1 (D.map fun g => [(mD (n + 1) g).v aD]) x og tk ∧ ρ 5 = x ∧ m = s.push ⟨[], tk⟩) →
    go AP Vl (.c (.loop Da)::am6) ⟨ρ,m⟩=some (pQ (n+1) l,s):=by
   refine P5 (l.length-(n+1):Int) _ _ ?_ ?_
   ·rintro i ρ m hi ⟨k,rfl,h0,h1,h6,D,x,og,tk,hk,hD,hA,h5,rfl⟩ ih
    obtain⟨a,ha⟩:=get_some (l:=l) (k:=k) (by omega)
    have dD:e=1:=by rcases he with h|h;(rw[h]at ha;simp at ha);exact h
    subst dD
    have bG:=cr (f:=aD) (o:=o) (es:=1) ha
    obtain⟨od,ss⟩:=aao (f:=aD) (o:=o) (es:=1) (k:=k+1) (l:=l) (by omega)
    have hle:decide (IntKind.i64.wrap ((k:Int)+((n+1:Nat):Int))≤(l.length:Int))=true:=by
     rw[bR (by omega) (by omega)];simp;omega
    have cV:IntKind.i64.wrap ((k:Int)+1)=((k+1:Nat):Int):=by rw[bR (by omega) (by omega)];omega
    have xe:∀r,aw AP (.fn 81) [.slice od 1 ((l.drop (k+1)).map aD),I n] (s.push r)=some (pQ n (l.drop (k+1)),s.push r):=fun r=>
     ZE n (hs.push r) (.inr rfl) (by rw[sX];omega) (by omega)
    have hG:bd (n+1) (l.drop k)=(bd n (l.drop (k+1))).map (a::·)++bd (n+1) (l.drop (k+1)):=by
     rw[eo ha];rfl
    have p8:=yH (k:=n) (l:=l.drop (k+1))
    have inner:∀(j:Nat) ρ m,j≤(bd n (l.drop (k+1))).length→(ρ 0=.slice o 1 (l.map aD)∧ρ 1=I ((n+1:Nat):Int)∧ρ 6=I k∧ρ 7=pQ n (l.drop (k+1))∧ρ 8=I j∧∃x og tk,Acc s.ag.length 1 ((D++((bd n (l.drop (k+1))).take j).map (a::·)).map fun g=>[(mD (n+1) g).v aD]) x og tk∧ρ 5=x∧m=s.push ⟨[],tk⟩)→
      go AP Vl (.c (.loop Il)::am7) ⟨ρ,m⟩=some (pQ (n+1) l,s):=by
     refine cq _ _ _ ?_ ?_
     ·rintro j ρ m hj ⟨g0,g1,g6,g7,g8,x,og,tk,hA,g5,rfl⟩ fQ
      obtain⟨g,hg⟩:=get_some hj
      obtain⟨oi,ei,se,hei,wZ⟩:=adX hg
      have avk:(bd n (l.drop (k+1))).length≤64:=jK p8 (jq (show 0<2 by omega) (show(l.drop (k+1)).length≤6 by rw[sX];omega))
      have JL:((bd n (l.drop (k+1))).length:Int)<9223372036854775808:=by omega
      have qT:D++((bd n (l.drop (k+1))).take (j+1)).map (a::·)=(D++((bd n (l.drop (k+1))).take j).map (a::·))++[a::g]:=by
       rw[fi hg,fT,gL];rfl
      have Xt:((bd n (l.drop (k+1))).take j).length≤64:=by rw[fq];omega
      have nI:=tt (bK hg)
      obtain⟨o1,ng,cw,dX,uS⟩:=LX (q:=s) (b:=[]) (tk:=tk) (lit:=[[I a]]) (ys:=g.map aD) (o:=oi) (e:=ei) (by rcases hei with h|h;exact .inl (by rw[h];rfl);exact .inr h) (by simp;omega)
      have bX:(AV.slice o1 1 ([[I a]]++g.map aD)).close=some ((mD (n+1) (a::g)).v aD):=by
       rw[uS]
       have:(if g.map aD=[]then Own.full else Own.any)=(if n+1=1 then Own.full else Own.any):=by
        by_cases fE:n=0
        ·rw[ak (by rw[wZ.2 fE];rfl),ak (by omega)]
        ·rw[aq (by intro h;exact fE (wZ.1 (by simpa using h))),aq (by omega)]
       rw[this];rfl
      have aP:closeAll [.slice o1 1 ([I a]::g.map aD)]=some [(mD (n+1) (a::g)).v aD]:=by
       simp only[lZ,n9,kg,kh]at bX⊢
       rw[bX];rfl
      have uN:=Acc.ext hA dX
      have hDl:D.length≤64:=by
       have h1:=yH (k:=n+1) (l:=l)
       have h2:=jq (show 0<2 by omega) hl
       rw[hD,ck]at h1
       omega
      obtain⟨x2,eS,kW,fB,iN,Ov,Ww⟩:=uN.append hs .full (ys:=[[(mD (n+1) (a::g)).v aD]]) (by simp) (by rw[bE,ck,bE,xT];omega)
      obtain⟨oa,ea,ra,rfl⟩:=Acc.sl hA
      obtain⟨ob,eb,rb,rfl⟩:=Acc.sl iN
      simp only[kg,kh]at cw
      simp only[Sl.v]at fB aP
      simp only[go_sem,Il,g0,g5,g6,g7,g8,E8,aR hj,se,bG,cw,aP,fB,bJ hj JL,simprocAttr]
      refine fQ _ _ ?_
      refine⟨g0,g1,g6,g7,rfl,_,eS,kW,?_,rfl,rfl⟩
      rw[qT,fT];exact iN
     ·rintro ρ m ⟨g0,g1,g6,g7,g8,x,og,tk,hA,g5,rfl⟩
      rw[ig]at hA
      simp only[go_sem,Il,MF,g6,g7,g8,E8,bM,cV,simprocAttr]
      refine ih _ _ ?_
      refine⟨k+1,by omega,g0,g1,rfl,_,x,og,tk,by omega,?_,hA,g5,rfl⟩
      rw[hD,hG,gL]
    simp only[go_sem,Da,h0,h1,h6,hle,cV,ss,jy,xe,simprocAttr]
    refine inner 0 _ _ (bh _) ?_
    refine⟨h0,h1,h6,rfl,rfl,_,og,tk,?_,h5,rfl⟩
    rw[Ly,nj,iG];exact hA
   ·rintro i ρ m hi ⟨k,rfl,h0,h1,h6,D,x,og,tk,hk,hD,hA,h5,rfl⟩
    have ib:bd (n+1) (l.drop k)=[]:=Oa (by rw[sX];omega)
    rw[ib,iG]at hD
    have hle:decide (IntKind.i64.wrap ((k:Int)+((n+1:Nat):Int))≤(l.length:Int))=false:=by
     rw[bR (by omega) (by omega)];simp;omega
    have cT:∀q:ae,ed q x=some (pQ (n+1) l):=fun q=>by
     show _=some (bp 1 _)
     rw[hD];exact hA.leave q
    obtain⟨oa,ea,ra,rfl⟩:=Acc.sl hA
    simp only[go_sem,Da,Im,h0,h1,h5,h6,hle,cT,simprocAttr]
  rw[aL (show AP 81=some As from rfl) rfl]
  simp only[go_sem,ME,fE,simprocAttr]
  refine outer 0 _ _ ?_
  exact⟨0,rfl,rfl,rfl,rfl,[],_,none,[],bh _,rfl,Acc.start,rfl,rfl⟩
end
section
variable{s:ae} {w:W}
theorem N9 {f:Int→Bool}:∀{k:Nat} {l:List Int},(bd k l).filter (fun g=>g.all f)=bd k (l.filter f)
 |0,l=>by simp[bd]
 |k+1,[]=>rfl
 | k + 1, x :: r => by
  simp only[bd,ni]
  rw[N9 (k:=k+1) (l:=r),List.filter_map]
  cases hx:f x with
  |true=>
   rw[RI hx]
   simp only[bd]
   rw[←N9 (k:=k) (l:=r)]
   congr 2
   apply Hi
   intro g _
   simp[Function.comp,hx]
  |false=>
   rw[RH (by simp[hx])]
   rw[abl.2 (by intro g _;simp[Function.comp,hx])]
   rfl
theorem adY {n:Nat} {l g:List Int} {k:Nat} (h:(bd (n+1) l)[k]? =some g):jS none 1 (pQ (n+1) l) (I k)=some (.bo [(mD (n+1) g).v aD] 0):=
 BI (by rw[gN,h];rfl)
def eU (n:Nat) (p:P):P:=⟨p.req,p.start,mD n p.an.l⟩
theorem aqO {i st:Int}:mr w i st=((bd (w.rq i).need.toNat (w.rq i).an.l).filter fun g=>g.all fun a=>cU w a st (w.rq i).len).map fun g=>⟨i,st,eW g⟩:=by
 rw[N9];rfl
theorem ZA (hs:Ok s) (hw:Wk w) {i:Int} (h0:0≤i) (h1:i<w.rs.l.length):aw AP (.fn 50) [w.v,I i] s=some (bp 3 (((cY w i).map (eU (w.rq i).need.toNat)).map aj),s):=by
 have hq:=hw.rq h0 h1
 have iQ:=hw.v.n2
 have oZ:=hw.v.al
 have Bu:=W.pG h0 h1
 have hqo:=hw.ok.an _ Bu
 have Pf:=hw.tm.an _ Bu
 have ai7:=hq.qX
 have aiO:=hq.aZ
 have ai8:=hq.BN
 have ai2:=hq.pz
 have Bp:=hq.qi
 have avD:=hq.KD
 have avE:=hq.KE
 have fl:=qg hw h0 h1
 obtain⟨m,hm⟩:∃m:Nat,(w.rq i).need=((m+1:Nat):Int):=⟨((w.rq i).need-1).toNat,by omega⟩
 have W7:(w.rq i).need.toNat=m+1:=by omega
 have p8:=xA hw h0 h1
 have gU:cY w i=jX w i (w.rq i).lo ((w.rq i).hi-(w.rq i).len+2-(w.rq i).lo).toNat:=rfl
 have fG:∀st,mr w i st=((bd (m+1) (w.rq i).an.l).filter fun g=>g.all fun a=>cU w a st (w.rq i).len).map fun g=>⟨i,st,eW g⟩:=fun st=>by rw[aqO,W7]
 have ju:∀r,aw AP (.fn 81) [.slice (w.rq i).an.o (w.rq i).an.e ((w.rq i).an.l.map aD),I (w.rq i).need] (s.push r)=some (pQ (m+1) (w.rq i).an.l,s.push r):=fun r=>by
  rw[hm];exact ZE (m+1) (hs.push r) hqo.1 (by omega) (by omega)
 have ah7:=hq.s9
 rw[W7]
 have nQ:IntKind.i64.wrap ((w.rq i).hi-(w.rq i).len)=(w.rq i).hi-(w.rq i).len:=bR (by omega) (by omega)
 have vb:IntKind.i64.wrap ((w.rq i).hi-(w.rq i).len+1)=(w.rq i).hi-(w.rq i).len+1:=bR (by omega) (by omega)
 generalize J7:w.rq i=q at*
 have hsc:(bd (m+1) q.an.l).length≤64:=jK yH (jq (show 0<2 by omega) Pf)
 have outer : ∀ (st : Int) ρ x, (ρ 1 = I i ∧ ρ 2 = .ptr s.ag.length 0 0 ∧ ρ 5 = .ptr s.ag.length 1 0 ∧ ρ 6 = pQ (m + 1) q.an.l ∧ ρ 8 = I st ∧ q.lo ≤ st ∧ st ≤ q.hi - q.len + 2 ∧ ∃ D y og tk bx, D ++ jX w i st (q.hi - q.len + 2 - st).toNat = cY w i ∧ Acc s.ag.length 3 ((D.map (eU (m + 1))).map aj) y og tk ∧ ρ 7 = y ∧ x = s.push ⟨bQ w :: bV q :: bx, tk⟩) →
   go AP Vj (.c (.loop C2)::amX) ⟨ρ,x⟩=some (bp 3 (((cY w i).map (eU (m+1))).map aj),s):=by
  refine P5 (q.hi-q.len+1) _ _ ?_ ?_
  ·rintro st ρ x bX ⟨g1,g2,g5,g6,g8,ze,Gh,D,y,og,tk,bx,hD,hA,g7,rfl⟩ ih
   have hle:decide (st≤q.hi-q.len+1)=true:=by simp;omega
   have aj9:IntKind.i64.wrap (st+1)=st+1:=bR (by omega) (by omega)
   have ajY:(q.hi-q.len+2-st).toNat=(q.hi-q.len+2-(st+1)).toNat+1:=by omega
   rw[ajY]at hD
   simp only[jX]at hD
   have inner:∀(j:Nat) ρ x,j≤(bd (m+1) q.an.l).length→(ρ 1=I i∧ρ 2=.ptr s.ag.length 0 0∧ρ 5=.ptr s.ag.length 1 0∧ρ 6=pQ (m+1) q.an.l∧ρ 8=I st∧ρ 9=I j∧∃y og tk bx,Acc s.ag.length 3 (((D++(((bd (m+1) q.an.l).take j).filter fun g=>g.all fun a=>cU w a st q.len).map fun g=>(⟨i,st,eW g⟩:P)).map (eU (m+1))).map aj) y og tk∧ρ 7=y∧x=s.push ⟨bQ w::bV q::bx,tk⟩)→
     go AP Vj (.c (.loop C3)::amY) ⟨ρ,x⟩=some (bp 3 (((cY w i).map (eU (m+1))).map aj),s):=by
    refine cq _ _ _ ?_ ?_
    ·rintro j ρ x hj ⟨g1,g2,g5,g6,g8,g9,y,og,tk,bx,hA,g7,rfl⟩ fQ
     obtain⟨g,hg⟩:=get_some hj
     have bG:=adY hg
     have hgm:=A3 (bK hg)
     have nI:=tt (bK hg)
     have y7:bW w ⟨i,st,mD (m+1) g⟩:=⟨h0,h1,by show 0≤st;omega,by show st≤200;omega,fun a ha=>ah7 a (hgm.subset ha),Cd,by show(g.length:Int)<_;omega⟩
     have ib:∀r,aw AP (.fn 82) [w.v,.agg (aj ⟨i,st,mD (m+1) g⟩)] (s.push r)=some (B (!(g.all fun a=>cU w a st q.len)),s.push r):=fun r=>by
      rw[ZF (hs.push r) hw y7]
      simp only[J7]
      rw[List.not_all_eq_any_not];rfl
     have aP:closeAll [I i,I st,(mD (m+1) g).v aD]=some (aj ⟨i,st,mD (m+1) g⟩):=by
      simp only[lZ,n9,oR,Sl.close (f:=aD) (Cd (n:=m+1) (g:=g))];rfl
     have JL:((bd (m+1) q.an.l).length:Int)<9223372036854775808:=by omega
     have hDl:D.length≤13000:=by rw[←hD,ck]at p8;omega
     have qc:((bd (m+1) q.an.l).take j).length≤64:=by rw[fq];omega
     have wW:(((bd (m+1) q.an.l).take j).filter fun g=>g.all fun a=>cU w a st q.len).length≤64:=jK (lR _ _) qc
     simp only[aj,Sl.v,W.v,bQ]at aP ib bG
     cases dT:g.all fun a=>cU w a st q.len with
     | false =>
      have gn:((bd (m+1) q.an.l).take (j+1)).filter (fun g=>g.all fun a=>cU w a st q.len)=((bd (m+1) q.an.l).take j).filter (fun g=>g.all fun a=>cU w a st q.len):=by
       rw[fi hg,ni,RH (by simp[dT]),zN,iG]
      rw[←gn]at hA
      obtain⟨oa,ea,ra,rfl⟩:=Acc.sl hA
      simp only[go_sem,C3,g1,g2,g6,g8,g9,hs,E8,aR hj,bG,ib,dT,nV,bJ hj JL,simprocAttr]
      refine fQ _ _ ?_
      exact⟨g1,g2,g5,g6,g8,rfl,_,og,tk,_,hA,g7,rfl⟩
     | true =>
      have gn:(D++(((bd (m+1) q.an.l).take (j+1)).filter fun g=>g.all fun a=>cU w a st q.len).map fun g=>(⟨i,st,eW g⟩:P))=(D++(((bd (m+1) q.an.l).take j).filter fun g=>g.all fun a=>cU w a st q.len).map fun g=>(⟨i,st,eW g⟩:P))++[⟨i,st,eW g⟩]:=by
       rw[fi hg,ni,RI (by simp[dT]),zN,fT,gL];rfl
      obtain⟨x2,eS,kW,fB,iN,Ov,Ww⟩:=hA.append hs .full (ys:=[aj ⟨i,st,mD (m+1) g⟩]) (by simp) (by rw[bE,bE,ck,bE,xT];omega)
      obtain⟨oa,ea,ra,rfl⟩:=Acc.sl hA
      obtain⟨ob,eb,rb,rfl⟩:=Acc.sl iN
      simp only[aj,Sl.v]at fB
      simp only[go_sem,C3,g1,g2,g6,g7,g8,g9,hs,E8,aR hj,bG,aP,ib,dT,fB,jH,bJ hj JL,simprocAttr]
      refine fQ _ _ ?_
      refine⟨g1,g2,g5,g6,g8,rfl,_,eS,kW,_,?_,rfl,rfl⟩
      rw[gn,fT,fT];exact iN
    ·rintro ρ x ⟨g1,g2,g5,g6,g8,g9,y,og,tk,bx,hA,g7,rfl⟩
     rw[ig,←fG]at hA
     simp only[go_sem,C3,Mw,g6,g8,g9,E8,bM,aj9,simprocAttr]
     refine ih _ _ ?_
     exact⟨g1,g2,g5,g6,rfl,by omega,by omega,_,y,og,tk,bx,by rw[gL];exact hD,hA,g7,rfl⟩
   simp only[go_sem,C2,g5,g8,nQ,vb,hle,simprocAttr]
   refine inner 0 _ _ (bh _) ?_
   refine⟨g1,g2,g5,g6,g8,rfl,y,og,tk,bx,?_,g7,rfl⟩
   rw[Ly,zN,nj,iG];exact hA
  ·rintro st ρ x bX ⟨g1,g2,g5,g6,g8,ze,Gh,D,y,og,tk,bx,hD,hA,g7,rfl⟩
   have hle:decide (st≤q.hi-q.len+1)=false:=by simp;omega
   have hz:(q.hi-q.len+2-st).toNat=0:=by omega
   rw[hz]at hD
   simp only[jX,iG]at hD
   rw[hD]at hA
   have cT:=fun q:ae=>hA.leave q
   obtain⟨oa,ea,ra,rfl⟩:=Acc.sl hA
   simp only[go_sem,C2,Ih,g5,g7,g8,nQ,vb,hle,cT,simprocAttr]
 rw[aL (show AP 50=some D3 from rfl) rfl]
 simp only[bV,Sl.v]at fl ju
 simp only[go_sem,Tc,hs,fl,ju,simprocAttr]
 refine outer q.lo _ _ ?_
 refine⟨rfl,rfl,rfl,rfl,rfl,by omega,by omega,[],_,none,[],[],?_,Acc.start,rfl,rfl⟩
 rw[kh,gU]
end
section
variable{s:ae} {w:W}
theorem aeu {n:Nat} {p x:P}:cQ w (eU n p) x=cQ w p x:=rfl
theorem Zj {n:Nat} {p:P} (h:bW w p):bW w (eU n p):=⟨h.r0,h.r1,h.s0,h.s1,h.an,Cd,h.len⟩
theorem ary (hs:Ok s) (hw:Wk w) {l:List P} {o:Own} {e:Nat} {i:Int} (h0:0≤i) (h1:i<w.rs.l.length) (he:l=[]∨e=3) (hl:l.length≤14) (aZ:∀x∈l,bW w x):
  aw AP (.fn 71) [w.v,.slice o e (l.map aj),I i] s=some (bp 3 (((cd w l i).map (eU (w.rq i).need.toNat)).map aj),s):=by
 have cH:∀r,aw AP (.fn 50) [w.v,I i] (s.push r)=some (bp 3 (((cY w i).map (eU (w.rq i).need.toNat)).map aj),s.push r):=fun r=>ZA (hs.push r) hw h0 h1
 have p8:=xA hw h0 h1
 have dE:∀p∈cY w i,bW w p:=fun p hp=>(lL hw h0 h1 hp).1
 unfold cd
 generalize(w.rq i).need.toNat=n at*
 generalize cY w i=A at*
 have hlen:mm false (bp 3 ((A.map (eU n)).map aj))=some (I A.length):=by rw[Gx,bE,bE]
 have outer : ∀ (k : Nat) ρ x, k ≤ A.length → (ρ 1 = .slice o e (l.map aj) ∧ ρ 3 = .ptr s.ag.length 0 0 ∧ ρ 7 = bp 3 ((A.map (eU n)).map aj) ∧ ρ 9 = I k ∧ ∃ y og tk, Acc s.ag.length 3 ((((A.take k).filter fun x => !cS w x l).map (eU n)).map aj) y og tk ∧ ρ 8 = y ∧ x = s.push ⟨[bQ w], tk⟩) →
   go AP Vi (.c (.loop C1)::amU) ⟨ρ,x⟩=some (bp 3 (((A.filter fun x=>!cS w x l).map (eU n)).map aj),s):=by
  refine cq _ _ _ ?_ ?_
  ·rintro k ρ x hk ⟨g1,g3,g7,g9,y,og,tk,hA,g8,rfl⟩ ih
   obtain⟨p,hp⟩:=get_some hk
   have gV:=dE p (bK hp)
   have bG:jS none 3 (bp 3 ((A.map (eU n)).map aj)) (I k)=some (.bo (aj (eU n p)) 0):=BI (by rw[gN,gN,hp];rfl)
   have hft:((A.take k).filter fun x=>!cS w x l).length≤13000:=jK (lR _ _) (by rw[fq];omega)
   have inner:∀(j:Nat) ρ x,j≤l.length→(ρ 1=.slice o e (l.map aj)∧ρ 3=.ptr s.ag.length 0 0∧ρ 7=bp 3 ((A.map (eU n)).map aj)∧ρ 9=I k∧ρ 10=B (!(l.take j).any fun q=>cQ w q p)∧ρ 11=I j∧ρ 8=y∧x=s.push ⟨[bQ w],tk⟩)→
     go AP Vi (.c (.loop Ah)::amV) ⟨ρ,x⟩=some (bp 3 (((A.filter fun x=>!cS w x l).map (eU n)).map aj),s):=by
    refine cq _ _ _ ?_ ?_
    ·rintro j ρ x hj ⟨g1,g3,g7,g9,g10,g11,g8,rfl⟩ fQ
     obtain⟨q,hq⟩:=get_some hj
     have dD:e=3:=by rcases he with h|h;(rw[h]at hq;simp at hq);exact h
     subst dD
     have Xj:=aZ q (bK hq)
     have hr:=cr (f:=aj) (o:=o) (es:=3) hq
     have ew:∀r,aw AP (.fn 94) [w.v,.agg (aj (eU n p)),.agg (aj q)] (s.push r)=some (B (cQ w q p),s.push r):=fun r=>by
      rw[Zz (hs.push r) hw (Zj gV) Xj,aeu,AK hw gV Xj]
     have gn:(!(l.take (j+1)).any fun q=>cQ w q p)=((!(l.take j).any fun q=>cQ w q p)&&!cQ w q p):=by
      rw[fi hq,zL];simp
     simp only[aj,Sl.v,W.v,bQ]at ew hr bG
     cases hb:!(l.take j).any fun q=>cQ w q p with
     |true=>
      rw[hb]at g10
      rw[hb,iF]at gn
      simp only[go_sem,Ah,g1,g3,g7,g9,g10,g11,aR hj,bG,hr,ew,bJ hj (show(l.length:Int)<_ by omega),simprocAttr]
      refine fQ _ _ ?_
      exact⟨g1,g3,g7,g9,by rw[gn];rfl,rfl,g8,rfl⟩
     |false=>
      rw[hb]at g10
      rw[hb,jZ]at gn
      simp only[go_sem,Ah,g1,g10,g11,aR hj,bJ hj (show(l.length:Int)<_ by omega),simprocAttr]
      refine fQ _ _ ?_
      exact⟨g1,g3,g7,g9,by rw[gn];rfl,rfl,g8,rfl⟩
    ·rintro ρ x ⟨g1,g3,g7,g9,g10,g11,g8,rfl⟩
     rw[ig]at g10
     have ew:(l.any fun q=>cQ w q p)=cS w p l:=rfl
     rw[ew]at g10
     have Wc:(A.length:Int)<9223372036854775808:=by omega
     cases hb:cS w p l with
     | false =>
      rw[hb]at g10
      have gn:(A.take (k+1)).filter (fun x=>!cS w x l)=(A.take k).filter (fun x=>!cS w x l)++[p]:=by
       rw[fi hp,ni,RI (by simp[hb]),zN]
      obtain⟨x2,eS,kW,fB,iN,Ov,Ww⟩:=hA.append hs .full (ys:=[aj (eU n p)]) (by simp) (by rw[bE,bE,xT];omega)
      have aP:closeAll [I p.req,I p.start,(mD n p.an.l).v aD]=some (aj (eU n p)):=by
       simp only[lZ,n9,oR,Sl.close (f:=aD) (Cd (n:=n) (g:=p.an.l))];rfl
      obtain⟨oa,ea,ra,rfl⟩:=Acc.sl hA
      obtain⟨ob,eb,rb,rfl⟩:=Acc.sl iN
      simp only[aj,Sl.v,eU]at fB aP bG
      simp only[go_sem,Ah,Ib,Ic,g1,g7,g8,g9,g10,g11,bM,bG,aP,fB,nV,bJ hk Wc,simprocAttr]
      refine ih _ _ ?_
      refine⟨g1,g3,g7,rfl,_,eS,kW,?_,rfl,rfl⟩
      rw[gn,fT,fT];exact iN
     | true =>
      rw[hb]at g10
      have gn:(A.take (k+1)).filter (fun x=>!cS w x l)=(A.take k).filter (fun x=>!cS w x l):=by
       rw[fi hp,ni,RH (by simp[hb]),zN,iG]
      simp only[go_sem,Ah,Ib,Ic,g1,g9,g10,g11,bM,jH,bJ hk Wc,simprocAttr]
      refine ih _ _ ?_
      exact⟨g1,g3,g7,rfl,y,og,tk,by rw[gn];exact hA,g8,rfl⟩
   simp only[go_sem,C1,g7,g9,hlen,aR hk,simprocAttr]
   refine inner 0 _ _ (bh _) ?_
   exact⟨g1,g3,g7,g9,rfl,rfl,g8,rfl⟩
  ·rintro ρ x ⟨g1,g3,g7,g9,y,og,tk,hA,g8,rfl⟩
   rw[ig]at hA
   have cT:=fun q:ae=>hA.leave q
   obtain⟨oa,ea,ra,rfl⟩:=Acc.sl hA
   simp only[go_sem,C1,Ia,g7,g8,g9,hlen,bM,cT,simprocAttr]
 rw[aL (show AP 71=some D1 from rfl) rfl]
 simp only[W.v,bQ,Sl.v]at cH
 simp only[go_sem,Tb,cH,simprocAttr]
 refine outer 0 _ _ (bh _) ?_
 exact⟨rfl,rfl,rfl,rfl,_,none,[],Acc.start,rfl,rfl⟩
end
def lexB:List Int→List Int→Bool
 |[],[]=>false
 |[],_::_=>true
 |_::_,[]=>false
 |x::r,y::t=>if x=y then lexB r t else decide (x<y)
def kP (p:P):List Int:=p.req::p.start::p.an.l
def kq (p q:P):Int:=if lexB (kP p) (kP q)=true then-1 else if lexB (kP q) (kP p)=true then 1 else 0
def xB:List P→List P→Bool
 |[],[]=>true
 |x::r,y::t=>decide (kq x y=0)&&xB r t
 |_,_=>false
theorem GA:∀{l:List Int},lexB l l=false
 |[]=>rfl
 |x::r=>by simp only[lexB,bZ];exact GA
theorem NB {p q:P} (h:kP p=kP q):kq p q=0:=by
 unfold kq;rw[h,GA];simp
theorem Z7 {f g:P→P} (h:∀p,kP (f p)=kP (g p)):∀{l:List P},xB (l.map f) (l.map g)=true
 |[]=>rfl
 |x::r=>by simp only[gO,xB,NB (h x),pR,iF];exact Z7 h
section
variable{s:ae} {w:W}
theorem SO {a b:List Int} {o1 o2:Own} {e1 e2:Nat} (h1:a=[]∨e1=1) (h2:b=[]∨e2=1) (l1:a.length≤100000) (l2:b.length≤100000):
  aw AP (.fn 73) [.slice o1 e1 (a.map aD),.slice o2 e2 (b.map aD)] s=some (B (lexB a b),s):=by
 have key : ∀ (k : Nat) ρ m, k ≤ min a.length b.length → (ρ 0 = .slice o1 e1 (a.map aD) ∧ ρ 1 = .slice o2 e2 (b.map aD) ∧ ρ 5 = I k ∧ m = s.push ⟨[], []⟩) →
   go AP afl (.c (.loop z8)::amu) ⟨ρ,m⟩=some (B (lexB (a.drop k) (b.drop k)),s):=by
  refine cq (min a.length b.length) _ _ ?_ ?_
  ·rintro k ρ m hk ⟨g0,g1,g5,rfl⟩ ih
   obtain⟨x,hx⟩:=get_some (l:=a) (k:=k) (by omega)
   obtain⟨y,hy⟩:=get_some (l:=b) (k:=k) (by omega)
   have kN:e1=1:=by rcases h1 with h|h;(rw[h]at hx;simp at hx);exact h
   have jv:e2=1:=by rcases h2 with h|h;(rw[h]at hy;simp at hy);exact h
   subst kN;subst jv
   have ha:=cr (f:=aD) (o:=o1) (es:=1) hx
   have hb:=cr (f:=aD) (o:=o2) (es:=1) hy
   have d1:decide ((k:Int)<(a.length:Int))=true:=by simp;omega
   have d2:decide ((k:Int)<(b.length:Int))=true:=by simp;omega
   rw[eo hx,eo hy,lexB]
   by_cases eH:x=y
   ·rw[ak eH]
    have hd:decide (¬x=y)=false:=by simp[eH]
    have xi:IntKind.i64.wrap ((k:Int)+1)=((k+1:Nat):Int):=by rw[bR (by omega) (by omega)];omega
    simp only[go_sem,z8,g0,g1,g5,d1,d2,ha,hb,hd,bq,xi,simprocAttr]
    exact ih _ _ ⟨g0,g1,rfl,rfl⟩
   ·rw[aq eH]
    have hd:decide (¬x=y)=true:=by simp[eH]
    simp only[go_sem,z8,g0,g1,g5,d1,d2,ha,hb,hd,bq,simprocAttr]
  ·rintro ρ m ⟨g0,g1,g5,rfl⟩
   by_cases gB:a.length≤b.length
   ·have nM:min a.length b.length=a.length:=by omega
    rw[nM]at g5⊢
    have d1:decide ((a.length:Int)<(a.length:Int))=false:=by simp
    rw[eE]
    simp only[go_sem,z8,HQ,g0,g1,g5,d1,simprocAttr]
    by_cases aC:a.length<b.length
    ·have:∃y r,b.drop a.length=y::r:=by
      obtain⟨y,hy⟩:=get_some aC
      exact⟨y,_,eo hy⟩
     obtain⟨y,r,hd⟩:=this
     rw[hd]
     simp only[lexB]
     have:decide ((a.length:Int)<(b.length:Int))=true:=by simp;omega
     rw[this]
    ·rw[xQ (by omega)]
     simp only[lexB]
     have:decide ((a.length:Int)<(b.length:Int))=false:=by simp;omega
     rw[this]
   ·have nM:min a.length b.length=b.length:=by omega
    rw[nM]at g5⊢
    have d1:decide ((b.length:Int)<(a.length:Int))=true:=by simp;omega
    have d2:decide ((b.length:Int)<(b.length:Int))=false:=by simp
    obtain⟨x,hx⟩:=get_some (l:=a) (k:=b.length) (by omega)
    have d3:decide ((a.length:Int)<(b.length:Int))=false:=by simp;omega
    simp only[go_sem,z8,HQ,g0,g1,g5,d1,d2,d3,simprocAttr]
    rw[eo hx,eE];rfl
 rw[aL (show AP 73=some DB from rfl) rfl]
 simp only[go_sem,SQ,simprocAttr]
 exact key 0 _ _ (bh _) ⟨rfl,rfl,rfl,rfl⟩
theorem amt {p:P}:[[I p.req],[I p.start]]++p.an.l.map aD=(kP p).map aD:=rfl
theorem QF {p q:P} (hs:Ok s) (hp:p.an.ok 1) (hq:q.an.ok 1) (lp:p.an.l.length≤1000) (lq:q.an.l.length≤1000):
  aw AP (.fn 43) [.agg (aj p),.agg (aj q)] s=some (I (kq p q),s):=by
 obtain⟨o1,ng,cw,_,_⟩:=LX (q:=s) (b:=[]) (tk:=[]) (lit:=[[I p.req],[I p.start]]) (ys:=p.an.l.map aD) (o:=p.an.o) (e:=p.an.e) (by rcases hp.1 with h|h;exact .inl (by rw[h];rfl);exact .inr h) (by simp;omega)
 obtain⟨o2,kW,dX,_,_⟩:=LX (q:=s) (b:=[]) (tk:=ng) (lit:=[[I q.req],[I q.start]]) (ys:=q.an.l.map aD) (o:=q.an.o) (e:=q.an.e) (by rcases hq.1 with h|h;exact .inl (by rw[h];rfl);exact .inr h) (by simp;omega)
 rw[amt]at cw dX
 have fB:∀m:ae,aw AP (.fn 73) [.slice o1 1 ((kP p).map aD),.slice o2 1 ((kP q).map aD)] m=some (B (lexB (kP p) (kP q)),m):=fun m=>SO (.inr rfl) (.inr rfl) (by simp[kP];omega) (by simp[kP];omega)
 have iN:∀m:ae,aw AP (.fn 73) [.slice o2 1 ((kP q).map aD),.slice o1 1 ((kP p).map aD)] m=some (B (lexB (kP q) (kP p)),m):=fun m=>SO (.inr rfl) (.inr rfl) (by simp[kP];omega) (by simp[kP];omega)
 rw[aL (show AP 43=some Ea from rfl) rfl]
 unfold kq
 cases h1:lexB (kP p) (kP q)with
 |true=>simp only[go_sem,Io,cw,dX,fB,h1,simprocAttr]
 |false=>
  cases h2:lexB (kP q) (kP p)with
  |true=>simp only[go_sem,Io,cw,dX,fB,iN,h1,h2,eB,simprocAttr]
  |false=>simp only[go_sem,Io,cw,dX,fB,iN,h1,h2,eB,simprocAttr]
structure Cz (l:List P):Prop where
 len:l.length≤100000
 ok:∀p∈l,p.an.ok 1∧p.an.l.length≤1000
theorem arC {a b : List P} {o1 o2 : Own} {e1 e2 : Nat} (hs : Ok s) (h1 : a = [] ∨ e1 = 3) (h2 : b = [] ∨ e2 = 3) (l1 : Cz a) (l2 : Cz b) :
    aw AP (.fn 14) [.slice o1 e1 (a.map aj),.slice o2 e2 (b.map aj)] s=some (B (xB a b),s):=by
  have u3:=l1.len
  have hlb:=l2.len
  by_cases gB:a.length=b.length
  · have key : ∀ (k : Nat) ρ m, k ≤ a.length → (ρ 0 = .slice o1 e1 (a.map aj) ∧ ρ 1 = .slice o2 e2 (b.map aj) ∧ ρ 5 = I k ∧ m = s.push ⟨[], []⟩) →
        go AP afA (.c (.loop C4)::am0) ⟨ρ,m⟩=some (B (xB (a.drop k) (b.drop k)),s):=by
      refine cq a.length _ _ ?_ ?_
      · rintro k ρ m hk ⟨g0, g1, g5, rfl⟩ ih
        obtain⟨x,hx⟩:=get_some (l:=a) (k:=k) (by omega)
        obtain⟨y,hy⟩:=get_some (l:=b) (k:=k) (by omega)
        have kN:e1=3:=by rcases h1 with h|h;(rw[h]at hx;simp at hx);exact h
        have jv:e2=3:=by rcases h2 with h|h;(rw[h]at hy;simp at hy);exact h
        subst kN;subst jv
        have ha:=cr (f:=aj) (o:=o1) (es:=3) hx
        have hb:=cr (f:=aj) (o:=o2) (es:=3) hy
        have qd:=l1.ok x (bK hx)
        have fe:=l2.ok y (bK hy)
        have ot:∀r,aw AP (.fn 43) [.agg (aj x),.agg (aj y)] (s.push r)=some (I (kq x y),s.push r):=fun r=>QF (hs.push r) qd.1 fe.1 qd.2 fe.2
        rw[eo hx,eo hy,xB]
        simp only[aj,Sl.v]at ot ha hb
        by_cases hc:kq x y=0
        · have hd : decide (¬ kq x y = 0) = false := by simp [hc]
          rw[bS hc,iF]
          simp only[go_sem,C4,g0,g1,g5,aR hk,ha,hb,ot,hd,bq,bJ hk (show(a.length:Int)<_ by omega),simprocAttr]
          refine ih _ _ ?_
          exact⟨g0,g1,rfl,rfl⟩
        · have hd : decide (¬ kq x y = 0) = true := by simp [hc]
          rw[ch hc,jZ]
          simp only[go_sem,C4,g0,g1,g5,aR hk,ha,hb,ot,hd,bq,simprocAttr]
      · rintro ρ m ⟨g0, g1, g5, rfl⟩
        simp only[go_sem,C4,Mz,g0,g5,bM,simprocAttr]
        rw[eE,xQ (by omega)];rfl
    have hd:decide (¬(a.length:Int)=(b.length:Int))=false:=by simp[gB]
    rw[aL (show AP 14=some Aq from rfl) rfl]
    simp only[go_sem,My,hd,bq,simprocAttr]
    exact key 0 _ _ (bh _) ⟨rfl,rfl,rfl,rfl⟩
  · have tG : ∀ {a b : List P}, a.length ≠ b.length → xB a b = false := by
      intro a
      induction a with
      | nil => intro b h; cases b with
        |nil=>exact absurd rfl h
        |cons _ _=>rfl
      | cons x r ih => intro b h; cases b with
        |nil=>rfl
        |cons y t=>simp only[xB];rw[ih (b:=t) (by simpa using h),nT]
    have hd:decide (¬(a.length:Int)=(b.length:Int))=true:=by simp;omega
    rw[tG gB]
    rw[aL (show AP 14=some Aq from rfl) rfl]
    simp only[go_sem,My,hd,bq,simprocAttr]
theorem QE {l:List P} {o:Own} {e:Nat} {i:Int} (he:l=[]∨e=3) (hl:l.length≤100000):aw AP (.fn 39) [.slice o e (l.map aj),I i] s=some (I (eG (fun p:P=>decide (p.req=i)) l),s):=by
 have key:∀(k:Nat) ρ m,k≤l.length→(ρ 0=.slice o e (l.map aj)∧ρ 1=I i∧ρ 5=I k∧(∀j y,j<k→l[j]? =some y→decide (y.req=i)=false)∧m=s.push ⟨[],[]⟩)→
   go AP afx (.c (.loop C0)::amT) ⟨ρ,m⟩=some (I (eG (fun p:P=>decide (p.req=i)) l),s):=by
  refine cq l.length _ _ ?_ ?_
  ·rintro k ρ m hk ⟨h0,h1,h5,hp,rfl⟩ ih
   obtain⟨a,ha⟩:=get_some hk
   have he:e=3:=by rcases he with h|h;(rw[h]at ha;simp at ha);exact h
   subst he
   have hr:=cr (o:=o) (es:=3) (f:=aj) ha
   cases fG:decide (a.req=i)with
   |true=>
    simp only[go_sem,C0,h0,h1,h5,aR hk,hr,fG,simprocAttr]
    rw[uI ha fG hp]
   |false=>
    simp only[go_sem,C0,h0,h1,h5,aR hk,hr,fG,bJ hk (show(l.length:Int)<_ by omega),simprocAttr]
    refine ih _ _ ?_
    refine⟨h0,h1,rfl,fun j y hj hy=>?_,rfl⟩
    by_cases e:j=k
    ·subst e;rw[ha]at hy;injection hy with hy;rw[←hy];exact fG
    ·exact hp j y (by omega) hy
  ·rintro ρ m ⟨h0,h1,h5,hp,rfl⟩
   simp only[go_sem,C0,Ms,h0,h5,bM,simprocAttr]
   rw[wH hp]
 rw[aL (show AP 39=some D0 from rfl) rfl]
 simp only[go_sem,Ta,simprocAttr]
 exact key 0 _ _ (bh _) ⟨rfl,rfl,rfl,fun j y hj=>absurd hj (dk _),rfl⟩
theorem agc {l:List P} {i:Int}:decide ((0:Int)≤eG (fun p:P=>decide (p.req=i)) l)=(bw l i).isSome:=by
 have h:(bw l i).isSome=l.any fun p=>decide (p.req=i):=by
  rw[rr]
  unfold bw
  rw[List.find?_isSome,fS]
 rw[h]
 rcases Jr (fun p:P=>decide (p.req=i)) l with⟨h1,h2⟩|⟨h1,j,x,_,_,h4,_⟩
 ·rw[h1,h2];rfl
 ·rw[h1,h4];simp
def vv (n:Nat):Int→List Int→Int
 |_,[]=>0
 |last,a::t=>if wi a 0 (n-1)=true then(if last<a then vv n a t else 9)else 6
theorem arB {l:List Int} {o:Own} {e:Nat} (hs:Ok s) (et:w.rs.l.length≤14) (he:l=[]∨e=1) (hl:l.length≤100000):
  aw AP (.fn 12) [w.v,.slice o e (l.map aD)] s=some (I (vv w.rs.l.length (-1) l),s):=by
 have nQ:IntKind.i64.wrap ((w.rs.l.length:Int)-1)=(w.rs.l.length:Int)-1:=bR (by omega) (by omega)
 have key : ∀ (k : Nat) ρ m, k ≤ l.length → (ρ 1 = .slice o e (l.map aD) ∧ ρ 2 = .ptr s.ag.length 0 0 ∧ ρ 5 = I k ∧ m = s.push ⟨[bQ w], []⟩) →
   go AP afz (.c (.loop x5)::amZ) ⟨ρ,m⟩=some (I (vv w.rs.l.length (sH l k) (l.drop k)),s):=by
  refine cq l.length _ _ ?_ ?_
  ·rintro k ρ m hk ⟨g1,g2,g5,rfl⟩ ih
   obtain⟨a,ha⟩:=get_some hk
   have he:e=1:=by rcases he with h|h;(rw[h]at ha;simp at ha);exact h
   subst he
   have hr:=cr (o:=o) (es:=1) (f:=aD) ha
   have F9:sH l (k+1)=a:=by show l.getD k 0=a;rw[List.getD,ha];rfl
   rw[eo ha,vv]
   cases h1:wi a 0 (w.rs.l.length-1)with
   |false=>simp only[go_sem,x5,g1,g2,g5,aR hk,hr,nQ,gj,h1,eB,simprocAttr]
   | true =>
    rw[ak rfl]
    have rV:=(iW.1 h1).1
    rcases vM k with FT|FT
    ·have aC:sH l k<a:=by rw[FT,show sH l 0=-1 from rfl];omega
     rw[ak aC]
     have h0:decide ((0:Int)<(k:Int))=false:=by simp;omega
     simp only[go_sem,x5,g1,g2,g5,aR hk,hr,nQ,gj,h1,h0,bJ hk (show(l.length:Int)<_ by omega),simprocAttr]
     refine ub (ih _ _ ?_) ?_
     ·exact⟨g1,g2,rfl,rfl⟩
     ·rw[F9]
    ·obtain⟨b,hb⟩:=get_some (l:=l) (k:=k-1) (by omega)
     have gI:=cr (o:=o) (es:=1) (f:=aD) hb
     have h0:decide ((0:Int)<(k:Int))=true:=by simp;omega
     have jy:IntKind.i64.wrap ((k:Int)-1)=((k-1:Nat):Int):=by rw[bR (by omega) (by omega)];omega
     have oB:sH l k=b:=by
      obtain⟨j,rfl⟩:∃j,k=j+1:=⟨k-1,by omega⟩
      show l.getD j 0=b
      rw[List.getD,show l[j]? =some b from hb];rfl
     rw[oB]
     by_cases gB:b<a
     ·rw[ak gB]
      have hd:decide (a≤b)=false:=by simp;omega
      simp only[go_sem,x5,g1,g2,g5,aR hk,hr,nQ,gj,h1,h0,jy,gI,hd,bJ hk (show(l.length:Int)<_ by omega),simprocAttr]
      refine ub (ih _ _ ?_) ?_
      ·exact⟨g1,g2,rfl,rfl⟩
      ·rw[F9]
     ·rw[aq gB]
      have hd:decide (a≤b)=true:=by simp;omega
      simp only[go_sem,x5,g1,g2,g5,aR hk,hr,nQ,gj,h1,h0,jy,gI,hd,simprocAttr]
  ·rintro ρ m ⟨g1,g2,g5,rfl⟩
   simp only[go_sem,x5,Mx,g1,g5,bM,simprocAttr]
   rw[eE];rfl
 rw[aL (show AP 12=some D4 from rfl) rfl]
 simp only[go_sem,Td,simprocAttr]
 exact key 0 _ _ (bh _) ⟨rfl,rfl,rfl,rfl⟩
end
section
variable{s:ae}
def tf (x y:Int):Int:=if x<y then-1 else if y<x then 1 else 0
theorem NC {x:Int}:aw AP (.fn 106) [I x] s=some (B false,s):=by
 rw[aL (show AP 106=some DM from rfl) rfl]
 simp only[go_sem,S0,bq,fI,th,simprocAttr]
theorem aep {x y:Int}:aw AP (.fn 91) [I x,I y] s=some (I (tf x y),s):=by
 unfold tf
 by_cases h1:x<y
 ·rw[ak h1]
  have hd:decide (x<y)=true:=bS h1
  rw[aL (show AP 91=some yl from rfl) rfl]
  simp only[go_sem,H0,NC,hd,simprocAttr]
 ·rw[aq h1]
  have hd:decide (x<y)=false:=ch h1
  by_cases h2:y<x
  ·rw[ak h2]
   have pg:decide (y<x)=true:=bS h2
   rw[aL (show AP 91=some yl from rfl) rfl]
   simp only[go_sem,H0,NC,hd,pg,simprocAttr]
  ·rw[aq h2]
   have pg:decide (y<x)=false:=ch h2
   rw[aL (show AP 91=some yl from rfl) rfl]
   simp only[go_sem,H0,NC,hd,pg,simprocAttr]
def kT:List Int→List Int→Int
 |[],[]=>0
 |[],_::_=>-1
 |_::_,[]=>1
 |x::a,y::b=>if tf x y=0 then kT a b else tf x y
theorem I8 {x y:Int}:tf x y=0↔x=y:=by unfold tf;split<;>(try split)<;>omega
theorem Ym:∀{a b:List Int},kT a b=0↔a=b
 |[],[]=>by simp[kT]
 |[],_::_=>by simp[kT]
 |_::_,[]=>by simp[kT]
 | x :: a, y :: b => by
  simp only[kT,xP]
  by_cases h:tf x y=0
  ·rw[ak h,Ym,I8.1 h];simp
  ·rw[aq h]
   exact⟨fun e=>absurd e h,fun e=>absurd (I8.2 e.1) h⟩
theorem atT {a b:List Int} {o1 o2:Own} {e1 e2:Nat} (h1:a=[]∨e1=1) (h2:b=[]∨e2=1) (la:(a.length:Int)<1000000) (lb:(b.length:Int)<1000000):
  aw AP (.fn 67) [.slice o1 e1 (a.map aD),.slice o2 e2 (b.map aD)] s=some (I (kT a b),s):=by
 have key:∀k ρ m,k≤a.length→(ρ 0=.slice o1 e1 (a.map aD)∧ρ 1=.slice o2 e2 (b.map aD)∧ρ 9=.slice o1 e1 (a.map aD)∧ρ 10=I a.length∧ρ 11=I k∧k≤b.length∧m=s.push ⟨[],[]⟩)→
   go AP afQ (.c (.loop yc)::anC) ⟨ρ,m⟩=some (I (kT (a.drop k) (b.drop k)),s):=by
  refine cq a.length _ (fun k=>some (I (kT (a.drop k) (b.drop k)),s)) ?_ ?_
  ·rintro k ρ m hk ⟨g0,g1,g9,g10,g11,OS,rfl⟩ ih
   obtain⟨x,hx⟩:=get_some hk
   have dD:e1=1:=by rcases h1 with h|h;(rw[h]at hx;simp at hx);exact h
   subst dD
   have hr:=cr (f:=aD) (o:=o1) (es:=1) hx
   have XF:a.drop k=x::a.drop (k+1):=eo hx
   have aj8:=bJ hk (show(a.length:Int)<_ by omega)
   by_cases hb:k<b.length
   ·obtain⟨y,hy⟩:=get_some hb
    have dD:e2=1:=by rcases h2 with h|h;(rw[h]at hy;simp at hy);exact h
    subst dD
    have gI:=cr (f:=aD) (o:=o2) (es:=1) hy
    have hyd:b.drop k=y::b.drop (k+1):=eo hy
    have nH:decide ((b.length:Int)≤(k:Int))=false:=ch (by omega)
    have hc:∀m:ae,aw AP (.fn 91) [I x,I y] m=some (I (tf x y),m):=fun m=>aep
    rw[XF,hyd]
    simp only[kT]
    by_cases h0:tf x y=0
    ·rw[ak h0]
     rw[h0]at hc
     simp only[go_sem,yc,g1,g9,g10,g11,aR hk,hr,gI,nH,hc,aj8,bq,fI,simprocAttr]
     refine ih _ _ ?_
     exact⟨g0,g1,g9,g10,rfl,by omega,rfl⟩
    ·rw[aq h0]
     simp only[go_sem,yc,g1,g9,g10,g11,aR hk,hr,gI,nH,hc,h0,bq,jV,simprocAttr]
   ·have nH:decide ((b.length:Int)≤(k:Int))=true:=bS (by omega)
    rw[XF,RE (as:=b) (i:=k) (by omega)]
    simp only[kT]
    simp only[go_sem,yc,g1,g9,g10,g11,aR hk,hr,nH,simprocAttr]
  ·rintro ρ m ⟨g0,g1,g9,g10,g11,OS,rfl⟩
   rw[eE]
   by_cases hb:a.length<b.length
   ·have hd:decide ((a.length:Int)<(b.length:Int))=true:=bS (by omega)
    obtain⟨y,hy⟩:=get_some hb
    rw[eo hy]
    simp only[kT]
    simp only[go_sem,yc,IL,g0,g1,g10,g11,bM,hd,simprocAttr]
   ·have hd:decide ((a.length:Int)<(b.length:Int))=false:=ch (by omega)
    rw[RE (as:=b) (i:=a.length) (by omega)]
    simp only[kT]
    simp only[go_sem,yc,IL,g0,g1,g10,g11,bM,hd,simprocAttr]
 rw[aL (show AP 67=some ET from rfl) rfl]
 simp only[go_sem,TQ,simprocAttr]
 refine key 0 _ _ (bh _) ?_
 exact⟨rfl,rfl,rfl,rfl,rfl,bh _,rfl⟩
def l3 (p q:P):Int:=if p.req=q.req then(if p.start=q.start then kT p.an.l q.an.l else p.start-q.start)else p.req-q.req
theorem I9 {p q:P}:l3 p q=0↔kP p=kP q:=by
 unfold l3 kP
 by_cases h1:p.req=q.req
 ·rw[ak h1]
  by_cases h2:p.start=q.start
  ·rw[ak h2,Ym,h1,h2];simp
  ·rw[aq h2]
   exact⟨fun e=>by omega,fun e=>by simp at e;exact absurd e.2.1 h2⟩
 ·rw[aq h1]
  exact⟨fun e=>by omega,fun e=>by simp at e;exact absurd e.1 h1⟩
theorem ZY {p q:P} (hs:Ok s) (hp:p.an.ok 1) (hq:q.an.ok 1) (lp:p.an.l.length≤1000) (lq:q.an.l.length≤1000)
  (b1:-1000000≤p.req∧p.req≤1000000) (b2:-1000000≤q.req∧q.req≤1000000) (b3:-1000000≤p.start∧p.start≤1000000) (b4:-1000000≤q.start∧q.start≤1000000):
  aw AP (.fn 31) [.agg (aj p),.agg (aj q)] s=some (I (l3 p q),s):=by
 have hz:∀m:ae,aw AP (.fn 67) [p.an.v aD,q.an.v aD] m=some (I (kT p.an.l q.an.l),m):=fun m=>atT hp.1 hq.1 (by omega) (by omega)
 have w1:IntKind.i64.wrap (p.req-q.req)=p.req-q.req:=bR (by omega) (by omega)
 have w2:IntKind.i64.wrap (p.start-q.start)=p.start-q.start:=bR (by omega) (by omega)
 unfold l3
 simp only[Sl.v]at hz
 by_cases h1:p.req=q.req
 ·rw[ak h1]
  have d1:decide (p.req=q.req)=true:=bS h1
  by_cases h2:p.start=q.start
  ·rw[ak h2]
   have d2:decide (p.start=q.start)=true:=bS h2
   rw[aL (show AP 31=some yq from rfl) rfl]
   simp only[go_sem,IA,d1,d2,bq,rP,jH,hz,simprocAttr]
  ·rw[aq h2]
   have d2:decide (p.start=q.start)=false:=ch h2
   rw[aL (show AP 31=some yq from rfl) rfl]
   simp only[go_sem,IA,d1,d2,bq,rP,jH,nV,w2,simprocAttr]
 ·rw[aq h1]
  have d1:decide (p.req=q.req)=false:=ch h1
  rw[aL (show AP 31=some yq from rfl) rfl]
  simp only[go_sem,IA,d1,bq,rP,nV,w1,simprocAttr]
end
section
variable{w:W}
def zs (w:W):List P→List P→Prop
 |_,[]=>True
 |a,p::b=>dR w p a=0∧zs w (a++[p]) b
theorem abe:∀{b a:List P},(∀(j:Nat) x,b[j]? =some x→dR w x (a++b.take j)=0)→zs w a b
 |[],_,_=>trivial
 | p :: b, a, h => by
  refine⟨?_,abe fun j x hj=>?_⟩
  ·have:=h 0 p rfl;simpa using this
  ·have:=h (j+1) x hj
   rw[gL];exact this
theorem abd:∀{b a:List P} {l:List P},l=a++b→zs w a b→fZ (fun i x=>dR w x (l.take i)) a.length b=none
 |[],_,_,_,_=>rfl
 |p::b,a,l,hl,h=>by
  simp only[fZ]
  have e:l.take a.length=a:=by rw[hl,List.take_left]
  rw[e,ak h.1]
  have:=abd (b:=b) (a:=a++[p]) (l:=l) (by rw[hl,gL];rfl) h.2
  rw[ck]at this
  exact this
theorem ad5 {l:List P} (h:zs w [] l):fu w l=(0,0):=by
 have:=abd (b:=l) (a:=[]) (l:=l) rfl h
 unfold fu
 rw[show([]:List P).length=0 from rfl]at this
 rw[this]
theorem aqz {p:P} {a:List P} (h:dR w p a=0):iB a<p.req∧cS w p a=false:=by
 unfold dR at h
 by_cases c1:wi p.req 0 (w.rs.l.length-1)=true
 ·rw [ak c1] at h
  by_cases c2:iB a<p.req
  ·refine⟨c2,?_⟩
   rw[ak c2]at h
   by_cases c3:wi p.start (w.rq p.req).lo ((w.rq p.req).hi+1-(w.rq p.req).len)=true
   ·rw [ak c3] at h
    by_cases c4:(p.an.l.length:Int)=(w.rq p.req).need
    ·rw[ak c4]at h
     by_cases c5:eQ (w.rq p.req) (-1) p.an.l=0
     ·rw[ak c5]at h
      by_cases c6:(p.an.l.any fun a=>!cU w a p.start (w.rq p.req).len)=true
      ·rw[ak c6]at h;exact absurd h (by decide)
      ·rw[aq c6]at h
       cases hc:cS w p a with
       |false=>rfl
       |true=>rw[hc]at h;exact absurd h (by decide)
     ·rw[aq c5]at h;exact absurd h c5
    ·rw[aq c4]at h;exact absurd h (by decide)
   ·rw[aq c3]at h;exact absurd h (by decide)
  ·rw[aq c2]at h;exact absurd h (by decide)
 ·rw[aq c1]at h;exact absurd h (by decide)
theorem anW {a b:List P} (h:b≠[]):iB (a++b)=iB b:=by
 unfold iB
 rw[List.getLast?_append,List.getLast?_eq_some_getLast h];rfl
theorem abf:∀{b a:List P},zs w a b→b≠[]→iB a+b.length<w.rs.l.length
 |[],_,_,h=>absurd rfl h
 | p :: b, a, h, _ => by
  have h1:=(aqz h.1).1
  have h2:=Zh h.1
  by_cases hb:b=[]
  ·subst hb;simp;omega
  ·have:=abf h.2 hb
   rw[anW (by simp)]at this
   have e:iB [p]=p.req:=rfl
   rw[e]at this
   simp only[dJ]
   omega
theorem auc (hw:Wk w) {l:List P} (h:zs w [] l):l.length≤12:=by
 have et:=hw.v.rl
 by_cases hl:l=[]
 ·subst hl;simp
 ·have:=abf h hl
  have e:iB ([]:List P)=-1:=rfl
  rw[e]at this
  omega
theorem Sv {r:R}:∀{g:List Int} {k:Int},g.Pairwise (· <·)→(∀a∈g,a∈r.an.l∧k<a)→eQ r k g=0
 |[],_,_,_=>rfl
 |a::t,k,hp,h=>by
  have ha:=h a (by simp)
  have hm:(r.an.l.any fun b=>decide (a=b))=true:=fS.2 ⟨a,ha.1,by simp⟩
  simp only[eQ]
  rw[ak hm,ak ha.2]
  exact Sv (RC hp) fun b hb=>⟨(h b (gP _ hb)).1,abr hp hb⟩
theorem aqA (hw:Wk w) {i:Int} (h0:0≤i) (h1:i<w.rs.l.length) {x:P} (hx:x∈cY w i) {a:List P} (hl:iB a<i) (hc:cS w x a=false):dR w x a=0:=by
 obtain⟨dE,hr,qS,xf,hn,_,jy,cp⟩:=lL hw h0 h1 hx
 have hq:=hw.rq h0 h1
 unfold dR
 rw[hr]
 rw[ak (iW.2 ⟨h0,by omega⟩),ak hl,ak (iW.2 ⟨qS,by omega⟩),ak hn]
 have Be:eQ (w.rq i) (-1) x.an.l=0:=Sv (hq.CK.sublist jy) fun b hb=>⟨jy.subset hb,by have:=(hq.s9 b (jy.subset hb)).1;omega⟩
 have fF:¬(x.an.l.any fun a=>!cU w a x.start (w.rq i).len)=true:=by
  rw[fS]
  rintro⟨b,hb,h⟩
  rw[cp b hb]at h;exact absurd h (by decide)
 rw[ak Be,aq fF,hc]
 rfl
end
section
variable{w:W}
theorem aqN {i st:Int} (h0:0≤i) (h1:i<w.rs.l.length):mr (cW w) i st=mr w i st:=by
 unfold mr tR
 rw[yk h0 h1]
 simp only[YT]
 rfl
theorem Zr {i:Int} (h0:0≤i) (h1:i<w.rs.l.length):∀{n:Nat} {st:Int},jX (cW w) i st n=jX w i st n
 |0,_=>rfl
 |n+1,st=>by simp only[jX];rw[aqN h0 h1,Zr h0 h1]
theorem aqQ {i:Int} (h0:0≤i) (h1:i<w.rs.l.length):cY (cW w) i=cY w i:=by
 unfold cY
 rw[Zr h0 h1,yk h0 h1];rfl
theorem aqL (hw:Wk w) {l:List P} {i:Int} (h0:0≤i) (h1:i<w.rs.l.length) (hl:∀x∈l,0≤x.req∧x.req<w.rs.l.length):cd (cW w) (l.map cP) i=cd w l i:=by
 unfold cd
 rw[aqQ h0 h1]
 apply Hi
 intro x hx
 obtain⟨dE,hr,_,_,_,Be,_⟩:=lL hw h0 h1 hx
 have oE:cP x=x:=by
  unfold cP;rw[←Be]
 have:=UK (w:=w) (p:=x) (l:=l) dE.r0 dE.r1 hl
 rw[oE]at this
 rw[this]
end
theorem Yl:∀{a b c:List Int},lexB a b=true→lexB b c=true→lexB a c=true
 |[],_,[],_,h=>by cases ‹List Int› <;>simp[lexB]at h
 |[],_,_::_,_,_=>rfl
 |_::_,[],_,h,_=>by simp[lexB]at h
 |x::a,y::b,[],_,h=>by simp[lexB]at h
 | x :: a, y :: b, z :: c, h1, h2 => by
  simp only[lexB]at h1 h2⊢
  by_cases eH:x=y
  ·subst eH
   rw[ak rfl]at h1
   by_cases qV:x=z
   ·subst qV
    rw[ak rfl]at h2⊢
    exact Yl h1 h2
   ·rw[aq qV]at h2⊢;exact h2
  ·rw[aq eH,dx]at h1
   by_cases qV:y=z
   ·subst qV
    rw[aq eH];simpa using h1
   ·rw[aq qV,dx]at h2
    rw[aq (by omega)];simp;omega
theorem Kx:∀{a b:List Int},lexB a b=false→lexB b a=false→a=b
 |[],[],_,_=>rfl
 |[],_::_,h,_=>by simp[lexB]at h
 |_::_,[],_,h=>by simp[lexB]at h
 | x :: a, y :: b, h1, h2 => by
  simp only[lexB]at h1 h2
  by_cases eH:x=y
  ·subst eH
   rw[ak rfl]at h1 h2
   rw[Kx h1 h2]
  ·rw[aq eH,qv]at h1
   rw[aq (fun e=>eH (sR e)),qv]at h2
   omega
theorem Ob:∀{k:Nat} {l:List Int},l.Pairwise (· <·)→(bd k l).Pairwise fun a b=>lexB a b=true
 |0,_,_=>by simp[bd]
 |_+1,[],_=>by simp[bd]
 | k + 1, x :: r, h => by
  simp only[bd]
  rw[ki]
  refine⟨?_,Ob (RC h),?_⟩
  ·rw[um]
   refine(Ob (k:=k) (RC h)).imp fun gB=>?_
   simp only[lexB,bZ];exact gB
  ·intro a ha b hb
   obtain⟨g,hg,rfl⟩:=cC.1 ha
   have cu:=tt hb
   cases b with
   |nil=>simp at cu
   |cons y t=>
    have hy:y∈r:=(A3 hb).subset (by simp)
    have eH:=abr h hy
    simp only[lexB]
    rw[aq (by omega)];simpa using eH
section
variable{w:W}
theorem P4 {x:Int} {a b:List Int}:lexB (x::a) (x::b)=lexB a b:=by simp only[lexB,bZ]
theorem aqP {i st:Int} (hq:(w.rq i).an.l.Pairwise (· <·)):(mr w i st).Pairwise fun a b=>lexB (kP a) (kP b)=true:=by
 unfold mr
 rw[um]
 refine(Ob (List.Pairwise.sublist Lp hq)).imp fun gB=>?_
 show lexB (i::st::_) (i::st::_)=true
 rw[P4,P4];exact gB
theorem Zu {i:Int} (hq:(w.rq i).an.l.Pairwise (· <·)):∀{n:Nat} {st:Int},(jX w i st n).Pairwise fun a b=>lexB (kP a) (kP b)=true
 |0,_=>List.Pairwise.nil
 |n+1,st=>by
  simp only[jX]
  rw[ki]
  refine⟨aqP hq,Zu hq,?_⟩
  intro a ha b hb
  obtain⟨t,h1,_,h3⟩:=Qx hb
  obtain⟨g,_,rfl⟩:=cC.1 ha
  obtain⟨g2,_,rfl⟩:=cC.1 h3
  show lexB (i::st::_) (i::t::_)=true
  rw[P4]
  simp only[lexB]
  rw[aq (by omega)];simp;omega
theorem aqX (hw:Wk w) {i:Int} (h0:0≤i) (h1:i<w.rs.l.length):(cY w i).Pairwise fun a b=>lexB (kP a) (kP b)=true:=Zu (hw.rq h0 h1).CK
end
def cg:List P→List P→Bool
 |[],[]=>false
 |[],_::_=>true
 |_::_,[]=>false
 |x::r,y::t=>if kP x=kP y then cg r t else lexB (kP x) (kP y)
theorem Dw:∀{l:List P},cg l l=false
 |[]=>rfl
 |x::r=>by simp only[cg,bZ];exact Dw
theorem Ak:∀{a b c:List P},cg a b=true→cg b c=true→cg a c=true
 |[],_,[],_,h=>by cases ‹List P› <;>simp[cg]at h
 |[],_,_::_,_,_=>rfl
 |_::_,[],_,h,_=>by simp[cg]at h
 |x::a,y::b,[],_,h=>by simp[cg]at h
 | x :: a, y :: b, z :: c, h1, h2 => by
  simp only[cg]at h1 h2⊢
  by_cases eH:kP x=kP y
  ·rw[ak eH]at h1
   rw[eH]
   by_cases qV:kP y=kP z
   ·rw[ak qV]at h2⊢
    exact Ak h1 h2
   ·rw[aq qV]at h2⊢;exact h2
  ·rw[aq eH]at h1
   by_cases qV:kP y=kP z
   ·rw[aq (by rw[←qV];exact eH),←qV];exact h1
   ·rw[aq qV]at h2
    have h3:=Yl h1 h2
    rw[aq (by intro e;rw[e,GA]at h3;exact absurd h3 (by decide))];exact h3
theorem IW:∀{a b:List P},cg a b=false→cg b a=false→a.map kP=b.map kP
 |[],[],_,_=>rfl
 |[],_::_,h,_=>by simp[cg]at h
 |_::_,[],_,h=>by simp[cg]at h
 | x :: a, y :: b, h1, h2 => by
  simp only[cg]at h1 h2
  by_cases eH:kP x=kP y
  ·rw[ak eH]at h1
   rw[ak (sR eH)]at h2
   rw[gO,gO,eH,IW h1 h2]
  ·rw[aq eH]at h1
   rw[aq (fun e=>eH (sR e))]at h2
   exact absurd (Kx h1 h2) eH
theorem IV:∀{a b c:List P},cg (a++b) (a++c)=cg b c
 |[],_,_=>rfl
 |x::a,b,c=>by simp only[kg,cg,bZ];exact IV
theorem acL {a c:List P} (h:c≠[]):cg a (a++c)=true:=by
 have:=IV (a:=a) (b:=[]) (c:=c)
 rw[iG]at this
 rw[this]
 cases c with
 |nil=>exact absurd rfl h
 |cons _ _=>rfl
theorem aen {p q:P}:kq p q=0↔kP p=kP q:=by
 refine⟨fun h=>?_,NB⟩
 unfold kq at h
 cases h1:lexB (kP p) (kP q)with
 |true=>rw[h1,ak rfl]at h;exact absurd h (by decide)
 |false=>
  rw[h1,aq (by decide)]at h
  cases h2:lexB (kP q) (kP p)with
  |true=>rw[h2,ak rfl]at h;exact absurd h (by decide)
  |false=>exact Kx h1 h2
def jb (a b:List P) (i:Int):Bool:=!decide ((bw a i).map kP=(bw b i).map kP)
section
variable{s:ae} {w:W}
theorem Ze {l:List P} {i:Int} {p:P} (h:bw l i=some p):p∈l∧p.req=i:=by
 unfold bw at h
 exact⟨RS h,by have:=Lq h;simpa using this⟩
theorem aa6:cZ.an.ok 1:=⟨.inl rfl,.inr (.inr ⟨rfl,rfl⟩)⟩
structure uq (l:List P):Prop where
 len:l.length≤1000
 ok:∀p∈l,p.an.ok 1∧p.an.l.length≤1000
 b:∀p∈l,(-1000000≤p.req∧p.req≤1000000)∧-1000000≤p.start∧p.start≤1000000
theorem arF {a b:List P} {o1 o2:Own} {e1 e2:Nat} {i:Int} (hs:Ok s) (h1:a=[]∨e1=3) (h2:b=[]∨e2=3) (la:a.length≤1000) (lb:b.length≤1000) (oa:∀p∈a,p.an.ok 1∧p.an.l.length≤1000) (ob:∀p∈b,p.an.ok 1∧p.an.l.length≤1000):
  aw AP (.fn 72) [.slice o1 e1 (a.map aj),.slice o2 e2 (b.map aj),I i] s=some (B (jb a b i),s):=by
 have p1:∀m:ae,aw AP (.fn 39) [.slice o1 e1 (a.map aj),I i] m=some (I (eG (fun p:P=>decide (p.req=i)) a),m):=fun m=>QE h1 (by omega)
 have p2:∀m:ae,aw AP (.fn 39) [.slice o2 e2 (b.map aj),I i] m=some (I (eG (fun p:P=>decide (p.req=i)) b),m):=fun m=>QE h2 (by omega)
 have fa:=Fm (p:=fun p:P=>decide (p.req=i)) (l:=a)
 have fb:=Fm (p:=fun p:P=>decide (p.req=i)) (l:=b)
 have q1:decide ((-1:Int)<0)=true:=rfl
 have q2:decide ((0:Int)≤-1)=false:=rfl
 have q3:∀k:Nat,decide ((k:Int)<0)=false:=fun k=>by simp
 have q4:∀k:Nat,decide ((0:Int)≤(k:Int))=true:=fun k=>by simp
 rcases fa with⟨f1,f2⟩|⟨ka,pa,f1,f3,f2⟩
 ·have ea:bw a i=none:=f1
  rcases fb with⟨g1,g2⟩|⟨kb,pb,g1,g3,g2⟩
  ·have eb:bw b i=none:=g1
   have ju:jb a b i=false:=by unfold jb;rw[ea,eb];simp
   rw[f2]at p1
   rw[g2]at p2
   rw[ju]
   rw[aL (show AP 72=some wq from rfl) rfl]
   simp only[go_sem,C9,p1,p2,simprocAttr]
  ·have eb:bw b i=some pb:=g1
   have ju:jb a b i=true:=by unfold jb;rw[ea,eb];simp
   rw[f2]at p1
   rw[g2]at p2
   rw[ju]
   rw[aL (show AP 72=some wq from rfl) rfl]
   simp only[go_sem,C9,p1,p2,q4,simprocAttr]
 ·have ea:bw a i=some pa:=f1
  rcases fb with⟨g1,g2⟩|⟨kb,pb,g1,g3,g2⟩
  ·have eb:bw b i=none:=g1
   have ju:jb a b i=true:=by unfold jb;rw[ea,eb];simp
   rw[f2]at p1
   rw[g2]at p2
   rw[ju]
   rw[aL (show AP 72=some wq from rfl) rfl]
   simp only[go_sem,C9,p1,p2,q3,q4,simprocAttr]
  ·have eb:bw b i=some pb:=g1
   have ju:jb a b i=!decide (kq pa pb=0):=by unfold jb;rw[ea,eb];simp[aen]
   rw[f2]at p1
   rw[g2]at p2
   rw[ju]
   have kN:e1=3:=by rcases h1 with h|h;(rw[h]at f3;simp at f3);exact h
   have jv:e2=3:=by rcases h2 with h|h;(rw[h]at g3;simp at g3);exact h
   subst kN
   subst jv
   have r1:=cr (o:=o1) (es:=3) (f:=aj) f3
   have r2:=cr (o:=o2) (es:=3) (f:=aj) g3
   have ma:=bK f3
   have mb:=bK g3
   have hc:∀m:ae,Ok m→aw AP (.fn 43) [.agg (aj pa),.agg (aj pb)] m=some (I (kq pa pb),m):=fun m hm=>QF hm (oa pa ma).1 (ob pb mb).1 (oa pa ma).2 (ob pb mb).2
   have hc:=fun r=>hc (s.push r) (hs.push r)
   simp only[aj,Sl.v]at r1 r2 hc
   rw[aL (show AP 72=some wq from rfl) rfl]
   simp only[go_sem,C9,p1,p2,q3,r1,r2,hc,bq,rP,simprocAttr]
end
section
variable{s:ae} {w:W}
theorem uq.of (hw:Wk w) {l:List P} (hl:iH l) (h:∀p∈l,bW w p):uq l:=
 ⟨by have:=hl.len;omega,fun p hp=>⟨(hl.ok p hp).1,by have:=(hl.ok p hp).2;omega⟩,fun p hp=>by
  have h1:=h p hp
  have:=h1.r0;have:=h1.r1;have:=h1.s0;have:=h1.s1;have:=hw.v.rl
  omega⟩
theorem ad0 {a b:List P} {i:Int}:jb (a.map cP) (b.map cP) i=jb a b i:=by
 have h:∀l:List P,(bw (l.map cP) i).map kP=(bw l i).map kP:=fun l=>by
  unfold bw
  rw[List.find?_map,LJ]
  rfl
 unfold jb
 rw[h,h]
end
theorem Gz {d b off es n cap:Nat}:mm false (.aN d b off es n cap)=some (I (n:Int)):=rfl
theorem Ku {d b es n:Nat} {i:Nat} (h:i<n):jS none es (.aN d b 0 es n 0) (I (i:Int))=some (.ptr d b (0+i*es)):=by
 have h1:idx (I (i:Int)) n=some i:=by simp[idx];omega
 simp[jS,h1]
theorem VM {l:List P} {k:Nat} {p:P} (h:l[k]? =some p):qu (0+k*3) 3 (ct l)=some (aj p):=by
 obtain⟨A,B,rfl,rfl⟩:∃A B,l=A++p::B∧A.length=k:=by
  obtain⟨hk,he⟩:=aY.1 h
  refine⟨l.take k,l.drop (k+1),?_,by rw[fq];omega⟩
  rw[←he,List.getElem_cons_drop,Hv]
 have hlen:=nx (l:=A++p::B)
 rw[ck,dJ]at hlen
 rw[Je,ak (by omega),yE,Fo,fK,←nx,List.drop_left]
 rfl
structure Cell (X:List AV→ae) (d b:Nat):Prop where
 box:∀r,(X r).box d b=some r
 set:∀r r',(X r).dG d b r'=X r'
 ro:∀r,(X r).ro≤d
 ok:∀r,Ok (X r)
section
variable{X:List AV→ae} {d b:Nat}
theorem Cell.lt (h:Cell X d b) (r:List AV):d<(X r).ag.length:=by
 apply qm
 intro hn
 have:=h.box r
 rw[ae.box,nZ (by omega)]at this;simp at this
theorem Cell.push (h:Cell X d b) (q:Rec):Cell (fun r=>(X r).push q) d b:=by
 refine⟨fun r=>fN (h.box r) q,fun r r'=>?_,h.ro,fun r=>(h.ok r).push q⟩
 rw[←h.set r r']
 have:=h.lt r
 simp only[ae.dG,ae.br,ae.push,KB this]
theorem Cell.store (h:Cell X d b) {q:Rec} {row:List AV} {off n:Nat} {y:AV} (hc:y.cells.all AV.bu=true) (hf:((X row).push q).fitAll d y.cells=some (y.cells,(X row).push q)) (hn:y.cells.length=n) (ho:off+n≤row.length):
  ((X row).push q).store n (.ptr d b off) y=some ((X (setCells row off y.cells)).push q):=by
 have aC:=h.lt row
 have aB:¬d=((X row).push q).cur:=by rw[fw];omega
 have bf:((X row).push q).ro≤d:=h.ro row
 have dp:((X row).push q).box d b=some row:=(h.push q).box row
 have bX:((X row).push q).dG d b (setCells row off y.cells)=(X (setCells row off y.cells)).push q:=(h.push q).set row (setCells row off y.cells)
 simp only[ae.store,bf,hn,hc,nr,bZ,aB,dt,hf,dp,ho,bX]
end
theorem aae {P Q R ys:List AV} (h:Q.length=ys.length):setCells (P++(Q++R)) P.length ys=P++(ys++R):=by
 induction Q generalizing P ys with
 |nil=>
  cases ys with
  |nil=>rfl
  |cons y t=>simp at h
 | cons x q ih =>
  cases ys with
  |nil=>simp at h
  |cons y t=>
   simp only[setCells,kg]
   rw[oK]
   have:=ih (P:=P++[y]) (ys:=t) (by simpa using h)
   simp only[ck,dJ,iY,gL,kg,kh,fK]at this
   exact this
theorem Cell.ata {X:List AV→ae} {d b:Nat} (h:Cell X d b) {q:Rec} {A R:List P} {r p:P} (hp:p.an.ok 1) {n:Nat} (hn:n=A.length):
  ((X (ct (A++r::R))).push q).store 3 (.ptr d b (0+n*3)) (.agg (aj p))=some ((X (ct (A++p::R))).push q):=by
 subst hn
 have aP:(aj p).all AV.isClosed=true:=by
  simp only[aj,vG,Co,sQ]
  have:(p.an.v aD).isClosed=true:=by rcases hp.2 with h|h|h<;>simp[Sl.v,AV.isClosed,AV.iT,h]
  rw[this];rfl
 have hl:=nx (l:=A++r::R)
 rw[ck,dJ]at hl
 have:=h.store (q:=q) (row:=ct (A++r::R)) (off:=0+A.length*3) (n:=3) (y:=.agg (aj p)) rfl (Jt aP) rfl (by omega)
 rw[this]
 have e:setCells (ct (A++r::R)) (0+A.length*3) (aj p)=ct (A++p::R):=by
  rw[yE,Fo,yE,Fo,fK,←nx]
  exact aae rfl
 rw[show(AV.agg (aj p)).cells=aj p from rfl,e]
section
variable{s:ae} {w:W}
theorem at3 {l:List P} {d b:Nat} {g:FuncId} {caps:List AV} {p:P→Bool} (hb:s.box d b=some (ct l)) (hl:(l.length:Int)<9223372036854775808)
  (hg:∀a∈l,∀r,aw AP (.fn g) (.agg (aj a)::caps) (s.push r)=some (B (p a),s.push r)):aw AP (.fn 75) [.aN d b 0 3 l.length 0,.fn g [] caps] s=some (I (eG p l),s):=by
 have key:∀k ρ m,k≤l.length→(ρ 0=.aN d b 0 3 l.length 0∧ρ 1=.fn g [] caps∧ρ 7=I l.length∧ρ 8=I k∧(∀j y,j<k→l[j]? =some y→p y=false)∧m=s.push ⟨[],[]⟩)→go AP Vu (.c (.loop yd)::X2) ⟨ρ,m⟩=some (I (eG p l),s):=by
  refine cq l.length _ _ ?_ ?_
  ·rintro k ρ m hk ⟨h0,h1,h7,h8,hp,rfl⟩ ih
   obtain⟨a,ha⟩:=get_some hk
   have hr:=Ku (d:=d) (b:=b) (es:=3) hk
   have J5:=VM ha
   have Ox:∀r,(s.push r).box d b=some (ct l):=fun r=>fN hb r
   simp only[go_sem,yd,h0,h1,h7,h8,aR hk,hr,Ox,J5,hg a (bK ha),bJ hk hl,simprocAttr]
   cases fG:p a with
   |true=>
    simp only[fY]
    rw[uI ha fG hp]
   |false=>
    simp only[iw]
    refine ih _ _ ?_
    refine⟨h0,h1,h7,rfl,fun j y hj hy=>?_,rfl⟩
    by_cases e:j=k
    ·subst e;rw[ha]at hy;injection hy with hy;rw[←hy];exact fG
    ·exact hp j y (by omega) hy
  ·rintro ρ m ⟨h0,h1,h7,h8,hp,rfl⟩
   simp only[go_sem,yd,IP,h7,h8,bM,simprocAttr]
   rw[wH hp]
 rw[aL (show AP 75=some AA from rfl) rfl]
 simp only[go_sem,Nl,Gz,simprocAttr]
 exact key 0 _ _ (bh _) ⟨rfl,rfl,rfl,rfl,fun j y hj=>absurd hj (dk _),rfl⟩
def oU (n:Nat):List AV:=(List.replicate n [I 0,I 0,AV.slice .aA 0 []]).flatten
theorem VN {n:Nat}:(oU n).length=n*3:=by simp[oU]
theorem agl {n:Nat}:oU n=ct (List.replicate n cZ):=by
 unfold oU ct
 rw[List.map_replicate]
 rfl
theorem ad7 {d b n i:Nat} (h:i<n):iU (.sl 3) (.aN d b 0 3 n 0) (some (I (i:Int))) none none=some (.aN d b (0+i*3) 3 (n-i) (n-i)):=by
 have h1:asNat (AV.v (.int .i64 (i:Int))) n=some i:=by simp[asNat];omega
 have h2:¬n=i:=by omega
 simp only[iU,bZ,qY,lB,Nat.max_zero,rB,eB,dt,eL,kC,h1,dP,h2]
theorem ad8 {d b n i:Nat} (h:i<n):iU (.sl 3) (.aN d b 0 3 n 0) none (some (I (i:Int))) none=some (.aN d b (0+0*3) 3 i n):=by
 have h1:asNat (AV.v (.int .i64 (i:Int))) n=some i:=by simp[asNat];omega
 have h2:¬n=0:=by omega
 simp only[iU,bZ,qY,lB,Nat.max_zero,eL,kC,h1,dP,h2,dt,Se]
theorem agd {α:Type} {p:α→Bool} {l:List α} {x y:α} {k j:Nat} (h1:l.find? p=some x) (h3:eG p l=k) (hj:j<k) (hy:l[j]? =some y):p y=false:=by
 cases hp:p y with
 |false=>rfl
 | true =>
  exfalso
  obtain⟨j0,y0,q1,q2,q3,q4⟩:∃j0 y0,l[j0]? =some y0∧p y0=true∧j0≤j∧∀i z,i<j0→l[i]? =some z→p z=false:=by
   induction j using Nat.strongRecOn generalizing y with
   | _ j ih =>
    by_cases dT:∀i z,i<j→l[i]? =some z→p z=false
    ·exact⟨j,y,hy,hp,aH _,dT⟩
    ·simp only[Classical.not_forall]at dT
     obtain⟨i,z,hi,hz,Xh⟩:=dT
     obtain⟨j0,y0,q1,q2,q3,q4⟩:=ih i hi (by omega) hz (by simpa using Xh)
     exact⟨j0,y0,q1,q2,by omega,q4⟩
  have:=uI q1 q2 q4
  rw[this]at h3
  omega
theorem atZ {X : List AV → ae} {d b : Nat} {l : List P} {g : FuncId} {caps : List AV} {f : P → Bool} (hX : Cell X d b) (hl : l.length < 1000000) (eN : 0 < l.length) (bH : ∀ p ∈ l, p.an.ok 1)
    (hg:∀x∈l,∀row q,aw AP (.fn g) (.agg (aj x)::caps) ((X row).push q)=some (B (f x),(X row).push q))
    (hg2:∀x∈l,∀row q q',aw AP (.fn g) (.agg (aj x)::caps) (((X row).push q).push q')=some (B (f x),((X row).push q).push q')):
    ∃cap R,aw AP (.fn 62) [.aN d b 0 3 l.length 0,.fn g [] caps] (X (ct l))=some (.aN d b 0 3 (l.filter fun x=>!f x).length cap,X (ct ((l.filter fun x=>!f x)++R)))∧(∀p∈R,p.an.ok 1)∧(cap=0→R=[]):=by
  have cT:∀row q off n cap,ed ((X row).push q) (.aN d b off 3 n cap)=some (.aN d b off 3 n cap):=fun row q off n cap=>by
    have h1:=hX.lt row
    have h2:¬d=((X row).push q).cur:=by rw[fw];omega
    rw[show ed ((X row).push q) (.aN d b off 3 n cap)=eD ((X row).push q) (.aN d b off 3 n cap)from rfl]
    simp only[eD,h2,dt]
  have bG:∀q,aw AP (.fn 75) [.aN d b 0 3 l.length 0,.fn g [] caps] ((X (ct l)).push q)=some (I (eG f l),(X (ct l)).push q):=fun q=>at3 ((hX.push q).box _) (by omega) fun a ha r=>hg2 a ha _ q r
  rcases Fm (p:=f) (l:=l)with⟨h1,h2⟩|⟨k,x,h1,h2,h3⟩
  · -- none is deleted
    have wW:(l.filter fun x=>!f x)=l:=Lo.2 fun x hx=>by
      have:=Hj.1 h1 x hx
      simpa using this
    rw[h2]at bG
    rw[wW]
    refine⟨0,[],?_,(fun p h=>absurd h (by simp)),fun _=>rfl⟩
    rw[iG]
    have lD:decide ((-1:Int)=-1)=true:=by decide
    rw[aL (show AP 62=some yr from rfl) rfl]
    generalize ct l=Z at*
    simp only[go_sem,IM,bG,cT,simprocAttr]
  · have hk : k < l.length := (aY.1 h2).1
    have hfx:f x=true:=Lq h1
    rw[h3]at bG
    have aie:(l.take k).filter (fun x=>!f x)=l.take k:=Lo.2 fun y hy=>by
      obtain⟨j,hj⟩:=n5 hy
      have u0:j<k:=by have:=(aY.1 hj).1;rw[fq]at this;omega
      rw[List.getElem?_take_of_lt u0]at hj
      have:=agd h1 h3 u0 hj
      simp[this]
    have hlen:∀j,((l.take j).filter fun x=>!f x).length≤j:=fun j=>jK (lR _ _) (by rw[fq];omega)
    have key:∀(j:Nat) ρ m,j≤l.length→(ρ 0=.aN d b 0 3 l.length 0∧ρ 1=.fn g [] caps∧ρ 6=I j∧ρ 5=I ((l.take j).filter fun x=>!f x).length∧((l.take j).filter fun x=>!f x).length<j∧
        ∃R bx,((l.take j).filter fun x=>!f x).length+R.length=j∧(∀p∈R,p.an.ok 1)∧m=(X (ct (((l.take j).filter fun x=>!f x)++(R++l.drop j)))).push ⟨bx,[]⟩)→
        ∃R,go AP afR (.c (.loop Dv)::anD) ⟨ρ,m⟩=some (.aN d b 0 3 (l.filter fun x=>!f x).length l.length,X (ct ((l.filter fun x=>!f x)++R)))∧∀p∈R,p.an.ok 1:=by
      intro j
      obtain⟨t,ht⟩:∃t,t=l.length-j:=⟨_,rfl⟩
      induction t generalizing j with
      | zero =>
        rintro ρ m hj ⟨g0,g1,g6,g5,aC,R,bx,hR,Fy,rfl⟩
        obtain rfl:j=l.length:=by omega
        rw[ig]at g5 aC hR⊢
        rw[eE,iG]
        generalize hA:(l.filter fun x=>!f x)=A at*
        have hd:decide (((l.length:Nat):Int)<(l.length:Int))=false:=by simp
        have qS:=ad7 (d:=d) (b:=b) (n:=l.length) (i:=A.length) aC
        have xf:=ad8 (d:=d) (b:=b) (n:=l.length) (i:=A.length) aC
        have hz : wz ((X (ct (A ++ R))).push ⟨bx, []⟩) [I 0, I 0, .slice .aA 0 []] (.aN d b (0 + A.length * 3) 3 (l.length - A.length) (l.length - A.length)) = some (.tuple [], (X (ct (A ++ List.replicate R.length cZ))).push ⟨bx, []⟩) := by
          have aB:¬l.length-A.length=0:=by omega
          have Wm:l.length-A.length=R.length:=by omega
          have bX:=hX.store (q:=⟨bx,[]⟩) (row:=ct (A++R)) (off:=0+A.length*3) (n:=(l.length-A.length)*3) (y:=.agg (oU (l.length-A.length)))
            (by show (oU _).all AV.bu = true
                unfold oU
                rw[jJ]
                intro c hc
                obtain⟨r,hr,jg⟩:=uj.1 hc
                rw[RG hr]at jg
                rcases eF.1 jg with rfl|jg
                · rfl
                rcases eF.1 jg with rfl|jg
                · rfl
                rw[dO.1 jg];rfl)
            (Jt (by
                show(oU _).all AV.isClosed=true
                unfold oU
                rw[jJ]
                intro c hc
                obtain⟨r,hr,jg⟩:=uj.1 hc
                rw[RG hr]at jg
                rcases eF.1 jg with rfl|jg
                · rfl
                rcases eF.1 jg with rfl|jg
                · rfl
                rw[dO.1 jg];rfl))
            VN (by rw[nx,ck];omega)
          have e:setCells (ct (A++R)) (0+A.length*3) (oU (l.length-A.length))=ct (A++List.replicate R.length cZ):=by
            have:=aae (P:=ct A) (Q:=ct R) (R:=[]) (ys:=oU (l.length-A.length)) (by rw[nx,VN,Wm])
            rw[iG,iG,nx]at this
            rw[yE,fK,this,Wm,agl,yE]
          rw[show(AV.agg (oU (l.length-A.length))).cells=oU (l.length-A.length)from rfl,e]at bX
          have WO:(List.replicate (l.length-A.length) [I 0,I 0,AV.slice .aA 0 []]).flatten=oU (l.length-A.length):=rfl
          simp only[wz,aB,dt,dJ,iY,fK,Nat.reduceAdd,bZ,WO]at bX⊢
          rw[bX];rfl
        refine⟨List.replicate R.length cZ,?_,fun p hp=>by rw[RG hp];exact aa6⟩
        generalize ct (A++List.replicate R.length cZ)=Z2 at*
        generalize ct (A++R)=Z1 at*
        rw[go_loop]
        simp only[go_sem,Dv,Nj,g0,g6,g5,Gz,hd,qS,xf,hz,cT,simprocAttr]
      | succ t ih =>
        rintro ρ m hj ⟨g0,g1,g6,g5,aC,R,bx,hR,Fy,rfl⟩
        have hU:j<l.length:=by omega
        obtain⟨y,hy⟩:=get_some hU
        have Ki:=bK hy
        have qc:=fi hy
        have OH:=eo hy
        have jP:=hg y Ki
        have fe:=bH y Ki
        have jz:=bJ hU (show(l.length:Int)<_ by omega)
        have uZ:=Ku (d:=d) (b:=b) (es:=3) hU
        generalize hA:((l.take j).filter fun x=>!f x)=A at*
        have r9:qu (0+j*3) 3 (ct (A++(R++l.drop j)))=some (aj y):=by
          refine VM ?_
          rw[←gL,gM (by rw[ck];omega),ck,OH]
          rw[show j-(A.length+R.length)=0 by omega];rfl
        have dp:=fun q=>(hX.push q).box (ct (A++(R++l.drop j)))
        have oF:closeAll (aj y)=some (aj y):=by
          simp only[aj,lZ,n9,oR,Sl.close fe];rfl
        cases JO:f y with
        | true =>
          rw[JO]at jP
          have uO:((l.take (j+1)).filter fun x=>!f x)=A:=by rw[qc,ni,hA];simp[JO]
          have FQ:=ih (j+1) (by omega)
          rw[uO]at FQ
          have bX:ct (A++(R++l.drop j))=ct (A++((R++[y])++l.drop (j+1))):=by rw[OH];simp
          generalize ct (A++(R++l.drop j))=Z at*
          rw[go_loop]
          simp only[aj,Sl.v]at r9 jP
          simp only[go_sem,Dv,hX.ok,g0,g1,g6,Gz,aR hU,uZ,dp,r9,jP,jz,at_len,oK,simprocAttr]
          refine FQ _ _ (by omega) ?_
          exact⟨g0,g1,rfl,g5,by omega,R++[y],_,by rw[ck];simp;omega,(fun p hp=>by
            rcases c9.1 hp with hp|hp
            · exact Fy p hp
            · rw[dO.1 hp];exact fe),by rw[bX]⟩
        | false =>
          rw[JO]at jP
          obtain⟨r0,R',rfl⟩:∃r0 R',R=r0::R':=by
            cases R with
            |nil=>simp at hR;omega
            |cons r0 R'=>exact⟨r0,R',rfl⟩
          rw[dJ]at hR
          have uO:((l.take (j+1)).filter fun x=>!f x)=A++[y]:=by rw[qc,ni,hA];simp[JO]
          have FQ:=ih (j+1) (by omega)
          rw[uO]at FQ
          have aiR:=Ku (d:=d) (b:=b) (es:=3) (i:=A.length) (n:=l.length) (by omega)
          have Xs:=fun q=>hX.ata (q:=q) (A:=A) (r:=r0) (R:=R'++l.drop j) fe rfl
          have bX:ct (A++y::(R'++l.drop j))=ct ((A++[y])++((R'++[y])++l.drop (j+1))):=by rw[OH];simp
          have xh:=bJ (k:=A.length) (n:=l.length) (by omega) (show(l.length:Int)<_ by omega)
          rw[kg]at dp r9⊢
          generalize ct (A++y::(R'++l.drop j))=Z2 at*
          generalize ct (A++r0::(R'++l.drop j))=Z at*
          rw[go_loop]
          simp only[aj,Sl.v]at r9 jP Xs
          simp only[go_sem,Dv,hX.ok,g0,g1,g6,g5,Gz,aR hU,uZ,aiR,dp,r9,jP,jz,xh,Xs,at_len,oK,simprocAttr]
          refine FQ _ _ (by omega) ?_
          exact⟨g0,g1,rfl,by rw[ck];rfl,by rw[ck];simp;omega,R'++[y],_,by rw[ck,ck];simp;omega,(fun p hp=>by
            rcases c9.1 hp with hp|hp
            · exact Fy p (by simp[hp])
            · rw[dO.1 hp];exact fe),by rw[bX]⟩
    have hA:((l.take (k+1)).filter fun x=>!f x)=l.take k:=by rw[fi h2,ni,aie];simp[hfx]
    have tD:(l.take k).length=k:=by rw[fq];omega
    have Gi:=key (k+1)
    rw[hA,tD]at Gi
    have aB:decide ((k:Int)=-1)=false:=by simp
    have jz:=bJ hk (show(l.length:Int)<_ by omega)
    have pn:ct l=ct (l.take k++([x]++l.drop (k+1))):=by
      have:=eo h2
      rw[show[x]++l.drop (k+1)=l.drop k by rw[this];rfl,Hv]
    have:∃R,aw AP (.fn 62) [.aN d b 0 3 l.length 0,.fn g [] caps] (X (ct l))=some (.aN d b 0 3 (l.filter fun x=>!f x).length l.length,X (ct ((l.filter fun x=>!f x)++R)))∧∀p∈R,p.an.ok 1:=by
      rw[aL (show AP 62=some yr from rfl) rfl]
      generalize ct l=Z at*
      simp only[go_sem,IM,bG,jz,simprocAttr]
      refine Gi _ _ (by omega) ?_
      exact⟨rfl,rfl,rfl,rfl,by omega,[x],_,by simp,(fun p hp=>by rw[dO.1 hp];exact bH x (bK h2)),by rw[pn]⟩
    obtain⟨R,e1,e2⟩:=this
    exact⟨l.length,R,e1,e2,fun h=>by omega⟩
theorem at0 {g:FuncId} {caps:List AV}:aw AP (.fn 62) [.slice .aA 0 [],.fn g [] caps] s=some (.slice .aA 0 [],s):=by
 have bG:∀m:ae,aw AP (.fn 75) [.slice .aA 0 [],.fn g [] caps] m=some (I (-1),m):=fun m=>Rs (l:=[]) (p:=fun _=>false) (.inl rfl) (by decide) (fun a ha=>absurd ha (by simp))
 have lD:decide ((-1:Int)=-1)=true:=by decide
 rw[aL (show AP 62=some yr from rfl) rfl]
 simp only[go_sem,IM,bG,simprocAttr]
theorem aaT {q p:P} {has:Bool} {d b1 b2:Nat} (hs:Ok s) (h1:s.box d b1=some [B has]) (h2:s.box d b2=some (aj p)) (hq:q.an.ok 1) (hp:p.an.ok 1) (lq:q.an.l.length≤1000) (lp:p.an.l.length≤1000)
  (c1:-1000000≤q.req∧q.req≤1000000) (c2:-1000000≤p.req∧p.req≤1000000) (c3:-1000000≤q.start∧q.start≤1000000) (c4:-1000000≤p.start∧p.start≤1000000):
  aw AP (.fn 60) [.agg (aj q),.ptr d b1 0,.ptr d b2 0] s=some (B (has&&decide (l3 q p=0)),s):=by
 have hc:∀r,aw AP (.fn 31) [.agg (aj q),.agg (aj p)] (s.push r)=some (I (l3 q p),s.push r):=fun r=>ZY (hs.push r) hq hp lq lp c1 c2 c3 c4
 have k1:=fun r=>fN h1 r
 have k2:=fun r=>fN h2 r
 have aB:¬d=s.ag.length:=fun e=>by
  subst e
  simp only[ae.box]at h1
  rw[nZ (aH _)]at h1;simp at h1
 rw[aL (show AP 60=some EC from rfl) rfl]
 simp only[aj,Sl.v]at hc k2
 cases has with
 |true=>simp only[go_sem,M5,k1,k2,hc,iF,simprocAttr]
 |false=>simp only[go_sem,M5,k1,jZ,simprocAttr]
end
def fh (v:Nat→AV) (o:Nat→Bool) (a n:Nat):List AV:=((List.range' a n).map fun i=>[v i,B (o i)]).flatten
theorem zF {v:Nat→AV} {o:Nat→Bool}:∀{n a:Nat},(fh v o a n).length=n*2
 |0,_=>rfl
 |n+1,a=>by
  have:=zF (v:=v) (o:=o) (n:=n) (a:=a+1)
  unfold fh at this⊢
  rw[Ct,gO,sU,ck,this];simp;omega
theorem B5 {v:Nat→AV} {o:Nat→Bool} {j n:Nat} (h:j<n):fh v o 0 n=fh v o 0 j++v j::B (o j)::fh v o (j+1) (n-(j+1)):=by
 have e:n=j+(1+(n-(j+1))):=by omega
 have h1:List.range' 0 n=List.range' 0 j++List.range' j (1+(n-(j+1))):=by
  have:=List.range'_append (s:=0) (m:=j) (n:=1+(n-(j+1))) (step:=1)
  rw[oN,fK]at this
  rw[this,←e]
 unfold fh
 rw[h1,Lz 1,Ct]
 simp
theorem KZ {v v':Nat→AV} {o o':Nat→Bool} {a n:Nat} (h:∀i,a≤i→i<a+n→v i=v' i∧o i=o' i):fh v o a n=fh v' o' a n:=by
 unfold fh
 congr 1
 refine Ho fun i hi=>?_
 have:=List.mem_range'_1.1 hi
 rw[(h i this.1 this.2).1,(h i this.1 this.2).2]
def fj {α:Type} (v:Nat→α) (j:Nat) (x:α):Nat→α:=fun i=>if i=j then x else v i
theorem G7 {α:Type} {v:Nat→α} {j:Nat} {x:α}:fj v j x j=x:=ak rfl
theorem xG {α:Type} {v:Nat→α} {i j:Nat} {x:α} (h:i≠j):fj v j x i=v i:=aq h
theorem ar5 {v:Nat→AV} {o:Nat→Bool} {j n:Nat} (h:j<n):(fh v o 0 n)[0+j*2+0]? =some (v j):=by
 rw[B5 h,show 0+j*2+0=(fh v o 0 j).length by rw[zF];omega]
 simp
theorem QR {v:Nat→AV} {o:Nat→Bool} {j n:Nat} {x:AV} (h:j<n):mq (fh v o 0 n) (0+j*2+0) [x]=some (fh (fj v j x) o 0 n):=by
 rw[vr,ak (by rw[zF];simp;omega)]
 simp only[setCells]
 rw[B5 h,show 0+j*2+0=(fh v o 0 j).length by rw[zF];omega,oK,B5 (v:=fj v j x) h,G7]
 rw[KZ (v:=fj v j x) (v':=v) (o':=o) fun i _ hi=>⟨xG (by omega),rfl⟩,KZ (v:=fj v j x) (v':=v) (o':=o) (a:=j+1) fun i h1 _=>⟨xG (by omega),rfl⟩]
theorem QS {v:Nat→AV} {o:Nat→Bool} {j n:Nat} {t:Bool} (h:j<n):mq (fh v o 0 n) (0+j*2+1) [B t]=some (fh v (fj o j t) 0 n):=by
 rw[vr,ak (by rw[zF];simp;omega)]
 simp only[setCells]
 rw[B5 h,show 0+j*2+1=(fh v o 0 j).length+1 by rw[zF];omega,rk,B5 (o:=fj o j t) h,G7]
 rw[KZ (o:=fj o j t) (v':=v) (o':=o) fun i _ hi=>⟨rfl,xG (by omega)⟩,KZ (o:=fj o j t) (v':=v) (o':=o) (a:=j+1) fun i h1 _=>⟨rfl,xG (by omega)⟩]
theorem ar3 {w:W} {d n:Nat} {bi:Nat→Nat}:rj w d bi n=fh (fun i=>lM d (bi i) (cd w [] (i:Int))) (fun _=>true) 0 n:=by
 unfold rj fh
 rw[zQ]
def B7 (plan:List P) (i:Int) (x:P):Bool:=(bw plan i).isSome&&decide (l3 x ((bw plan i).getD cZ)=0)
def vi (set:List Int) (i:Int):Bool:=set.any fun a=>decide (i=a)
def iu (w:W) (plan:List P) (set:List Int) (i:Int):List P:=
 if vi set i=true then(cd w [] i).filter fun x=>!B7 plan i x else(bw plan i).toList
def lW (plan:List P) (set:List Int) (req i:Int):Bool:=
 if vi set i=true then(bw plan i).isSome&&!decide (i=req)else !(bw plan i).isSome&&!decide (i=req)
def xM (w:W) (d ab:Nat) (bi:Nat→Nat) (j:Nat) (bs:List (List AV)) (v:AV) (c:Sl P):Prop:=
 (v=.slice .aA 0 []∧c=⟨.aA,0,[]⟩)∨∃b cap R,v=.aN d b 0 3 c.l.length cap∧bs[b]? =some (ct (c.l++R))∧(∀p∈c.l++R,p.an.ok 1)∧c=⟨.any,3,c.l⟩∧b≠ab∧∀k:Nat,j≤k→k<w.rs.l.length→cd w [] (k:Int)≠[]→b≠bi k
section
variable{s:ae} {w:W}
theorem xM.deep {ab:Nat} {bi:Nat→Nat} {j:Nat} {bs:List (List AV)} {tk:List (Option Nat)} {v:AV} {c:Sl P} (h:xM w s.ag.length ab bi j bs v c):oj (s.push ⟨bs,tk⟩) v=some (c.v aj):=by
 obtain⟨rfl,rfl⟩|⟨b,cap,R,rfl,hb,bH,hc,_⟩:=h
 ·rfl
 ·have ju:=Fa (es:=3) (xs:=c.l.map aj) (fun r hr=>by obtain⟨p,_,rfl⟩:=cC.1 hr;rfl)
  rw[bE]at ju
  have hle:0+c.l.length*3≤(ct (c.l++R)).length:=by rw[nx,ck];omega
  simp only[oj,fw,bZ,iI,hb,eL]
  rw[ak hle,Ju bH]
  simp only[dP,kI]
  have r9:∀{n:Nat} {xs ys:List AV},n*3≤xs.length→chunks 3 n (xs++ys)=chunks 3 n xs:=by
   intro n
   induction n with
   |zero=>intros;rfl
   |succ n ih=>
    intro xs ys h
    simp only[chunks]
    rw[RY (by omega),RD (by omega),ih (by rw[sX];omega)]
  rw[yE,r9 (by rw[nx];exact aH _),show ct c.l=(c.l.map aj).flatten from rfl,ju,hc]
theorem U3 {bs:List (List AV)} {tk:List (Option Nat)} {v:Nat→AV} {o:Nat→Bool} {c:Nat→Sl P}:∀{n:Nat},(∀i,i<n→oj (s.push ⟨bs,tk⟩) (v i)=some ((c i).v aj))→
  j6 (s.push ⟨bs,tk⟩) (fh v o 0 n)=some (((List.range n).map fun i=>gw (c i,o i)).flatten)
 |0,_=>rfl
 |n+1,h=>by
  rw[B5 (LC n),zR,fT,List.flatten_append]
  refine NM (U3 fun i hi=>h i (by omega)) ?_
  have e2:oj (s.push ⟨bs,tk⟩) (B (o n))=some (B (o n)):=rfl
  simp only[HC,fh,List.range'_zero,nj,RM,j6,h n (LC n),e2,gO,sU,iG]
theorem an9 {bs:List (List AV)} {tk:List (Option Nat)} {v:Nat→AV} {o:Nat→Bool} {c:Nat→Sl P} {ab n:Nat} (hb:bs[ab]? =some (fh v o 0 n)) (h:∀i,i<n→oj (s.push ⟨bs,tk⟩) (v i)=some ((c i).v aj)):
  eD (s.push ⟨bs,tk⟩) (.aN s.ag.length ab 0 2 n 0)=some (.slice .any 2 (((List.range n).map fun i=>(c i,o i)).map gw)):=by
 have ju:=Fa (es:=2) (xs:=(List.range n).map fun i=>gw (c i,o i)) (fun r hr=>by obtain⟨p,_,rfl⟩:=cC.1 hr;rfl)
 rw[bE,pL]at ju
 have hd:=U3 (o:=o) h
 have hle:0+n*2≤(fh v o 0 n).length:=by rw[zF];omega
 simp only[eD,fw,bZ,iI,hb,eL]
 rw[ak hle,Y4,hd]
 simp only[dP,kI]
 rw[ju,xU];rfl
end
theorem adU {s:ae} (hs:Ok s) {bs:List (List AV)} {tk:List (Option Nat)} {b:Nat} (hb:b<bs.length):Cell (fun r=>s.push ⟨bs.set b r,tk⟩) s.ag.length b:=by
 refine⟨fun r=>?_,fun r r'=>?_,fun r=>hs.ro,fun r=>hs.push _⟩
 ·rw[iI];simp[hb]
 ·rw[Q5,zS]
theorem GS {bs:List (List AV)} {b:Nat} {r:List AV} (h:bs[b]? =some r):bs.set b r=bs:=by
 obtain⟨hb,rfl⟩:=aY.1 h
 exact List.set_getElem_self hb
section
variable{s:ae} {w:W}
theorem Qy (hw:Wk w) {i:Nat} (hi:i<w.rs.l.length) {q:P} (hq:q∈cd w [] (i:Int)):q.an.ok 1∧q.an.l.length≤1000∧(-1000000≤q.req∧q.req≤1000000)∧-1000000≤q.start∧q.start≤1000000:=by
 obtain⟨h1,h2,_,_,_,_,h3,_⟩:=lL hw (i:=(i:Int)) (by omega) (by omega) (eP.1 hq).1
 have et:=hw.v.rl
 have h4:=hw.tm.an _ (W.pG (i:=(i:Int)) (by omega) (by omega))
 have h5:=h3.length_le
 exact⟨h1.ok,by omega,⟨by have:=h1.r0;omega,by have:=h1.r1;omega⟩,by have:=h1.s0;omega,by have:=h1.s1;omega⟩
structure zJ (w:W) (d ob ab:Nat) (bi:Nat→Nat) (plan:List P) (set:List Int) (req:Int) (j:Nat) (bs:List (List AV)) (v:Nat→AV) (o:Nat→Bool) (c:Nat→Sl P):Prop where
 z:bs[0]? =some [NP,.slice .aA 0 []]
 oo:bs[ob]? =some [OW w,.aN d ab 0 2 w.rs.l.length 0]
 a:bs[ab]? =some (fh v o 0 w.rs.l.length)
 rest:∀i,j≤i→i<w.rs.l.length→v i=lM d (bi i) (cd w [] (i:Int))∧(cd w [] (i:Int)≠[]→bs[bi i]? =some (ct (cd w [] (i:Int))))
 done:∀i:Nat,i<j→xM w d ab bi j bs (v i) (c i)∧(c i).l=iu w plan set (i:Int)∧o i=lW plan set req (i:Int)
structure Lj (w:W) (ob ab:Nat) (bi:Nat→Nat):Prop where
 o0:0<ob
 a0:0<ab
 ao:ab<ob
 b0:∀i:Nat,i<w.rs.l.length→cd w [] (i:Int)≠[]→0<bi i∧bi i<ob∧bi i≠ab
 inj:∀i j:Nat,i<j→j<w.rs.l.length→cd w [] (i:Int)≠[]→bi i<bi j
theorem Nx {d ob ab:Nat} {bi:Nat→Nat} {plan:List P} {set:List Int} {req:Int} {j:Nat} {bs iJ:List (List AV)} {v:Nat→AV} {o:Nat→Bool} {c:Nat→Sl P} {v':AV} {o':Bool} {c':Sl P} (hB:Lj w ob ab bi) (hj:j<w.rs.l.length) (h:zJ w d ob ab bi plan set req j bs v o c)
  (ha:iJ[ab]? =some (fh (fj v j v') (fj o j o') 0 w.rs.l.length)) (hk:∀q,q<bs.length→q≠ab→(cd w [] (j:Int)≠[]→q≠bi j)→iJ[q]? =bs[q]?)
  (hv:xM w d ab bi (j+1) iJ v' c') (hl:c'.l=iu w plan set (j:Int)) (ho:o'=lW plan set req (j:Int)):zJ w d ob ab bi plan set req (j+1) iJ (fj v j v') (fj o j o') (fj c j c'):=by
 have l0:=(aY.1 h.z).1
 have lo:=(aY.1 h.oo).1
 refine⟨?_,?_,ha,fun i h1 h2=>?_,fun i hi=>?_⟩
 ·rw[hk 0 l0 (by have:=hB.a0;omega) (fun aB=>by have:=(hB.b0 j hj aB).1;omega)];exact h.z
 ·rw[hk ob lo (by have:=hB.ao;omega) (fun aB=>by have:=(hB.b0 j hj aB).2.1;omega)];exact h.oo
 ·obtain⟨r1,r2⟩:=h.rest i (by omega) h2
  refine⟨by rw[xG (by omega)];exact r1,fun aB=>?_⟩
  have:=r2 aB
  rw[hk _ (aY.1 this).1 (hB.b0 i h2 aB).2.2 (fun hnj=>by have:=hB.inj j i (by omega) h2 hnj;omega)]
  exact this
 ·by_cases ez:i=j
  ·subst ez
   rw[G7,G7,G7]
   exact⟨hv,hl,ho⟩
  ·rw[xG ez,xG ez,xG ez]
   obtain⟨d1,d2,d3⟩:=h.done i (by omega)
   refine⟨?_,d2,d3⟩
   obtain⟨e1,e2⟩|⟨b,cap,R,e1,e2,e3,e4,e5,e6⟩:=d1
   ·exact .inl ⟨e1,e2⟩
   ·refine .inr ⟨b,cap,R,e1,?_,e3,e4,e5,fun k nK iP=>e6 k (by omega) iP⟩
    rw[hk b (aY.1 e2).1 e5 (fun aB=>e6 j (aH _) hj aB)]
    exact e2
theorem ad2 {d ob ab : Nat} {bi : Nat → Nat} {plan : List P} {set : List Int} {req : Int} {j : Nat} {bs : List (List AV)} {tk : List (Option Nat)} {v : Nat → AV} {o : Nat → Bool} {c : Nat → Sl P} {ρ : Nat → AV} {op os : Own} {ep es : Nat} (hs : Ok s) (hw : Wk w) (hd : d = s.ag.length) (hB : Lj w ob ab bi) (hj : j < w.rs.l.length)
    (hp:uq plan) (qI:plan=[]∨ep=3) (dU:set=[]∨es=1) (ss:set.length≤100000)
    (h:zJ w d ob ab bi plan set req j bs v o c) (g0:ρ 0=OW w) (g1:ρ 1=.slice op ep (plan.map aj)) (g2:ρ 2=.slice os es (set.map aD)) (g3:ρ 3=I req) (g8:ρ 8=.ptr d 0 0) (g9:ρ 9=.ptr d ob 0) (g19:ρ 19=I w.rs.l.length) (g20:ρ 20=I j):
    ∃ ρ' iJ kW v' c', go AP uH (.c (.loop mK) :: vl) ⟨ρ, s.push ⟨bs, tk⟩⟩ = go AP uH (.c (.loop mK) :: vl) ⟨ρ', s.push ⟨iJ, kW⟩⟩ ∧ (ρ' 0 = OW w ∧ ρ' 1 = .slice op ep (plan.map aj) ∧ ρ' 2 = .slice os es (set.map aD) ∧ ρ' 3 = I req ∧ ρ' 8 = .ptr d 0 0 ∧ ρ' 9 = .ptr d ob 0 ∧ ρ' 19 = I w.rs.l.length ∧ ρ' 20 = I ((j + 1 : Nat) : Int)) ∧
      zJ w d ob ab bi plan set req (j+1) iJ (fj v j v') (fj o j (lW plan set req (j:Int))) (fj c j c'):=by
  subst hd
  have et:=hw.v.rl
  have cH:∀m:ae,Ok m→aw AP (.fn 46) [.slice op ep (plan.map aj),I j] m=some (.tuple [.agg (aj ((bw plan (j:Int)).getD cZ)),B (bw plan (j:Int)).isSome],m):=fun m hm=>QZ hm qI (by have:=hp.len;omega) fun p h=>(hp.ok p h).1
  have l7:∀m:ae,aw AP (.fn 61) [.slice os es (set.map aD),I j] m=some (B (vi set (j:Int)),m):=fun m=>Lf dU (by omega)
  generalize gV:(bw plan (j:Int)).getD cZ=p at cH
  generalize ph:(bw plan (j:Int)).isSome=has at cH
  have oB:p.an.ok 1∧p.an.l.length≤1000∧(-1000000≤p.req∧p.req≤1000000)∧-1000000≤p.start∧p.start≤1000000:=by
    rw[←gV]
    cases hq:bw plan (j:Int)with
    |none=>exact⟨aa6,by decide,by decide,by decide⟩
    | some q =>
      have hm:=(Ze hq).1
      exact⟨(hp.ok q hm).1,(hp.ok q hm).2,hp.b q hm⟩
  obtain⟨r1,r2⟩:=h.rest j (aH _) hj
  have avn:=l7
  have cV:=bJ hj (show(w.rs.l.length:Int)<_ by omega)
  have uZ:=Ku (d:=s.ag.length) (b:=ab) (es:=2) hj
  have fo:∀r,(bs++r)[ob]? =some [OW w,.aN s.ag.length ab 0 2 w.rs.l.length 0]:=fun r=>uA h.oo
  have fa:∀r,(bs++r)[ab]? =some (fh v o 0 w.rs.l.length):=fun r=>uA h.a
  have fg:=ar5 (v:=v) (o:=o) hj
  have avG:closeAll (aj p)=some (aj p):=by
    simp only[aj,lZ,n9,oR,Sl.close oB.1];rfl
  simp only[aj,Sl.v]at cH
  have Bv:∀x,B7 plan (j:Int) x=(has&&decide (l3 x p=0)):=fun x=>by unfold B7;rw[gV,ph]
  cases aZ:vi set (j:Int)with
  | true =>
    rw[aZ]at l7
    have yQ:iu w plan set (j:Int)=(cd w [] (j:Int)).filter fun x=>!(has&&decide (l3 x p=0)):=by
      unfold iu
      rw[ak aZ]
      refine Hi fun x _=>?_
      rw[Bv]
    have FD:lW plan set req (j:Int)=(has&&!decide ((j:Int)=req)):=by
      unfold lW;rw[ak aZ,ph]
    have hq : ∃ (v' : AV) (iJ : List (List AV)) (c' : Sl P), oP (aw AP) (s.push ⟨bs ++ [aj p, [B has]], tk⟩) (.fn 62) [v j, .fn 60 [] [.ptr s.ag.length (bs.length + 1) 0, .ptr s.ag.length bs.length 0]] [(false, 1, .ptr s.ag.length (bs.length + 1) 0)] = some (v', s.push ⟨iJ, tk⟩) ∧
        (∀q,(cd w [] (j:Int)≠[]→q≠bi j)→iJ[q]? =(bs++[aj p,[B has]])[q]?)∧c'.l=iu w plan set (j:Int)∧
        ((v'=.slice .aA 0 []∧c'=⟨.aA,0,[]⟩)∨∃cap R,cd w [] (j:Int)≠[]∧v'=.aN s.ag.length (bi j) 0 3 c'.l.length cap∧iJ[bi j]? =some (ct (c'.l++R))∧(∀p∈c'.l++R,p.an.ok 1)∧c'=⟨.any,3,c'.l⟩):=by
      by_cases hl:cd w [] (j:Int)=[]
      · refine ⟨.slice .aA 0 [], bs ++ [aj p, [B has]], ⟨.aA, 0, []⟩, ?_, fun q _ => rfl, by rw [yQ, hl]; rfl, .inl ⟨rfl, rfl⟩⟩
        rw[r1,hl]
        exact Uo at0 fun q _=>rfl
      · have hbj := uA (r := [aj p, [B has]]) (r2 hl)
        have cu:=(aY.1 (r2 hl)).1
        have y9:0<(cd w [] (j:Int)).length:=Cr.2 hl
        have p8:(cd w [] (j:Int)).length<1000000:=by
          have h1:=xA hw (i:=(j:Int)) (by omega) (by omega)
          have h2:(cd w [] (j:Int)).length≤(cY w (j:Int)).length:=lR _ _
          omega
        have hX:=adU hs (bs:=bs++[aj p,[B has]]) (tk:=tk) (b:=bi j) (by rw[ck];omega)
        have fB:∀row,((bs++[aj p,[B has]]).set (bi j) row)[bs.length]? =some (aj p):=fun row=>by rw[eK (by omega)];simp
        have iN:∀row,((bs++[aj p,[B has]]).set (bi j) row)[bs.length+1]? =some [B has]:=fun row=>by rw[eK (by omega)];simp
        have ait:=atZ (l:=cd w [] (j:Int)) (g:=60) (caps:=[.ptr s.ag.length (bs.length+1) 0,.ptr s.ag.length bs.length 0]) (f:=fun x=>has&&decide (l3 x p=0)) hX p8 y9 (KQ hw hj)
          (fun x hx row q=>by
            obtain⟨q1,q2,q3,q4⟩:=Qy hw hj hx
            exact aaT ((hs.push _).push _) (fN (by rw[iI];exact iN row) _) (fN (by rw[iI];exact fB row) _) q1 oB.1 q2 oB.2.1 q3 oB.2.2.1 q4 oB.2.2.2)
          (fun x hx row q q'=>by
            obtain⟨q1,q2,q3,q4⟩:=Qy hw hj hx
            exact aaT (((hs.push _).push _).push _) (fN (fN (by rw[iI];exact iN row) _) _) (fN (fN (by rw[iI];exact fB row) _) _) q1 oB.1 q2 oB.2.1 q3 oB.2.2.1 q4 oB.2.2.2)
        obtain⟨cap,R,e1,e2,_⟩:=ait
        rw[←yQ]at e1
        simp only[GS hbj]at e1
        refine⟨_,(bs++[aj p,[B has]]).set (bi j) (ct (iu w plan set (j:Int)++R)),⟨.any,3,iu w plan set (j:Int)⟩,?_,fun q hq=>by rw[eK (fun e=>hq hl e.symm)],rfl,.inr ⟨cap,R,hl,rfl,?_,?_,rfl⟩⟩
        · rw [r1]
          unfold lM
          rw[aq hl]
          refine Uo e1 fun q hq=>?_
          rw[dO.1 hq]
          simp only[ae.load,ae.row,iI,iN]
          have:(bs++[aj p,[B has]])[bs.length+1]? =some [B has]:=by simp
          rw[this]
        · rw[mE (by rw[ck];omega)]
        · intro x hx
          rcases c9.1 hx with hx|hx
          · rw [yQ] at hx
            exact KQ hw hj x (eP.1 hx).1
          · exact e2 x hx
    obtain⟨v',iJ,c',hq,yW,aP,FG⟩:=hq
    have CF:iJ[ab]? =some (fh v o 0 w.rs.l.length):=by rw[yW ab (fun hl=>fun e=>(hB.b0 j hj hl).2.2 e.symm)];exact fa _
    have Wq:=(aY.1 CF).1
    have JS:iJ[bs.length+1]? =some [B has]:=by
      rw[yW _ (fun hl e=>by have:=(aY.1 (r2 hl)).1;omega)];simp
    have s0:=QR (v:=v) (o:=o) (x:=v') hj
    have s1:=QS (v:=fj v j v') (o:=o) (t:=has&&!decide ((j:Int)=req)) hj
    have HJ:∀r,(iJ.set ab r)[ab]? =some r:=fun r=>mE Wq
    have fm:∃ρ',go AP uH (.c (.loop mK)::vl) ⟨ρ,s.push ⟨bs,tk⟩⟩=go AP uH (.c (.loop mK)::vl) ⟨ρ',s.push ⟨iJ.set ab (fh (fj v j v') (fj o j (has&&!decide ((j:Int)=req))) 0 w.rs.l.length),tk⟩⟩∧(ρ' 0=OW w∧ρ' 1=.slice op ep (plan.map aj)∧ρ' 2=.slice os es (set.map aD)∧ρ' 3=I req∧ρ' 8=.ptr s.ag.length 0 0∧ρ' 9=.ptr s.ag.length ob 0∧ρ' 19=I w.rs.l.length∧ρ' 20=I ((j+1:Nat):Int)):=by
      rw[go_loop]
      simp only[OW,aj,Sl.v]at g0 fo hq⊢
      generalize fh (fj v j v') (fj o j (has&&!decide ((j:Int)=req))) 0 w.rs.l.length=Z2 at*
      generalize fh (fj v j v') o 0 w.rs.l.length=Z1 at*
      have aB:decide (¬(j:Int)=req)=!decide ((j:Int)=req):=by simp
      have Xw:v'=.slice .aA 0 []∨∃n cap,v'=.aN s.ag.length (bi j) 0 3 n cap:=by
        rcases FG with⟨e,_⟩|⟨cap,R,_,e,_⟩
        · exact .inl e
        · exact .inr ⟨_,cap,e⟩
      cases has with
      | true =>
        simp only[iF]at s1
        obtain rfl|⟨n,cap,rfl⟩:=Xw
        · simp only [go_sem, mK, g1, g2, g3, g9, g19, g20, hs, aR hj, cH, l7, cV, fo, fa, fg, uZ, at_len, rH, qW, oK, rk, gL, hq, JS, CF, s0, s1, HJ, zS, bq, aB, iF, simprocAttr]
          refine⟨_,rfl,?_⟩
          exact⟨g0,g1,g2,g3,g8,g9,g19,rfl⟩
        · simp only [go_sem, mK, g1, g2, g3, g9, g19, g20, hs, aR hj, cH, l7, cV, fo, fa, fg, uZ, at_len, rH, qW, oK, rk, gL, hq, JS, CF, s0, s1, HJ, zS, bq, aB, iF, simprocAttr]
          refine⟨_,rfl,?_⟩
          exact⟨g0,g1,g2,g3,g8,g9,g19,rfl⟩
      | false =>
        simp only[jZ]at s1
        obtain rfl|⟨n,cap,rfl⟩:=Xw
        · simp only [go_sem, mK, g1, g2, g9, g19, g20, hs, aR hj, cH, l7, cV, fo, fa, fg, uZ, at_len, rH, qW, oK, rk, gL, hq, JS, CF, s0, s1, HJ, zS, simprocAttr]
          refine⟨_,rfl,?_⟩
          exact⟨g0,g1,g2,g3,g8,g9,g19,rfl⟩
        · simp only [go_sem, mK, g1, g2, g9, g19, g20, hs, aR hj, cH, l7, cV, fo, fa, fg, uZ, at_len, rH, qW, oK, rk, gL, hq, JS, CF, s0, s1, HJ, zS, simprocAttr]
          refine⟨_,rfl,?_⟩
          exact⟨g0,g1,g2,g3,g8,g9,g19,rfl⟩
    obtain⟨ρ',e1,e2⟩:=fm
    rw[←FD]at e1
    refine⟨ρ',_,tk,v',c',e1,e2,Nx hB hj h (by rw[mE Wq]) (fun q hq sj za=>?_) ?_ aP rfl⟩
    · rw[eK (fun e=>sj e.symm),yW q za,dB hq]
    · rcases FG with ⟨h1, h2⟩ | ⟨cap, R, h1, h2, h3, h4, h5⟩
      · exact .inl ⟨h1,h2⟩
      · refine .inr ⟨bi j, cap, R, h2, ?_, h4, h5, (hB.b0 j hj h1).2.2, fun k nK iP _ => by have := hB.inj j k (by omega) iP h1; omega⟩
        rw[eK (fun e=>(hB.b0 j hj h1).2.2 e.symm)]
        exact h3
  | false =>
    rw[aZ]at l7
    have gB:=(aY.1 h.a).1
    have Vv:∀(r:List AV) (t:List (List AV)),((bs++t).set ab r)[ab]? =some r:=fun r t=>mE (by rw[ck];omega)
    have aB:decide (¬(j:Int)=req)=!decide ((j:Int)=req):=by simp
    cases hh:has with
    | true =>
      rw[hh]at cH ph
      obtain⟨p',u4⟩:=oO.1 ph
      have ajD:p'=p:=by rw[←gV,u4];rfl
      subst ajD
      have yQ:iu w plan set (j:Int)=[p']:=by
        unfold iu;rw[aZ,aq (by simp),u4];rfl
      have FD:lW plan set req (j:Int)=false:=by
        unfold lW;rw[aZ,aq (by simp),ph];rfl
      have qP:ri (s.push ⟨bs++[aj p',[B true]],tk⟩) 3 (.agg (aj p'))=some (.aN s.ag.length (bs.length+1+1) 0 3 1 1,s.push ⟨bs++[aj p',[B true],aj p'],tk⟩):=by
        have:=QN (s:=s) (bs:=bs++[aj p',[B true]]) (tk:=tk) (cs:=aj p') (es:=3) rfl (by decide)
        rw[Gy,gL]at this
        exact this
      have s0:=QR (v:=v) (o:=o) (x:=.aN s.ag.length (bs.length+1+1) 0 3 1 1) hj
      have s1:=QS (v:=fj v j (.aN s.ag.length (bs.length+1+1) 0 3 1 1)) (o:=o) (t:=false) hj
      have fm:∃ρ',go AP uH (.c (.loop mK)::vl) ⟨ρ,s.push ⟨bs,tk⟩⟩=go AP uH (.c (.loop mK)::vl) ⟨ρ',s.push ⟨(bs++[aj p',[B true],aj p']).set ab (fh (fj v j (.aN s.ag.length (bs.length+1+1) 0 3 1 1)) (fj o j false) 0 w.rs.l.length),tk⟩⟩∧(ρ' 0=OW w∧ρ' 1=.slice op ep (plan.map aj)∧ρ' 2=.slice os es (set.map aD)∧ρ' 3=I req∧ρ' 8=.ptr s.ag.length 0 0∧ρ' 9=.ptr s.ag.length ob 0∧ρ' 19=I w.rs.l.length∧ρ' 20=I ((j+1:Nat):Int)):=by
        rw[go_loop]
        simp only[OW,aj,Sl.v]at g0 fo qP⊢
        generalize fh (fj v j (.aN s.ag.length (bs.length+1+1) 0 3 1 1)) (fj o j false) 0 w.rs.l.length=Z2 at*
        generalize fh (fj v j (.aN s.ag.length (bs.length+1+1) 0 3 1 1)) o 0 w.rs.l.length=Z1 at*
        simp only[go_sem,mK,g1,g2,g9,g19,g20,hs,aR hj,cH,l7,cV,fo,fa,Vv,uZ,at_len,rH,qW,oK,rk,gL,qP,s0,s1,zS,simprocAttr]
        refine⟨_,rfl,?_⟩
        exact⟨g0,g1,g2,g3,g8,g9,g19,rfl⟩
      obtain⟨ρ',e1,e2⟩:=fm
      rw[←FD]at e1
      refine⟨ρ',_,tk,_,⟨.any,3,[p']⟩,e1,e2,Nx hB hj h (by rw[mE (by rw[ck];omega)]) (fun q hq sj za=>?_) ?_ yQ.symm rfl⟩
      · rw[eK (fun e=>sj e.symm),dB hq]
      · refine .inr ⟨bs.length + 1 + 1, 1, [], rfl, ?_, fun x hx => ?_, rfl, by omega, fun k nK iP F3 => ?_⟩
        · rw [eK (by omega), gM (by omega), show bs.length + 1 + 1 - bs.length = 2 by omega]
          simp[ct]
        · rw [iG, dO] at hx
          rw[hx];exact oB.1
        · have := (aY.1 ((h.rest k (by omega) iP).2 F3)).1
          omega
    | false =>
      rw[hh]at cH ph
      have Bt:bw plan (j:Int)=none:=by
        cases hq:bw plan (j:Int)with
        |none=>rfl
        |some q=>rw[hq]at ph;simp at ph
      have yQ:iu w plan set (j:Int)=[]:=by
        unfold iu;rw[aZ,aq (by simp),Bt];rfl
      have FD:lW plan set req (j:Int)=!decide ((j:Int)=req):=by
        unfold lW;rw[aZ,aq (by simp),ph];rfl
      have s0:=QR (v:=v) (o:=o) (x:=.slice .aA 0 []) hj
      have s1:=QS (v:=fj v j (.slice .aA 0 [])) (o:=o) (t:=!decide ((j:Int)=req)) hj
      have fm:∃ρ',go AP uH (.c (.loop mK)::vl) ⟨ρ,s.push ⟨bs,tk⟩⟩=go AP uH (.c (.loop mK)::vl) ⟨ρ',s.push ⟨(bs++[aj p,[B false]]).set ab (fh (fj v j (.slice .aA 0 [])) (fj o j (!decide ((j:Int)=req))) 0 w.rs.l.length),tk⟩⟩∧(ρ' 0=OW w∧ρ' 1=.slice op ep (plan.map aj)∧ρ' 2=.slice os es (set.map aD)∧ρ' 3=I req∧ρ' 8=.ptr s.ag.length 0 0∧ρ' 9=.ptr s.ag.length ob 0∧ρ' 19=I w.rs.l.length∧ρ' 20=I ((j+1:Nat):Int)):=by
        rw[go_loop]
        simp only[OW,aj,Sl.v]at g0 fo⊢
        generalize fh (fj v j (.slice .aA 0 [])) (fj o j (!decide ((j:Int)=req))) 0 w.rs.l.length=Z2 at*
        generalize fh (fj v j (.slice .aA 0 [])) o 0 w.rs.l.length=Z1 at*
        simp only[go_sem,mK,g1,g2,g3,g9,g19,g20,hs,aR hj,cH,l7,cV,fo,fa,Vv,uZ,at_len,rH,qW,oK,rk,gL,s0,s1,zS,bq,aB,simprocAttr]
        refine⟨_,rfl,?_⟩
        exact⟨g0,g1,g2,g3,g8,g9,g19,rfl⟩
      obtain⟨ρ',e1,e2⟩:=fm
      rw[←FD]at e1
      refine⟨ρ',_,tk,_,⟨.aA,0,[]⟩,e1,e2,Nx hB hj h (by rw[mE (by rw[ck];omega)]) (fun q hq sj za=>?_) (.inl ⟨rfl,rfl⟩) yQ.symm rfl⟩
      rw[eK (fun e=>sj e.symm),dB hq]
end
section
variable{s:ae} {w:W}
structure xL (w:W) (plan:List P) (set:List Int) (req:Int) (all:List (Sl P×Bool)):Prop where
 len:all.length=w.rs.l.length
 get:∀i:Nat,i<w.rs.l.length→∃c:Sl P,all[i]? =some (c,lW plan set req (i:Int))∧c.l=iu w plan set (i:Int)∧c.ok 3
theorem xM.ok {d ab:Nat} {bi:Nat→Nat} {j:Nat} {bs:List (List AV)} {v:AV} {c:Sl P} (h:xM w d ab bi j bs v c):c.ok 3:=by
 obtain⟨_,e⟩|⟨b,cap,R,_,_,_,e,_⟩:=h
 ·rw[e];exact⟨.inl rfl,.inr (.inr ⟨rfl,rfl⟩)⟩
 ·rw[e];exact⟨.inr rfl,.inl rfl⟩
theorem atu {plan:List P} {set:List Int} {req:Int} {op os:Own} {ep es:Nat} (hs:Ok s) (hw:Wk w) (hN:0<w.rs.l.length) (hp:uq plan) (qI:plan=[]∨ep=3) (dU:set=[]∨es=1) (ss:set.length≤100000):
  ∃all,aw AP (.fn 28) [OW w,.slice op ep (plan.map aj),.slice os es (set.map aD),I req] s=some (CH w .any 2 all,s)∧xL w plan set req all:=by
 obtain⟨ρ0,wg,K4,x,bi,f1,f2,f3,f4,f5⟩:=VR (F:=fun e st=>match e with|.exit _=>none|_=>(tQ st [.cell true 2 2]).map fun l=>(packed l,st.sig)) (bs:=[[NP,.slice .aA 0 []]]) (tk:=[]) hs hw
 obtain⟨g1,_⟩|⟨_,ab,gB,rfl⟩:=f4.gx
 ·omega
 simp only[dJ,iY,fK]at f2 f3 f5 f4
 have jN:wg[0]? =some [NP,.slice .aA 0 []]:=by rw[f5 0 (by omega)];rfl
 have hi:aw AP (.inl 44) [OW w] (s.push ⟨[[NP,.slice .aA 0 []]],[]⟩)=some (.agg [OW w,.aN s.ag.length ab 0 2 w.rs.l.length 0],s.push ⟨wg,K4⟩):=by
  rw[adr (show AP 44=some Ay from rfl) rfl (by have:=hs.ro;rw[LR];show s.ro<_;omega)]
  refine f1.trans ?_
  have hl:(s.push ⟨wg,K4⟩).load true 2 (.ptr s.ag.length 1 0)=some (.agg [OW w,.aN s.ag.length ab 0 2 w.rs.l.length 0]):=by
   simp only[ae.load,ae.row,iI,f3,dP,eL,part,bZ,dJ,iY]
   rfl
  simp only[tQ,sJ,f2,hl,dP,packed]
 have ah4:=(aY.1 gB).1
 have hB:Lj w wg.length ab bi:=by
  refine⟨by have:=(aY.1 jN).1;omega,by have:=(f4.own ab _ _ rfl).1;omega,ah4,fun i hi aB=>?_,f4.inj⟩
  obtain⟨q1,q2⟩:=f4.box i hi aB
  exact⟨by omega,(aY.1 q1).1,(f4.own ab _ _ rfl).2 i hi aB⟩
 have key : ∀ (k j : Nat) ρ bs tk v o c, k = w.rs.l.length - j → j ≤ w.rs.l.length → zJ w s.ag.length wg.length ab bi plan set req j bs v o c → (ρ 0 = OW w ∧ ρ 1 = .slice op ep (plan.map aj) ∧ ρ 2 = .slice os es (set.map aD) ∧ ρ 3 = I req ∧ ρ 8 = .ptr s.ag.length 0 0 ∧ ρ 9 = .ptr s.ag.length wg.length 0 ∧ ρ 19 = I w.rs.l.length ∧ ρ 20 = I j) →
   ∃all,go AP uH (.c (.loop mK)::vl) ⟨ρ,s.push ⟨bs,tk⟩⟩=some (CH w .any 2 all,s)∧xL w plan set req all:=by
  intro k
  induction k with
  | zero =>
   rintro j ρ bs tk v o c hk hj hI ⟨g0,g1,g2,g3,g8,g9,g19,g20⟩
   obtain rfl:j=w.rs.l.length:=by omega
   have lz:=(aY.1 hI.z).1
   have Kk:∀r:List AV,(bs.set 0 r)[ab]? =bs[ab]? :=fun r=>eK (by have:=hB.a0;omega)
   have cT:=an9 (s:=s) (bs:=bs.set 0 [OW w,.aN s.ag.length ab 0 2 w.rs.l.length 0]) (tk:=tk) (o:=o) (c:=c) (by rw[Kk];exact hI.a) (fun i hi=>by
    obtain⟨d1,_,_⟩:=hI.done i hi
    refine xM.deep (w:=w) (ab:=ab) (bi:=bi) (j:=w.rs.l.length) ?_
    obtain⟨e1,e2⟩|⟨b,cap,R,e1,e2,e3⟩:=d1
    ·exact .inl ⟨e1,e2⟩
    ·by_cases hb:b=0
     ·exfalso
      subst hb
      rw[hI.z]at e2
      injection e2 with e2
      have:=iy List.length e2
      rw[nx]at this
      simp at this
      omega
     ·exact .inr ⟨b,cap,R,e1,by rw[eK (by omega)];exact e2,e3⟩)
   refine⟨(List.range w.rs.l.length).map fun i=>(c i,o i),?_,⟨by simp,fun i hi=>?_⟩⟩
   ·have dV:=hI.oo
    have hz:=hI.z
    have h00:∀r:List AV,(bs.set 0 r)[0]? =some r:=fun r=>mE lz
    rw[go_loop]
    simp only[CH,OW]at dV cT⊢
    generalize((List.range w.rs.l.length).map fun i=>(c i,o i)).map gw=Z at*
    simp only[Sl.v]at dV cT⊢
    simp only[go_sem,mK,M6,g8,g9,g19,g20,hs,bM,dV,hz,h00,cT,P2,simprocAttr]
   ·obtain⟨d1,d2,d3⟩:=hI.done i hi
    refine⟨c i,?_,d2,d1.ok⟩
    rw[gN,Hl hi,←d3];rfl
  |succ k ih=>
   rintro j ρ bs tk v o c hk hj hI ⟨g0,g1,g2,g3,g8,g9,g19,g20⟩
   obtain⟨ρ',iJ,kW,v',c',e1,e2,e3⟩:=ad2 (tk:=tk) hs hw rfl hB (by omega) hp qI dU ss hI g0 g1 g2 g3 g8 g9 g19 g20
   rw[e1]
   exact ih (j+1) ρ' iJ kW _ _ _ (by omega) (by omega) e3 e2
 have Gi:zJ w s.ag.length wg.length ab bi plan set req 0 (wg++[[OW w,.aN s.ag.length ab 0 2 w.rs.l.length 0]]) (fun i=>lM s.ag.length (bi i) (cd w [] (i:Int))) (fun _=>true) (fun _=>⟨.aA,0,[]⟩):=by
  refine⟨uA jN,by simp,by rw[←ar3];exact uA gB,fun i _ hi=>⟨rfl,fun aB=>uA (f4.box i hi aB).1⟩,fun i hi=>absurd hi (dk _)⟩
 have JW:=key w.rs.l.length 0
 rw[aL (show AP 28=some EB from rfl) rfl]
 simp only[OW,Sl.v]at hi JW Gi⊢
 simp only[go_sem,TC,hs,hi,at_len,oK,Gz,simprocAttr]
 refine JW _ _ _ _ _ _ rfl (bh _) Gi ?_
 exact⟨rfl,rfl,rfl,rfl,rfl,rfl,rfl,rfl⟩
end
section
variable{w:W}
structure Lk (w:W) (l:List (List P)) (c:Nat→P):Prop where
 mem:∀k x,l[k]? =some x→c k∈x
 nc:∀j k,j<l.length→k<l.length→j≠k→cQ w (c j) (c k)=false
theorem G8 {p x:P} {l:List P}:x∈wo w p l↔x∈l∧cQ w x p=false:=by
 unfold wo
 rw[eP]
 simp
theorem Va {p:P} {l:List (List P)} {s k:Nat}:((l.eraseIdx s).map (wo w p))[k]? =((if k<s then l[k]? else l[k+1]?).map (wo w p)):=by
 rw[gN,List.getElem?_eraseIdx]
theorem VG (hw:Wk w):∀(n:Nat) (l:List (List P)),l.length=n→(∀x∈l,∀p∈x,bW w p)→pT w n l=true→∃c,Lk w l c
 |0,l,hl,_,_=>⟨fun _=>cZ,fun k x h=>by rw[uf hl]at h;simp at h,fun j k h=>by omega⟩
 | n + 1, l, hl, hp, h => by
  have aB:l≠[]:=by intro e;rw[e]at hl;simp at hl
  have hs:=Q9 aB
  simp only[pT]at h
  generalize fR l=s at*
  obtain⟨x,hx⟩:=get_some hs
  rw[List.getD,hx,kZ,fS]at h
  obtain⟨p,J6,hf⟩:=h
  have fP:=bK hx
  have gV:=hp x fP p J6
  have wV:((l.eraseIdx s).map (wo w p)).length=n:=by rw[bE,Lu hs];omega
  obtain⟨c,dY,gC⟩:=VG hw n ((l.eraseIdx s).map (wo w p)) wV (fun y hy q hq=>by
   obtain⟨z,hz,rfl⟩:=cC.1 hy
   exact hp z (RU hz) q (G8.1 hq).1) hf
  rw[wV]at gC
  have key:∀k,k<n→∃y,l[if k<s then k else k+1]? =some y∧c k∈y∧cQ w (c k) p=false∧bW w (c k):=by
   intro k hk
   obtain⟨y,hy⟩:=get_some (l:=(l.eraseIdx s).map (wo w p)) (k:=k) (by omega)
   have hm:=dY k y hy
   rw[Va]at hy
   obtain⟨z,hz,rfl⟩:=aS.1 hy
   obtain⟨lC,fD⟩:=G8.1 hm
   have Gn:l[if k<s then k else k+1]? =some z:=by
    by_cases h:k<s
    ·rw[ak h]at hz⊢;exact hz
    ·rw[aq h]at hz⊢;exact hz
   exact⟨z,Gn,lC,fD,hp z (bK Gn) _ lC⟩
  refine⟨fun k=>if k<s then c k else if k=s then p else c (k-1),?_,?_⟩
  ·intro k y hy
   have tD:=(aY.1 hy).1
   show(if k<s then c k else if k=s then p else c (k-1))∈y
   by_cases h1:k<s
   ·rw[ak h1]
    obtain⟨z,hz,hm,_⟩:=key k (by omega)
    rw[ak h1,hy]at hz;injection hz with hz;rw[hz];exact hm
   ·rw[aq h1]
    by_cases h2:k=s
    ·rw[ak h2];subst h2;rw[hx]at hy;injection hy with hy;rw[←hy];exact J6
    ·rw[aq h2]
     obtain⟨z,hz,hm,_⟩:=key (k-1) (by omega)
     rw[aq (by omega),show k-1+1=k by omega,hy]at hz;injection hz with hz;rw[hz];exact hm
  ·intro j k hj hk u0
   show cQ w (if j<s then c j else if j=s then p else c (j-1)) (if k<s then c k else if k=s then p else c (k-1))=false
   have iO:∀i,i<n→cQ w p (c i)=false:=fun i hi=>by
    obtain⟨_,_,_,h3,h4⟩:=key i hi
    rw[AK hw gV h4];exact h3
   have WH:∀i,i<n→cQ w (c i) p=false:=fun i hi=>(key i hi).choose_spec.2.2.1
   by_cases j1:j<s
   ·rw[ak j1]
    by_cases k1:k<s
    ·rw[ak k1];exact gC j k (by omega) (by omega) u0
    ·rw[aq k1]
     by_cases k2:k=s
     ·rw[ak k2];exact WH j (by omega)
     ·rw[aq k2];exact gC j (k-1) (by omega) (by omega) (by omega)
   ·rw[aq j1]
    by_cases j2:j=s
    ·rw[ak j2]
     by_cases k1:k<s
     ·rw[ak k1];exact iO k (by omega)
     ·rw[aq k1,aq (by omega)];exact iO (k-1) (by omega)
    ·rw[aq j2]
     by_cases k1:k<s
     ·rw[ak k1];exact gC (j-1) k (by omega) (by omega) (by omega)
     ·rw[aq k1]
      by_cases k2:k=s
      ·rw[ak k2];exact WH (j-1) (by omega)
      ·rw[aq k2];exact gC (j-1) (k-1) (by omega) (by omega) (by omega)
theorem YO (hw:Wk w):∀(n:Nat) (l:List (List P)),l.length=n→(∀x∈l,∀p∈x,bW w p)→(∃c,Lk w l c)→pT w n l=true
 |0,_,_,_,_=>rfl
 | n + 1, l, hl, hp, ⟨c, dY, gC⟩ => by
  have aB:l≠[]:=by intro e;rw[e]at hl;simp at hl
  have hs:=Q9 aB
  simp only[pT]
  generalize fR l=s at*
  obtain⟨x,hx⟩:=get_some hs
  rw[List.getD,hx,kZ,fS]
  have wV:((l.eraseIdx s).map (wo w (c s))).length=n:=by rw[bE,Lu hs];omega
  refine⟨c s,dY s x hx,YO hw n _ wV (fun y hy q hq=>by
   obtain⟨z,hz,rfl⟩:=cC.1 hy
   exact hp z (RU hz) q (G8.1 hq).1) ⟨fun k=>c (if k<s then k else k+1),fun k y hy=>?_,fun j k hj hk u0=>?_⟩⟩
  ·have tD:=(aY.1 hy).1
   rw[Va]at hy
   obtain⟨z,hz,rfl⟩:=aS.1 hy
   have Gn:l[if k<s then k else k+1]? =some z:=by
    by_cases h:k<s
    ·rw[ak h]at hz⊢;exact hz
    ·rw[aq h]at hz⊢;exact hz
   exact G8.2 ⟨dY _ z Gn,gC _ _ (aY.1 Gn).1 hs (by split<;>omega)⟩
  ·rw[wV]at hj hk
   exact gC _ _ (by split<;>omega) (by split<;>omega) (by split<;>split<;>omega)
theorem VE (hw:Wk w) {l:List (List P)} (hp:∀x∈l,∀p∈x,bW w p):fit w l=true↔∃c,Lk w l c:=
 ⟨VG hw l.length l rfl hp,YO hw l.length l rfl hp⟩
end
section
variable{w:W}
theorem Ro {q:P}:∀{plan:List P} {x:Sl P},q∈(jG w plan x).l↔q∈x.l∧∀p∈plan,cQ w q p=false
 |[],x=>by simp[jG]
 |p::r,x=>by
  have h:jG w (p::r) x=jG w r (dv 3 (wo w p x.l)):=rfl
  rw[h,Ro (plan:=r),j5,G8]
  simp only[eF,forall_eq_or_imp]
  constructor
  ·rintro⟨⟨h1,h2⟩,h3⟩;exact⟨h1,h2,h3⟩
  ·rintro⟨h1,h2,h3⟩;exact⟨⟨h1,h2⟩,h3⟩
theorem KP {i:Int}:cd w [] i=cY w i:=by
 unfold cd
 rw[Lo]
 intro x _;rfl
theorem agp {i:Nat} (h:i<w.rs.l.length):(dL w).getD i default=(dv 3 (cY w (i:Int)),true):=by
 unfold dL rR
 rw[List.getD,gN,Hl h]
 simp only[dP,kZ,KP]
def iC (pl:List P) (m:Nat):List Int:=(dh m).filter fun i=>(bw pl i).isNone
theorem zt {m:Nat} {i:Int} (hm:m<2^62):i∈dh m↔0≤i∧m.testBit i.toNat=true:=by
 unfold dh pD
 simp only[cC,eP,pM]
 constructor
 ·rintro⟨k,⟨h1,h2⟩,rfl⟩;exact⟨by omega,by simpa using h2⟩
 ·rintro⟨h0,h1⟩
  refine⟨i.toNat,⟨?_,h1⟩,by omega⟩
  apply qm
  intro h
  have:m<2^i.toNat:=nk hm (jq (by decide) (by omega))
  rw[HD this]at h1
  exact absurd h1 (by decide)
theorem BQ {m:Nat}:(dh m).Pairwise (· <·):=by
 unfold dh pD
 rw[um]
 refine(Cn _ abp).imp fun h=>by omega
theorem agk (hw:Wk w) {pl:List P} {m:Nat} (hm:m<2^w.rs.l.length):
  gZ w (dL w) pl m=true↔∃f:Int→P,(∀i∈iC pl m,f i∈cY w i∧∀p∈pl,cQ w (f i) p=false)∧(∀i∈iC pl m,∀j∈iC pl m,i≠j→cQ w (f i) (f j)=false):=by
 have et:=hw.v.rl
 have qL:m<2^62:=nk hm (jq (by decide) (by omega))
 have aZ:∀i∈iC pl m,0≤i∧i<w.rs.l.length:=by
  intro i hi
  obtain⟨h0,h1⟩:=(zt qL).1 (eP.1 hi).1
  refine⟨h0,?_⟩
  apply qm
  intro h
  have:m<2^i.toNat:=nk hm (jq (by decide) (by omega))
  rw[HD this]at h1
  exact absurd h1 (by decide)
 have p6:(iC pl m).Pairwise (· <·):=Cn _ BQ
 have OX:(mo w (dL w) pl (dh m)).map (·.l)=(iC pl m).map fun i=>(jG w pl ((dL w).getD i.toNat default).1).l:=by
  unfold mo iC
  rw[xU];rfl
 unfold gZ
 rw[OX]
 have dV:∀i∈iC pl m,∀q,q∈(jG w pl ((dL w).getD i.toNat default).1).l↔q∈cY w i∧∀p∈pl,cQ w q p=false:=by
  intro i hi q
  obtain⟨h0,h1⟩:=aZ i hi
  rw[agp (by omega),Ro,j5,show((i.toNat:Nat):Int)=i by omega]
 generalize iC pl m=L at*
 have hP:∀x∈L.map (fun i=>(jG w pl ((dL w).getD i.toNat default).1).l),∀p∈x,bW w p:=by
  intro x hx p hp
  obtain⟨i,hi,rfl⟩:=cC.1 hx
  obtain⟨h0,h1⟩:=aZ i hi
  exact(lL hw h0 h1 ((dV i hi p).1 hp).1).1
 rw[VE hw hP]
 constructor
 ·rintro⟨c,dY,gC⟩
  refine⟨fun i=>c (L.idxOf i),fun i hi=>?_,fun i hi j hj ez=>?_⟩
  ·have hk:L[L.idxOf i]? =some i:=by
    rw[cM (ui.2 hi),Cq]
   have:=dY (L.idxOf i) _ (by rw[gN,hk];rfl)
   exact(dV i hi _).1 this
  ·refine gC _ _ ?_ ?_ ?_
   ·rw[bE];exact ui.2 hi
   ·rw[bE];exact ui.2 hj
   ·intro e
    apply ez
    have h1:L[L.idxOf i]? =some i:=by rw[cM (ui.2 hi),Cq]
    have h2:L[L.idxOf j]? =some j:=by rw[cM (ui.2 hj),Cq]
    rw[e,h2]at h1;injection h1 with h1;exact sR h1
 ·rintro⟨f,j8,jh⟩
  refine⟨fun k=>f (L.getD k 0),fun k x hx=>?_,fun j k hj hk u0=>?_⟩
  ·rw[gN]at hx
   obtain⟨i,hi,rfl⟩:=aS.1 hx
   have fD:=bK hi
   show f (L.getD k 0)∈_
   have e0:L.getD k 0=i:=by rw[List.getD,hi];rfl
   rw[e0]
   exact(dV i fD _).2 (j8 i fD)
  ·rw[bE]at hj hk
   obtain⟨a,ha⟩:=get_some hj
   obtain⟨b,hb⟩:=get_some hk
   show cQ w (f (L.getD j 0)) (f (L.getD k 0))=false
   rw[List.getD,List.getD,ha,hb,kZ,kZ]
   refine jh a (bK ha) b (bK hb) ?_
   intro e
   subst e
   have l9:=Cs.1 p6
   obtain⟨_,ea⟩:=aY.1 ha
   obtain⟨_,eb⟩:=aY.1 hb
   rcases R7 u0 with h|h
   ·have:=l9 j k hj hk h;omega
   ·have:=l9 k j hk hj h;omega
end
section
variable{w:W}
structure VP (w:W) (R:List P):Prop where
 mem:∀p∈R,0≤p.req∧p.req<w.rs.l.length∧p∈cY w p.req
 mJ:R.Pairwise fun a b=>a.req<b.req
 nc:R.Pairwise fun a b=>cQ w a b=false
theorem VP.nil:VP w []:=⟨fun _ h=>absurd h (by simp),List.Pairwise.nil,List.Pairwise.nil⟩
theorem VP.iD (hw:Wk w) {R:List P} (h:VP w R):∀p∈R,bW w p:=fun p hp=>by
 obtain⟨h0,h1,h2⟩:=h.mem p hp
 exact(lL hw h0 h1 h2).1
theorem VP.pre {a b:List P} (h:VP w (a++b)):VP w a:=
 ⟨fun p hp=>h.mem p (n7 _ hp),(ki.1 h.mJ).1,(ki.1 h.nc).1⟩
theorem Zb:∀{R:List P} {o i:Nat},(R.foldl (fun o p=>o|||2^p.req.toNat) o).testBit i=(o.testBit i||R.any fun p=>decide (p.req.toNat=i))
 |[],o,i=>by simp
 |p::r,o,i=>by
  rw[sV,Zb (R:=r),Cv,LI,oM,Bool.or_assoc]
theorem tL {R:List P} {i:Nat}:(dj R).testBit i=R.any fun p=>decide (p.req.toNat=i):=by
 unfold dj
 rw[Zb];simp
theorem Y9 {R:List P} {n:Nat} (h:∀p∈R,p.req.toNat<n):dj R<2^n:=by
 apply Nat.lt_pow_two_of_testBit
 intro i hi
 rw[tL,zM]
 intro p hp
 have:=h p hp
 simp;omega
theorem Ri {w:W}:∀{R:List P},nS w (R.map (·.req))=aV w R
 |[]=>rfl
 |p::r=>by simp only[gO,nS,aV];rw[Ri]
theorem CN:∀{a b:List Int},a.Pairwise (· <·)→b.Pairwise (· <·)→(∀x,x∈a↔x∈b)→a=b
 |[],[],_,_,_=>rfl
 |[],y::b,_,_,h=>absurd ((h y).2 (by simp)) (by simp)
 |x::a,[],_,_,h=>absurd ((h x).1 (by simp)) (by simp)
 | x :: a, y :: b, ha, hb, h => by
  have h1:=uk.1 ha
  have h2:=uk.1 hb
  have eH:x=y:=by
   rcases eF.1 ((h x).1 (by simp))with e|e
   ·exact e
   ·rcases eF.1 ((h y).2 (by simp))with e2|e2
    ·exact sR e2
    ·have:=h1.1 y e2;have:=h2.1 x e;omega
  subst eH
  congr 1
  refine CN h1.2 h2.2 fun z=>?_
  constructor
  ·intro hz
   rcases eF.1 ((h z).1 (gP _ hz))with e|e
   ·subst e;have:=h1.1 z hz;omega
   ·exact e
  ·intro hz
   rcases eF.1 ((h z).2 (gP _ hz))with e|e
   ·subst e;have:=h2.1 z hz;omega
   ·exact e
theorem VP.re {R:List P} (h:VP w R):dj R<2^w.rs.l.length:=Y9 fun p hp=>by have:=(h.mem p hp).1;have:=(h.mem p hp).2.1;omega
theorem VP.reqs (hw:Wk w) {R:List P} (h:VP w R):dh (dj R)=R.map (·.req):=by
 have et:=hw.v.rl
 have aC:dj R<2^62:=nk h.re (jq (by decide) (by omega))
 refine CN BQ (by rw[um];exact h.mJ) fun x=>?_
 rw[zt aC,tL,fS]
 simp only[cC,dx]
 constructor
 ·rintro⟨h0,p,hp,he⟩
  have:=(h.mem p hp).1
  exact⟨p,hp,by omega⟩
 ·rintro⟨p,hp,rfl⟩
  exact⟨(h.mem p hp).1,p,hp,rfl⟩
theorem VP.val (hw:Wk w) {R:List P} (h:VP w R):jo w (dj R)=aV w R:=by
 unfold jo
 rw[h.reqs hw,Ri]
end
section
variable{w:W}
theorem VP.sep (hw:Wk w) {R:List P} (h:VP w R) {p q:P} (hp:p∈R) (hq:q∈R) (aB:p.req≠q.req):cQ w p q=false:=by
 obtain⟨i,hi⟩:=n5 hp
 obtain⟨j,hj⟩:=n5 hq
 obtain⟨sf,w5⟩:=aY.1 hi
 obtain⟨hU,w6⟩:=aY.1 hj
 have l9:=Cs.1 h.nc
 rcases LD i j with ez|ez|ez
 ·have:=l9 i j sf hU ez
  rwa [w5,w6]at this
 ·subst ez
  rw[hi]at hj;injection hj with hj
  exact absurd (by rw[hj]) aB
 ·have:=l9 j i hU sf ez
  rw[w5,w6]at this
  rw[AK hw (h.iD hw p hp) (h.iD hw q hq)];exact this
theorem sG {l:List P} {i:Int} {p:P} (h:bw l i=some p):p∈l∧p.req=i:=by
 unfold bw at h
 exact⟨RS h,by simpa using Lq h⟩
theorem Qu {l:List P} {i:Int} (h:(bw l i).isNone=true):∀p∈l,p.req≠i:=by
 intro p hp he
 unfold bw at h
 rw[abw,Hj]at h
 exact h p hp (by simpa using he)
theorem KM {l:List P} {i:Int} (h:∃p∈l,p.req=i):∃p,bw l i=some p:=by
 obtain⟨p,hp,he⟩:=h
 unfold bw
 have:(l.find? fun x=>decide (x.req=i)).isSome=true:=List.find?_isSome.2 ⟨p,hp,by simpa using he⟩
 exact oO.1 this
theorem VJ (hw:Wk w) {pl rest:List P} (h:VP w (pl++rest)):gZ w (dL w) pl (dj (pl++rest))=true:=by
 have et:=hw.v.rl
 rw[agk hw h.re]
 have cp:∀i∈iC pl (dj (pl++rest)),∃p,bw (pl++rest) i=some p∧p∈pl++rest∧p.req=i∧∀q∈pl,q.req≠i:=by
  intro i hi
  obtain⟨h1,h2⟩:=eP.1 hi
  rw[h.reqs hw,cC]at h1
  obtain⟨p,hp⟩:=KM h1
  exact⟨p,hp,(sG hp).1,(sG hp).2,Qu h2⟩
 refine⟨fun i=>(bw (pl++rest) i).getD cZ,fun i hi=>?_,fun i hi j hj ez=>?_⟩
 ·obtain⟨p,hp,hm,hr,fF⟩:=cp i hi
  show(bw (pl++rest) i).getD cZ∈_∧∀q∈pl,cQ w ((bw (pl++rest) i).getD cZ) q=false
  rw[hp,kZ]
  refine⟨by rw[←hr];exact(h.mem p hm).2.2,fun q hq=>?_⟩
  exact h.sep hw hm (n7 _ hq) (by rw[hr];exact fun e=>fF q hq (sR e))
 ·obtain⟨p,hp,hm,hr,_⟩:=cp i hi
  obtain⟨q,hq,fD,gI,_⟩:=cp j hj
  show cQ w ((bw (pl++rest) i).getD cZ) ((bw (pl++rest) j).getD cZ)=false
  rw[hp,hq,kZ,kZ]
  exact h.sep hw hm fD (by rw[hr,gI];exact ez)
end
section
variable{w:W}
theorem aqE {all:List (Sl P×Bool)} {m:Nat}:∀{k:Nat},(∀c∈all,c.2=true)→tM m k all=true:=by
 induction all with
 |nil=>intro k _;rfl
 |cons c r ih=>
  intro k h
  simp only[tM]
  rw[h c (by simp),zI,iF]
  exact ih fun x hx=>h x (gP _ hx)
theorem aqD {m:Nat}:pF (dL w) m=true:=by
 unfold pF
 refine aqE fun c hc=>?_
 unfold dL rR at hc
 obtain⟨i,_,rfl⟩:=cC.1 hc
 rfl
theorem Q8:∀{N:Nat},(∀m,m∈(du w (dL w) N).2↔m<N∧gZ w (dL w) [] m=true∧jo w m=(du w (dL w) N).1)∧(∀m,m<N→gZ w (dL w) [] m=true→jo w m≤(du w (dL w) N).1)
 |0=>⟨fun m=>by simp[du],fun m h=>by omega⟩
 | N + 1 => by
  obtain⟨h1,h2⟩:=Q8 (N:=N)
  rw[B9]
  unfold sM
  rw[aqD,iF]
  cases hf:gZ w (dL w) [] N with
  | false =>
   rw[nT,aq (by decide)]
   refine⟨fun m=>?_,fun m hm lu=>?_⟩
   ·rw[h1]
    constructor
    ·rintro⟨a,b,c⟩;exact⟨by omega,b,c⟩
    ·rintro⟨a,b,c⟩
     have:m≠N:=by intro e;rw[e,hf]at b;exact absurd b (by decide)
     exact⟨by omega,b,c⟩
   ·have:m≠N:=by intro e;rw[e,hf]at lu;exact absurd lu (by decide)
    exact h2 m (by omega) lu
  | true =>
   rw[sQ]
   by_cases hle:(du w (dL w) N).1≤jo w N
   ·rw [ak (by simpa using hle)]
    by_cases aC:(du w (dL w) N).1<jo w N
    ·rw[ak aC]
     refine⟨fun m=>?_,fun m hm lu=>?_⟩
     ·simp only[dO]
      constructor
      ·rintro rfl;exact⟨by omega,hf,rfl⟩
      ·rintro⟨a,b,c⟩
       apply qm
       intro aB
       have:=h2 m (by omega) b
       omega
     ·show jo w m≤jo w N
      by_cases e:m=N
      ·rw[e];exact zK _
      ·have:=h2 m (by omega) lu;omega
    ·rw[aq aC]
     refine⟨fun m=>?_,fun m hm lu=>?_⟩
     ·simp only[c9,dO]
      rw[h1]
      constructor
      ·rintro(⟨a,b,c⟩|rfl)
       ·exact⟨by omega,b,c⟩
       ·exact⟨by omega,hf,by omega⟩
      ·rintro⟨a,b,c⟩
       by_cases e:m=N
       ·exact .inr e
       ·exact .inl ⟨by omega,b,c⟩
     ·show jo w m≤(du w (dL w) N).1
      by_cases e:m=N
      ·rw[e];omega
      ·exact h2 m (by omega) lu
   ·rw[aq (by simpa using hle)]
    refine⟨fun m=>?_,fun m hm lu=>?_⟩
    ·rw[h1]
     constructor
     ·rintro⟨a,b,c⟩;exact⟨by omega,b,c⟩
     ·rintro⟨a,b,c⟩
      by_cases e:m=N
      ·subst e;omega
      ·exact⟨by omega,b,c⟩
    ·by_cases e:m=N
     ·subst e;omega
     ·exact h2 m (by omega) lu
def Yw (w:W):Int:=(du w (dL w) (2^w.rs.l.length)).1
def Yv (w:W):List Nat:=(du w (dL w) (2^w.rs.l.length)).2
theorem VP.le_max (hw:Wk w) {R:List P} (h:VP w R):aV w R≤Yw w:=by
 have:=VJ hw (pl:=[]) (rest:=R) (by simpa using h)
 rw[kh]at this
 have h2:=(Q8 (w:=w) (N:=2^w.rs.l.length)).2 (dj R) h.re this
 rwa [h.val hw]at h2
theorem VP.Kp (hw:Wk w) {R:List P} (h:VP w R):dj R∈Yv w↔aV w R=Yw w:=by
 have hf:=VJ hw (pl:=[]) (rest:=R) (by simpa using h)
 rw[kh]at hf
 rw[show Yv w=(du w (dL w) (2^w.rs.l.length)).2 from rfl,(Q8 (w:=w) (N:=2^w.rs.l.length)).1]
 rw[h.val hw]
 exact⟨fun h=>h.2.2,fun hv=>⟨h.re,hf,hv⟩⟩
end
section
variable{w:W}
theorem YE {all:List (Sl P×Bool)} {plan:List P} {own:Nat} {sets:List Nat} {q:P} {j:Nat} (hq:(all.getD j default).1.l.find? (mn w all plan own sets j)=some q):
  ∀{n i:Nat},i≤j→j<i+n→(∀i',i≤i'→i'<j→(all.getD i' default).1.l.find? (mn w all plan own sets i')=none)→mW w all plan own sets i n=some q
 |0,i,h1,h2,_=>by omega
 | n + 1, i, h1, h2, h3 => by
  simp only[mW]
  by_cases e:i=j
  ·subst e;rw[hq]
  ·rw[h3 i (aH _) (by omega)]
   exact YE hq (by omega) (by omega) fun i' a b=>h3 i' (by omega) b
theorem T5 {m o i:Nat}:m&&&(2^(i+1)-1)=o|||2^i↔∀j,((m.testBit j&&decide (j<i+1))=(o.testBit j||decide (i=j))):=by
 constructor
 ·intro h j
  have:=iy (fun x=>Nat.testBit x j) h
  simp only[Nat.testBit_and,Sf,Cv,LI]at this
  exact this
 ·intro h
  apply Nat.eq_of_testBit_eq
  intro j
  rw[Nat.testBit_and,Sf,Cv,LI]
  exact h j
theorem AL {p:P} {l:List P}:cS w p l=false↔∀q∈l,cQ w q p=false:=by
 unfold cS
 rw[zM]
 constructor
 ·intro h q hq;simpa using h q hq
 ·intro h q hq;simpa using h q hq
end
section
variable{w:W}
def eT (w:W) (rq:List Int):Nat→Nat→List P→List (List P)
 |_,0,l=>[l]
 |i,k+1,l=>eT w rq (i+1) k l++if(rq.any fun x=>decide (x=(i:Int)))=true then(cd w l i).flatMap fun p=>eT w rq (i+1) k (l++[p])else[]
theorem VP.snoc (hw:Wk w) {l:List P} (h:VP w l) {i:Nat} (hi:∀p∈l,p.req<i) (aZ:i<w.rs.l.length) {p:P} (hp:p∈cd w l i):VP w (l++[p])∧p.req=i:=by
 obtain⟨gV,hc⟩:=eP.1 hp
 have hc:cS w p l=false:=by simpa using hc
 obtain⟨dE,hr,_⟩:=lL hw (show(0:Int)≤(i:Int)by omega) (by omega) gV
 refine⟨⟨fun q hq=>?_,?_,?_⟩,hr⟩
 ·rw[c9,dO]at hq
  rcases hq with hq|rfl
  ·exact h.mem q hq
  ·rw[hr];exact⟨by omega,by omega,gV⟩
 ·rw[ki]
  refine⟨h.mJ,Lx _ _,fun a ha b hb=>?_⟩
  rw[dO]at hb;subst hb
  rw[hr];exact hi a ha
 ·rw[ki]
  refine⟨h.nc,Lx _ _,fun a ha b hb=>?_⟩
  rw[dO]at hb;subst hb
  exact AL.1 hc a ha
theorem KR (hw:Wk w) {rq:List Int}:∀{k i:Nat} {l X:List P},i+k=w.rs.l.length→VP w l→(∀p∈l,p.req<i)→
  (X∈eT w rq i k l↔VP w X∧∃t,X=l++t∧∀p∈t,(i:Int)≤p.req∧p.req∈rq)
 | 0, i, l, X, hk, hl, hi => by
  simp only[eT,dO]
  constructor
  ·rintro rfl;exact⟨hl,[],by simp,fun p hp=>absurd hp (by simp)⟩
  ·rintro⟨hX,t,rfl,ht⟩
   cases t with
   |nil=>simp
   |cons p t=>
    have h1:=(hX.mem p (by simp)).2.1
    have h2:=(ht p (by simp)).1
    omega
 | k + 1, i, l, X, hk, hl, hi => by
  simp only[eT,c9]
  rw[KR hw (k:=k) (i:=i+1) (by omega) hl fun p hp=>by have:=hi p hp;omega]
  constructor
  ·rintro(⟨hX,t,rfl,ht⟩|h)
   ·exact⟨hX,t,rfl,fun p hp=>⟨by have:=(ht p hp).1;omega,(ht p hp).2⟩⟩
   ·by_cases hr:(rq.any fun x=>decide (x=(i:Int)))=true
    ·rw[ak hr,List.mem_flatMap]at h
     obtain⟨p,hp,hX⟩:=h
     obtain⟨hv,qO⟩:=hl.snoc hw hi (by omega) hp
     rw[KR hw (k:=k) (i:=i+1) (by omega) hv fun q hq=>by
      rw[c9,dO]at hq
      rcases hq with hq|rfl
      ·have:=hi q hq;omega
      ·omega]at hX
     obtain⟨hX,t,rfl,ht⟩:=hX
     refine⟨hX,p::t,by simp,fun q hq=>?_⟩
     rcases eF.1 hq with rfl|hq
     ·refine⟨by omega,?_⟩
      obtain⟨x,hx,he⟩:=fS.1 hr
      rw[qO,←Qi he];exact hx
     ·exact⟨by have:=(ht q hq).1;omega,(ht q hq).2⟩
    ·rw[aq hr]at h;exact absurd h (by simp)
  ·rintro⟨hX,t,rfl,ht⟩
   by_cases hex:∃p t',t=p::t'∧p.req=i
   ·obtain⟨p,t',rfl,hp⟩:=hex
    right
    have hr:(rq.any fun x=>decide (x=(i:Int)))=true:=fS.2 ⟨p.req,(ht p (by simp)).2,by simp[hp]⟩
    rw[ak hr,List.mem_flatMap]
    have oC:=(hX.mem p (by simp)).2.2
    rw[hp]at oC
    have qM:p∈cd w l i:=eP.2 ⟨oC,by
     have:cS w p l=false:=AL.2 fun a ha=>by
      have:=hX.nc
      rw[ki]at this
      exact this.2.2 a ha p (by simp)
     rw[this];rfl⟩
    obtain⟨hv,qO⟩:=hl.snoc hw hi (by omega) qM
    refine⟨p,qM,?_⟩
    rw[KR hw (k:=k) (i:=i+1) (by omega) hv fun q hq=>by
      rw[c9,dO]at hq
      rcases hq with hq|rfl
      ·have:=hi q hq;omega
      ·omega]
    refine⟨hX,t',by simp,fun q hq=>⟨?_,(ht q (gP _ hq)).2⟩⟩
    have:=hX.mJ
    rw[ki,uk]at this
    have:=this.2.1.1 q hq
    omega
   ·left
    refine⟨hX,t,rfl,fun p hp=>⟨?_,(ht p hp).2⟩⟩
    cases t with
    |nil=>exact absurd hp (by simp)
    | cons q t' =>
     have hq:=(ht q (by simp)).1
     have hqn:q.req≠i:=fun e=>hex ⟨q,t',rfl,e⟩
     rcases eF.1 hp with rfl|hp
     ·omega
     ·have:=hX.mJ
      rw[ki,uk]at this
      have:=this.2.1.1 p hp
      omega
theorem acJ {y:List P}:∀{a b:List P},a.map kP=b.map kP→cg y a=cg y b:=by
 induction y with
 | nil =>
  intro a b h
  cases a with
  |nil=>cases b with
   |nil=>rfl
   |cons _ _=>simp at h
  |cons _ _=>cases b with
   |nil=>simp at h
   |cons _ _=>rfl
 | cons x r ih =>
  intro a b h
  cases a with
  |nil=>cases b with
   |nil=>rfl
   |cons _ _=>simp at h
  | cons u a => cases b with
   |nil=>simp at h
   |cons v b=>
    rw[gO,gO,xP]at h
    simp only[cg]
    rw[h.1,ih h.2]
def better (w:W) (a b:List P):Bool:=decide (aV w b<aV w a)||(decide (aV w a=aV w b)&&cg a b)
def lj (w:W) (b:List P) (l:List (List P)):List P:=l.foldl (fun b x=>if better w x b=true then x else b) b
theorem Nt:∀{l:List (List P)} {b:List P},(lj w b l=b∨lj w b l∈l)∧aV w b≤aV w (lj w b l)∧(∀x∈l,aV w x≤aV w (lj w b l))∧
  (aV w b=aV w (lj w b l)→cg b (lj w b l)=false)∧(∀x∈l,aV w x=aV w (lj w b l)→cg x (lj w b l)=false)
 |[],b=>⟨.inl rfl,zK _,fun x hx=>absurd hx (by simp),fun _=>Dw,fun x hx=>absurd hx (by simp)⟩
 | x :: r, b => by
  have e:lj w b (x::r)=lj w (if better w x b=true then x else b) r:=rfl
  rw[e]
  by_cases hb:better w x b=true
  ·rw[ak hb]
   obtain⟨h1,h2,h3,h4,h5⟩:=Nt (l:=r) (b:=x)
   have su:aV w b≤aV w x∧(aV w b=aV w x→cg x b=true):=by
    unfold better at hb
    rw[ru,dI,dx,dx]at hb
    rcases hb with hb|⟨hb,iN⟩
    ·exact⟨by omega,fun h=>by omega⟩
    ·exact⟨by omega,fun _=>iN⟩
   refine⟨?_,by omega,fun y hy=>?_,fun hv=>?_,fun y hy hv=>?_⟩
   ·rcases h1 with h1|h1
    ·right;rw[h1];simp
    ·right;exact gP _ h1
   ·rcases eF.1 hy with rfl|hy
    ·exact h2
    ·exact h3 y hy
   ·have hx:=h4 (by omega)
    have dp:=su.2 (by omega)
    cases hc:cg b (lj w x r)with
    |false=>rfl
    |true=>rw[Ak dp hc]at hx;exact absurd hx (by decide)
   ·rcases eF.1 hy with rfl|hy
    ·exact h4 hv
    ·exact h5 y hy hv
  ·rw [aq hb]
   obtain⟨h1,h2,h3,h4,h5⟩:=Nt (l:=r) (b:=b)
   have su:aV w x≤aV w b∧(aV w x=aV w b→cg x b=false):=by
    unfold better at hb
    rw[ru,dI,dx,dx,not_or]at hb
    refine⟨by omega,fun hv=>?_⟩
    cases hc:cg x b with
    |false=>rfl
    |true=>exact absurd ⟨hv,hc⟩ hb.2
   refine⟨?_,h2,fun y hy=>?_,h4,fun y hy hv=>?_⟩
   ·rcases h1 with h1|h1
    ·exact .inl h1
    ·right;exact gP _ h1
   ·rcases eF.1 hy with rfl|hy
    ·omega
    ·exact h3 y hy
   ·rcases eF.1 hy with rfl|hy
    ·have hx:=su.2 (by omega)
     have iN:=h4 (by omega)
     cases hc:cg y (lj w b r)with
     |false=>rfl
     | true =>
      cases wQ:cg (lj w b r) b with
      |true=>rw[Ak hc wQ]at hx;exact absurd hx (by decide)
      |false=>
       have hk:=IW iN wQ
       rw[acJ (sR hk),hx]at hc
       exact absurd hc (by decide)
    ·exact h5 y hy hv
end
section
variable{s:ae} {w:W}
theorem ZB (hs:Ok s) (hw:w.Ok) (hf:w.kY):aw AP (.fn 10) [w.v] s=some (I (ie w),s):=by
 have mf:∀r,aw AP (.fn 34) [w.v] (s.push r)=some (I (dH w).2.2,s.push r):=fun r=>ZD (hs.push r) hw hf
 simp only[W.v,bQ,Sl.v]at mf
 unfold ie
 by_cases h0:(dH w).2.2=0
 ·rw [ak h0]
  have cV:Wk w:=⟨hw,hf,sO h0⟩
  have et:=cV.v.rl
  have h6:decide ((6:Int)<(w.rs.l.length:Int))=!decide (w.rs.l.length≤6):=oh (by omega)
  have key:∀(k:Nat) ρ m,k≤w.rs.l.length→(ρ 1=.ptr s.ag.length 0 0∧ρ 4=I k∧∃bx,m=s.push ⟨bQ w::bx,[]⟩)→
    go AP afB (.c (.loop C5)::am1) ⟨ρ,m⟩=some (I (cond ((w.rs.l.drop k).any fun r=>decide (8<r.hi-r.lo+2-r.len)) 8 0),s):=by
   refine cq _ _ _ ?_ ?_
   ·rintro k ρ m hk ⟨g1,g4,bx,rfl⟩ ih
    obtain⟨q,hq⟩:=get_some hk
    have bG:=Sl.ix (f:=bV) hw.rs hq
    have Gc:=cV.v.r q (bK hq)
    have a1:=Gc.qX
    have a2:=Gc.aZ
    have a3:=Gc.BN
    have a4:=Gc.qi
    have a5:=Gc.pz
    have a6:=cV.v.n2
    have w1:IntKind.i64.wrap (IntKind.i64.wrap (IntKind.i64.wrap (IntKind.i64.wrap (q.hi-q.lo)+1)-q.len)+1)=q.hi-q.lo+2-q.len:=by
     rw[bR (x:=q.hi-q.lo) (by omega) (by omega),bR (x:=q.hi-q.lo+1) (by omega) (by omega),bR (x:=q.hi-q.lo+1-q.len) (by omega) (by omega),bR (by omega) (by omega)];omega
    simp only[bV,Sl.v]at bG
    rw[eo hq,oM]
    cases hd:decide (8<q.hi-q.lo+2-q.len)with
    |true=>simp only[go_sem,C5,g1,g4,hs,aR hk,bG,w1,hd,zI,simprocAttr]
    |false=>
     simp only[go_sem,C5,g1,g4,hs,aR hk,bG,w1,hd,bJ hk (show(w.rs.l.length:Int)<_ by omega),simprocAttr]
     rw[nU]
     refine ih _ _ ?_
     exact⟨g1,rfl,_,rfl⟩
   ·rintro ρ m ⟨g1,g4,bx,rfl⟩
    simp only[go_sem,C5,MA,g1,g4,bM,simprocAttr]
    rw[eE];rfl
  rw[aL (show AP 10=some Ar from rfl) rfl]
  unfold zG
  cases hd:decide (w.rs.l.length≤6)with
  |false=>simp only[go_sem,Ii,mf,h0,h6,hd,bq,fI,nV,jZ,simprocAttr]
  | true =>
   simp only[go_sem,Ii,mf,h0,h6,hd,bq,fI,jH,simprocAttr]
   refine ub (key 0 _ _ (bh _) ?_) ?_
   ·exact⟨rfl,rfl,[],rfl⟩
   ·rw[kI]
    cases(w.rs.l.any fun r=>decide (8<r.hi-r.lo+2-r.len))<;>rfl
 ·rw[aq h0]
  rw[aL (show AP 10=some Ar from rfl) rfl]
  simp only[go_sem,Ii,mf,h0,bq,jV,simprocAttr]
theorem aro (hs:Ok s) (et:w.rs.l.length≤14):aw AP (.fn 38) [w.v] s=some (bp 1 (((List.range w.rs.l.length).map fun i:Nat=>(i:Int)).map aD),s):=by
 have key:∀(k:Nat) ρ m,k≤w.rs.l.length→(ρ 1=.ptr s.ag.length 0 0∧ρ 4=I k∧∃y og tk,Acc s.ag.length 1 (((List.range k).map fun i:Nat=>(i:Int)).map aD) y og tk∧ρ 3=y∧m=s.push ⟨[bQ w],tk⟩)→
   go AP afq (.c (.loop H4)::amI) ⟨ρ,m⟩=some (bp 1 (((List.range w.rs.l.length).map fun i:Nat=>(i:Int)).map aD),s):=by
  refine cq _ _ _ ?_ ?_
  ·rintro k ρ m hk ⟨g1,g4,y,og,tk,hA,g3,rfl⟩ ih
   obtain⟨y2,eS,kW,cw,dX,_,_⟩:=hA.append hs .full (ys:=[aD k]) (by simp) (by simp;omega)
   obtain⟨oa,ea,ra,rfl⟩:=Acc.sl hA
   obtain⟨ob,eb,rb,rfl⟩:=Acc.sl dX
   simp only[aD]at cw
   simp only[go_sem,H4,g1,g3,g4,aR hk,cw,bJ hk (show(w.rs.l.length:Int)<_ by omega),simprocAttr]
   refine ih _ _ ?_
   refine⟨g1,rfl,_,eS,kW,?_,rfl,rfl⟩
   rw[zR,fT,fT];exact dX
  ·rintro ρ m ⟨g1,g4,y,og,tk,hA,g3,rfl⟩
   have cT:=fun q:ae=>hA.leave q
   obtain⟨oa,ea,ra,rfl⟩:=Acc.sl hA
   simp only[go_sem,H4,Mi,g1,g3,g4,bM,cT,simprocAttr]
 rw[aL (show AP 38=some DR from rfl) rfl]
 simp only[go_sem,S3,simprocAttr]
 refine key 0 _ _ (bh _) ?_
 exact⟨rfl,rfl,_,none,[],Acc.start,rfl,rfl⟩
end
section
variable{s:ae} {w:W}
theorem aeq {x y:P}:decide (kq x y<0)=lexB (kP x) (kP y):=by
 unfold kq
 cases lexB (kP x) (kP y)with
 |true=>rfl
 |false=>cases lexB (kP y) (kP x)<;>rfl
theorem cmp_eq {x y:P}:kq x y=0↔kP x=kP y:=by
 constructor
 ·intro h
  unfold kq at h
  cases h1:lexB (kP x) (kP y)with
  |true=>rw[h1,ak rfl]at h;exact absurd h (by decide)
  |false=>
   cases h2:lexB (kP y) (kP x)with
   |true=>rw[h1,h2]at h;exact absurd h (by decide)
   |false=>exact Kx h1 h2
 ·exact NB
theorem arp {a b:List P} {o1 o2:Own} {e1 e2:Nat} (hs:Ok s) (h1:a=[]∨e1=3) (h2:b=[]∨e2=3) (l1:Cz a) (l2:Cz b):
  aw AP (.fn 42) [.slice o1 e1 (a.map aj),.slice o2 e2 (b.map aj)] s=some (B (cg a b),s):=by
 have u3:=l1.len
 have hlb:=l2.len
 have key:∀(k:Nat) ρ m,k≤min a.length b.length→(ρ 0=.slice o1 e1 (a.map aj)∧ρ 1=.slice o2 e2 (b.map aj)∧ρ 5=I k∧m=s.push ⟨[],[]⟩)→
   go AP afr (.c (.loop Ag)::amJ) ⟨ρ,m⟩=some (B (cg (a.drop k) (b.drop k)),s):=by
  refine cq (min a.length b.length) _ _ ?_ ?_
  ·rintro k ρ m hk ⟨g0,g1,g5,rfl⟩ ih
   obtain⟨x,hx⟩:=get_some (l:=a) (k:=k) (by omega)
   obtain⟨y,hy⟩:=get_some (l:=b) (k:=k) (by omega)
   have kN:e1=3:=by rcases h1 with h|h;(rw[h]at hx;simp at hx);exact h
   have jv:e2=3:=by rcases h2 with h|h;(rw[h]at hy;simp at hy);exact h
   subst kN;subst jv
   have ha:=cr (f:=aj) (o:=o1) (es:=3) hx
   have hb:=cr (f:=aj) (o:=o2) (es:=3) hy
   have qd:=l1.ok x (bK hx)
   have fe:=l2.ok y (bK hy)
   have ot:∀r,aw AP (.fn 43) [.agg (aj x),.agg (aj y)] (s.push r)=some (I (kq x y),s.push r):=fun r=>QF (hs.push r) qd.1 fe.1 qd.2 fe.2
   have d1:decide ((k:Int)<(a.length:Int))=true:=by simp;omega
   have d2:decide ((k:Int)<(b.length:Int))=true:=by simp;omega
   have xi:IntKind.i64.wrap ((k:Int)+1)=((k+1:Nat):Int):=by rw[bR (by omega) (by omega)];omega
   rw[eo hx,eo hy,cg]
   simp only[aj,Sl.v]at ot ha hb
   by_cases hc:kq x y=0
   ·have hd:decide (¬kq x y=0)=false:=by simp[hc]
    rw[ak (cmp_eq.1 hc)]
    simp only[go_sem,Ag,g0,g1,g5,d1,d2,ha,hb,ot,hd,bq,xi,simprocAttr]
    refine ih _ _ ?_
    exact⟨g0,g1,rfl,rfl⟩
   ·have hd:decide (¬kq x y=0)=true:=by simp[hc]
    rw[aq (fun e=>hc (cmp_eq.2 e)),←aeq]
    simp only[go_sem,Ag,g0,g1,g5,d1,d2,ha,hb,ot,hd,bq,simprocAttr]
  ·rintro ρ m ⟨g0,g1,g5,rfl⟩
   by_cases gB:a.length≤b.length
   ·have nM:min a.length b.length=a.length:=by omega
    rw[nM]at g5⊢
    have d1:decide ((a.length:Int)<(a.length:Int))=false:=by simp
    rw[eE]
    simp only[go_sem,Ag,H5,g0,g1,g5,d1,simprocAttr]
    by_cases aC:a.length<b.length
    ·obtain⟨y,hy⟩:=get_some aC
     rw[eo hy]
     simp only[cg]
     have:decide ((a.length:Int)<(b.length:Int))=true:=by simp;omega
     rw[this]
    ·rw[xQ (by omega)]
     simp only[cg]
     have:decide ((a.length:Int)<(b.length:Int))=false:=by simp;omega
     rw[this]
   ·have nM:min a.length b.length=b.length:=by omega
    rw[nM]at g5⊢
    have d1:decide ((b.length:Int)<(a.length:Int))=true:=by simp;omega
    have d2:decide ((b.length:Int)<(b.length:Int))=false:=by simp
    obtain⟨x,hx⟩:=get_some (l:=a) (k:=b.length) (by omega)
    have d3:decide ((a.length:Int)<(b.length:Int))=false:=by simp;omega
    simp only[go_sem,Ag,H5,g0,g1,g5,d1,d2,d3,simprocAttr]
    rw[eo hx,eE];rfl
 rw[aL (show AP 42=some DS from rfl) rfl]
 simp only[go_sem,S4,simprocAttr]
 exact key 0 _ _ (bh _) ⟨rfl,rfl,rfl,rfl⟩
end
section
variable{s:ae} {w:W}
def vC (w:W) (di:Int):Nat→Nat→Int→Int
 |_,0,n=>n
 |i,k+1,n=>if n≤di then vC w di (i+1) k (n*(1+(cY w (i:Int)).length))else n
theorem arD (hs:Ok s) (hw:Wk w):aw AP (.fn 21) [w.v,I 2000] s=some (I (vC w 2000 0 w.rs.l.length 1),s):=by
 have et:=hw.v.rl
 have key:∀(k:Nat) (i:Nat) (n:Int) ρ m,i+k=w.rs.l.length→(ρ 1=I 2000∧ρ 2=.ptr s.ag.length 0 0∧ρ 5=I n∧ρ 6=I i∧1≤n∧m=s.push ⟨[bQ w],[]⟩)→
   go AP afD (.c (.loop C6)::am3) ⟨ρ,m⟩=some (I (vC w 2000 i k n),s):=by
  intro k
  induction k with
  |zero=>
   rintro i n ρ m hk ⟨g1,g2,g5,g6,hn,rfl⟩
   have hi:i=w.rs.l.length:=by omega
   subst hi
   rw[go_loop]
   simp only[go_sem,C6,Ik,g2,g5,g6,bM,simprocAttr]
   rfl
  | succ k ih =>
   rintro i n ρ m hk ⟨g1,g2,g5,g6,hn,rfl⟩
   have p8:=xA hw (i:=(i:Int)) (by omega) (by omega)
   have cH:∀r,aw AP (.fn 50) [w.v,I i] (s.push r)=some (bp 3 (((cY w i).map (eU (w.rq i).need.toNat)).map aj),s.push r):=fun r=>ZA (hs.push r) hw (by omega) (by omega)
   have yX:mm false (bp 3 (((cY w i).map (eU (w.rq i).need.toNat)).map aj))=some (I (cY w i).length):=by rw[Gx,bE,bE]
   simp only[W.v,bQ,Sl.v]at cH
   rw[go_loop]
   simp only[vC]
   by_cases hle:n≤2000
   ·rw[ak hle]
    have hb:n*(1+((cY w i).length:Int))≤2000*13001:=by
     refine Int.le_trans (RA hle (by omega)) ?_
     omega
    have jN:1≤n*(1+((cY w i).length:Int)):=by
     have:=Int.mul_pos (show(0:Int)<n by omega) (show(0:Int)<1+((cY w i).length:Int)by omega)
     omega
    have w1:IntKind.i64.wrap (1+((cY w i).length:Int))=1+((cY w i).length:Int):=bR (by omega) (by omega)
    have w2:IntKind.i64.wrap (n*(1+((cY w i).length:Int)))=n*(1+((cY w i).length:Int)):=bR (by omega) (by omega)
    have d1:decide ((i:Int)<(w.rs.l.length:Int))=true:=by simp;omega
    have d2:decide (n≤2000)=true:=by simpa using hle
    have w3:IntKind.i64.wrap ((i:Int)+1)=((i+1:Nat):Int):=by rw[bR (by omega) (by omega)];omega
    simp only[go_sem,C6,g1,g2,g5,g6,d1,d2,cH,yX,w1,w2,w3,simprocAttr]
    refine ih (i+1) _ _ _ (by omega) ?_
    exact⟨g1,g2,rfl,rfl,jN,rfl⟩
   ·rw[aq hle]
    have d1:decide ((i:Int)<(w.rs.l.length:Int))=true:=by simp;omega
    have d2:decide (n≤2000)=false:=by simp;omega
    simp only[go_sem,C6,Ik,g1,g2,g5,g6,d1,d2,simprocAttr]
 rw[aL (show AP 21=some D7 from rfl) rfl]
 simp only[go_sem,Tg,simprocAttr]
 refine key w.rs.l.length 0 1 _ _ (by omega) ?_
 exact⟨rfl,rfl,rfl,rfl,by omega,rfl⟩
end
end Go.Ax.Sx.Sc
