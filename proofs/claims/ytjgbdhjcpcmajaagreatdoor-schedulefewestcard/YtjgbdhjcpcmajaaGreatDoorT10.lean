/- A part of the proof. -/
import Derived.Test.YtjgbdhjcpcmajaaGreatDoorT9
set_option linter.unusedSimpArgs false
set_option linter.unusedVariables false
set_option maxRecDepth 100000
namespace Go.Ax.Sx.Sc
open Go.Ax
section
variable{w:W}
structure Lh (w:W) (l:List (List P)) (c:Nat→P):Prop where
 mem:∀k x,l[k]? =some x→c k∈x
 nc:∀j k,j<l.length→k<l.length→j≠k→dE w (c j) (c k)=false
theorem Ha {p x:P} {l:List P}:x∈wo w p l↔x∈l∧dE w x p=false:=by
 unfold wo
 rw[eT]
 simp
theorem Vn {p:P} {l:List (List P)} {s k:Nat}:((l.eraseIdx s).map (wo w p))[k]? =((if k<s then l[k]? else l[k+1]?).map (wo w p)):=by
 rw[jf,List.getElem?_eraseIdx]
theorem VW (hw:Wk w):∀(n:Nat) (l:List (List P)),l.length=n→(∀x∈l,∀p∈x,ch w p)→pN w n l=true→∃c,Lh w l c
 |0,l,hl,_,_=>⟨fun _=>bV,fun k x h=>by rw[sU hl]at h;simp at h,fun j k h=>by omega⟩
 | n + 1, l, hl, hp, h => by
  have aB:l≠[]:=by intro e;rw[e]at hl;simp at hl
  have hs:=Rm aB
  simp only[pN]at h
  generalize fK l=s at*
  obtain⟨x,hx⟩:=get_some hs
  rw[List.getD,hx,kR,fL]at h
  obtain⟨p,J3,hf⟩:=h
  have fI:=bQ hx
  have jF:=hp x fI p J3
  have FN:((l.eraseIdx s).map (wo w p)).length=n:=by rw[bY,Lr hs];omega
  obtain⟨c,dU,gj⟩:=VW hw n ((l.eraseIdx s).map (wo w p)) FN (fun y hy q hq=>by
   obtain⟨z,hz,rfl⟩:=cC.1 hy
   exact hp z (Sb hz) q (Ha.1 hq).1) hf
  rw[FN]at gj
  have key:∀k,k<n→∃y,l[if k<s then k else k+1]? =some y∧c k∈y∧dE w (c k) p=false∧ch w (c k):=by
   intro k hk
   obtain⟨y,hy⟩:=get_some (l:=(l.eraseIdx s).map (wo w p)) (k:=k) (by omega)
   have hm:=dU k y hy
   rw[Vn]at hy
   obtain⟨z,hz,rfl⟩:=aU.1 hy
   obtain⟨ll,gU⟩:=Ha.1 hm
   have Gn:l[if k<s then k else k+1]? =some z:=by
    by_cases h:k<s
    ·rw[ak h]at hz⊢;exact hz
    ·rw[aq h]at hz⊢;exact hz
   exact⟨z,Gn,ll,gU,hp z (bQ Gn) _ ll⟩
  refine⟨fun k=>if k<s then c k else if k=s then p else c (k-1),?_,?_⟩
  ·intro k y hy
   have tF:=(bd.1 hy).1
   show(if k<s then c k else if k=s then p else c (k-1))∈y
   by_cases h1:k<s
   ·rw[ak h1]
    obtain⟨z,hz,hm,_⟩:=key k (by omega)
    rw[ak h1,hy]at hz;injection hz with hz;rw[hz];exact hm
   ·rw[aq h1]
    by_cases h2:k=s
    ·rw[ak h2];subst h2;rw[hx]at hy;injection hy with hy;rw[←hy];exact J3
    ·rw[aq h2]
     obtain⟨z,hz,hm,_⟩:=key (k-1) (by omega)
     rw[aq (by omega),show k-1+1=k by omega,hy]at hz;injection hz with hz;rw[hz];exact hm
  ·intro j k hj hk u3
   show dE w (if j<s then c j else if j=s then p else c (j-1)) (if k<s then c k else if k=s then p else c (k-1))=false
   have n6:∀i,i<n→dE w p (c i)=false:=fun i hi=>by
    obtain⟨_,_,_,h3,h4⟩:=key i hi
    rw[Fe hw jF h4];exact h3
   have tD:∀i,i<n→dE w (c i) p=false:=fun i hi=>(key i hi).choose_spec.2.2.1
   by_cases j1:j<s
   ·rw[ak j1]
    by_cases k1:k<s
    ·rw[ak k1];exact gj j k (by omega) (by omega) u3
    ·rw[aq k1]
     by_cases k2:k=s
     ·rw[ak k2];exact tD j (by omega)
     ·rw[aq k2];exact gj j (k-1) (by omega) (by omega) (by omega)
   ·rw[aq j1]
    by_cases j2:j=s
    ·rw[ak j2]
     by_cases k1:k<s
     ·rw[ak k1];exact n6 k (by omega)
     ·rw[aq k1,aq (by omega)];exact n6 (k-1) (by omega)
    ·rw[aq j2]
     by_cases k1:k<s
     ·rw[ak k1];exact gj (j-1) k (by omega) (by omega) (by omega)
     ·rw[aq k1]
      by_cases k2:k=s
      ·rw[ak k2];exact tD (j-1) (by omega)
      ·rw[aq k2];exact gj (j-1) (k-1) (by omega) (by omega) (by omega)
theorem Y0 (hw:Wk w):∀(n:Nat) (l:List (List P)),l.length=n→(∀x∈l,∀p∈x,ch w p)→(∃c,Lh w l c)→pN w n l=true
 |0,_,_,_,_=>rfl
 | n + 1, l, hl, hp, ⟨c, dU, gj⟩ => by
  have aB:l≠[]:=by intro e;rw[e]at hl;simp at hl
  have hs:=Rm aB
  simp only[pN]
  generalize fK l=s at*
  obtain⟨x,hx⟩:=get_some hs
  rw[List.getD,hx,kR,fL]
  have FN:((l.eraseIdx s).map (wo w (c s))).length=n:=by rw[bY,Lr hs];omega
  refine⟨c s,dU s x hx,Y0 hw n _ FN (fun y hy q hq=>by
   obtain⟨z,hz,rfl⟩:=cC.1 hy
   exact hp z (Sb hz) q (Ha.1 hq).1) ⟨fun k=>c (if k<s then k else k+1),fun k y hy=>?_,fun j k hj hk u3=>?_⟩⟩
  ·have tF:=(bd.1 hy).1
   rw[Vn]at hy
   obtain⟨z,hz,rfl⟩:=aU.1 hy
   have Gn:l[if k<s then k else k+1]? =some z:=by
    by_cases h:k<s
    ·rw[ak h]at hz⊢;exact hz
    ·rw[aq h]at hz⊢;exact hz
   exact Ha.2 ⟨dU _ z Gn,gj _ _ (bd.1 Gn).1 hs (by split<;>omega)⟩
  ·rw[FN]at hj hk
   exact gj _ _ (by split<;>omega) (by split<;>omega) (by split<;>split<;>omega)
theorem VV (hw:Wk w) {l:List (List P)} (hp:∀x∈l,∀p∈x,ch w p):fit w l=true↔∃c,Lh w l c:=
 ⟨VW hw l.length l rfl hp,Y0 hw l.length l rfl hp⟩
end
section
variable{w:W}
theorem RD {q:P}:∀{plan:List P} {x:Sl P},q∈(jv w plan x).l↔q∈x.l∧∀p∈plan,dE w q p=false
 |[],x=>by simp[jv]
 |p::r,x=>by
  have h:jv w (p::r) x=jv w r (eD 3 (wo w p x.l)):=rfl
  rw[h,RD (plan:=r),kT,Ha]
  simp only[eC,forall_eq_or_imp]
  constructor
  ·rintro⟨⟨h1,h2⟩,h3⟩;exact⟨h1,h2,h3⟩
  ·rintro⟨h1,h2,h3⟩;exact⟨⟨h1,h2⟩,h3⟩
theorem KN {i:Int}:ct w [] i=dT w i:=by
 unfold ct
 rw[Lk]
 intro x _;rfl
theorem agk {i:Nat} (h:i<w.rs.l.length):(dG w).getD i default=(eD 3 (dT w (i:Int)),true):=by
 unfold dG rN
 rw[List.getD,jf,Ho h]
 simp only[dK,kR,KN]
def il (pl:List P) (m:Nat):List Int:=(de m).filter fun i=>(aM pl i).isNone
theorem zu {m:Nat} {i:Int} (hm:m<2^62):i∈de m↔0≤i∧m.testBit i.toNat=true:=by
 unfold de pr
 simp only[cC,eT,nQ]
 constructor
 ·rintro⟨k,⟨h1,h2⟩,rfl⟩;exact⟨by omega,by simpa using h2⟩
 ·rintro⟨h0,h1⟩
  refine⟨i.toNat,⟨?_,h1⟩,by omega⟩
  apply qi
  intro h
  have:m<2^i.toNat:=na hm (ji (by decide) (by omega))
  rw[HF this]at h1
  exact absurd h1 (by decide)
theorem BH {m:Nat}:(de m).Pairwise (· <·):=by
 unfold de pr
 rw[rz]
 refine(Cf _ abB).imp fun h=>by omega
theorem age (hw:Wk w) {pl:List P} {m:Nat} (hm:m<2^w.rs.l.length):
  gP w (dG w) pl m=true↔∃f:Int→P,(∀i∈il pl m,f i∈dT w i∧∀p∈pl,dE w (f i) p=false)∧(∀i∈il pl m,∀j∈il pl m,i≠j→dE w (f i) (f j)=false):=by
 have et:=hw.v.rl
 have qK:m<2^62:=na hm (ji (by decide) (by omega))
 have bH:∀i∈il pl m,0≤i∧i<w.rs.l.length:=by
  intro i hi
  obtain⟨h0,h1⟩:=(zu qK).1 (eT.1 hi).1
  refine⟨h0,?_⟩
  apply qi
  intro h
  have:m<2^i.toNat:=na hm (ji (by decide) (by omega))
  rw[HF this]at h1
  exact absurd h1 (by decide)
 have pU:(il pl m).Pairwise (· <·):=Cf _ BH
 have OU:(l7 w (dG w) pl (de m)).map (·.l)=(il pl m).map fun i=>(jv w pl ((dG w).getD i.toNat default).1).l:=by
  unfold l7 il
  rw[vO];rfl
 unfold gP
 rw[OU]
 have dS:∀i∈il pl m,∀q,q∈(jv w pl ((dG w).getD i.toNat default).1).l↔q∈dT w i∧∀p∈pl,dE w q p=false:=by
  intro i hi q
  obtain⟨h0,h1⟩:=bH i hi
  rw[agk (by omega),RD,kT,show((i.toNat:Nat):Int)=i by omega]
 generalize il pl m=L at*
 have hP:∀x∈L.map (fun i=>(jv w pl ((dG w).getD i.toNat default).1).l),∀p∈x,ch w p:=by
  intro x hx p hp
  obtain⟨i,hi,rfl⟩:=cC.1 hx
  obtain⟨h0,h1⟩:=bH i hi
  exact(nG hw h0 h1 ((dS i hi p).1 hp).1).1
 rw[VV hw hP]
 constructor
 ·rintro⟨c,dU,gj⟩
  refine⟨fun i=>c (L.idxOf i),fun i hi=>?_,fun i hi j hj er=>?_⟩
  ·have hk:L[L.idxOf i]? =some i:=by
    rw[cM (uq.2 hi),Ch]
   have:=dU (L.idxOf i) _ (by rw[jf,hk];rfl)
   exact(dS i hi _).1 this
  ·refine gj _ _ ?_ ?_ ?_
   ·rw[bY];exact uq.2 hi
   ·rw[bY];exact uq.2 hj
   ·intro e
    apply er
    have h1:L[L.idxOf i]? =some i:=by rw[cM (uq.2 hi),Ch]
    have h2:L[L.idxOf j]? =some j:=by rw[cM (uq.2 hj),Ch]
    rw[e,h2]at h1;injection h1 with h1;exact sR h1
 ·rintro⟨f,jQ,gL⟩
  refine⟨fun k=>f (L.getD k 0),fun k x hx=>?_,fun j k hj hk u3=>?_⟩
  ·rw[jf]at hx
   obtain⟨i,hi,rfl⟩:=aU.1 hx
   have gU:=bQ hi
   show f (L.getD k 0)∈_
   have e0:L.getD k 0=i:=by rw[List.getD,hi];rfl
   rw[e0]
   exact(dS i gU _).2 (jQ i gU)
  ·rw[bY]at hj hk
   obtain⟨a,ha⟩:=get_some hj
   obtain⟨b,hb⟩:=get_some hk
   show dE w (f (L.getD j 0)) (f (L.getD k 0))=false
   rw[List.getD,List.getD,ha,hb,kR,kR]
   refine gL a (bQ ha) b (bQ hb) ?_
   intro e
   subst e
   have lV:=Cj.1 pU
   obtain⟨_,ea⟩:=bd.1 ha
   obtain⟨_,eb⟩:=bd.1 hb
   rcases So u3 with h|h
   ·have:=lV j k hj hk h;omega
   ·have:=lV k j hk hj h;omega
end
section
variable{w:W}
structure VP (w:W) (R:List P):Prop where
 mem:∀p∈R,0≤p.req∧p.req<w.rs.l.length∧p∈dT w p.req
 kW:R.Pairwise fun a b=>a.req<b.req
 nc:R.Pairwise fun a b=>dE w a b=false
theorem VP.nil:VP w []:=⟨fun _ h=>absurd h (by simp),List.Pairwise.nil,List.Pairwise.nil⟩
theorem VP.iY (hw:Wk w) {R:List P} (h:VP w R):∀p∈R,ch w p:=fun p hp=>by
 obtain⟨h0,h1,h2⟩:=h.mem p hp
 exact(nG hw h0 h1 h2).1
theorem VP.pre {a b:List P} (h:VP w (a++b)):VP w a:=
 ⟨fun p hp=>h.mem p (pG _ hp),(jX.1 h.kW).1,(jX.1 h.nc).1⟩
theorem Zm:∀{R:List P} {o i:Nat},(R.foldl (fun o p=>o|||2^p.req.toNat) o).testBit i=(o.testBit i||R.any fun p=>decide (p.req.toNat=i))
 |[],o,i=>by simp
 |p::r,o,i=>by
  rw[xO,Zm (R:=r),Cn,LF,oA,Bool.or_assoc]
theorem tP {R:List P} {i:Nat}:(df R).testBit i=R.any fun p=>decide (p.req.toNat=i):=by
 unfold df
 rw[Zm];simp
theorem Zk {R:List P} {n:Nat} (h:∀p∈R,p.req.toNat<n):df R<2^n:=by
 apply Nat.lt_pow_two_of_testBit
 intro i hi
 rw[tP,zM]
 intro p hp
 have:=h p hp
 simp;omega
theorem Ru {w:W}:∀{R:List P},nI w (R.map (·.req))=bN w R
 |[]=>rfl
 |p::r=>by simp only[iN,nI,bN];rw[Ru]
theorem z6:∀{a b:List Int},a.Pairwise (· <·)→b.Pairwise (· <·)→(∀x,x∈a↔x∈b)→a=b
 |[],[],_,_,_=>rfl
 |[],y::b,_,_,h=>absurd ((h y).2 (by simp)) (by simp)
 |x::a,[],_,_,h=>absurd ((h x).1 (by simp)) (by simp)
 | x :: a, y :: b, ha, hb, h => by
  have h1:=uu.1 ha
  have h2:=uu.1 hb
  have eF:x=y:=by
   rcases eC.1 ((h x).1 (by simp))with e|e
   ·exact e
   ·rcases eC.1 ((h y).2 (by simp))with e2|e2
    ·exact sR e2
    ·have:=h1.1 y e2;have:=h2.1 x e;omega
  subst eF
  congr 1
  refine z6 h1.2 h2.2 fun z=>?_
  constructor
  ·intro hz
   rcases eC.1 ((h z).1 (jg _ hz))with e|e
   ·subst e;have:=h1.1 z hz;omega
   ·exact e
  ·intro hz
   rcases eC.1 ((h z).2 (jg _ hz))with e|e
   ·subst e;have:=h2.1 z hz;omega
   ·exact e
theorem VP.re {R:List P} (h:VP w R):df R<2^w.rs.l.length:=Zk fun p hp=>by have:=(h.mem p hp).1;have:=(h.mem p hp).2.1;omega
theorem VP.reqs (hw:Wk w) {R:List P} (h:VP w R):de (df R)=R.map (·.req):=by
 have et:=hw.v.rl
 have aC:df R<2^62:=na h.re (ji (by decide) (by omega))
 refine z6 BH (by rw[rz];exact h.kW) fun x=>?_
 rw[zu aC,tP,fL]
 simp only[cC,dZ]
 constructor
 ·rintro⟨h0,p,hp,he⟩
  have:=(h.mem p hp).1
  exact⟨p,hp,by omega⟩
 ·rintro⟨p,hp,rfl⟩
  exact⟨(h.mem p hp).1,p,hp,rfl⟩
theorem VP.val (hw:Wk w) {R:List P} (h:VP w R):jd w (df R)=bN w R:=by
 unfold jd
 rw[h.reqs hw,Ru]
end
section
variable{w:W}
theorem VP.sep (hw:Wk w) {R:List P} (h:VP w R) {p q:P} (hp:p∈R) (hq:q∈R) (aB:p.req≠q.req):dE w p q=false:=by
 obtain⟨i,hi⟩:=mZ hp
 obtain⟨j,hj⟩:=mZ hq
 obtain⟨sg,wX⟩:=bd.1 hi
 obtain⟨gS,wY⟩:=bd.1 hj
 have lV:=Cj.1 h.nc
 rcases LA i j with er|er|er
 ·have:=lV i j sg gS er
  rwa [wX,wY]at this
 ·subst er
  rw[hi]at hj;injection hj with hj
  exact absurd (by rw[hj]) aB
 ·have:=lV j i gS sg er
  rw[wX,wY]at this
  rw[Fe hw (h.iY hw p hp) (h.iY hw q hq)];exact this
theorem ou {l:List P} {i:Int} {p:P} (h:aM l i=some p):p∈l∧p.req=i:=by
 unfold aM at h
 exact⟨R8 h,by simpa using Ln h⟩
theorem QC {l:List P} {i:Int} (h:(aM l i).isNone=true):∀p∈l,p.req≠i:=by
 intro p hp he
 unfold aM at h
 rw[abI,Hl]at h
 exact h p hp (by simpa using he)
theorem KK {l:List P} {i:Int} (h:∃p∈l,p.req=i):∃p,aM l i=some p:=by
 obtain⟨p,hp,he⟩:=h
 unfold aM
 have:(l.find? fun x=>decide (x.req=i)).isSome=true:=List.find?_isSome.2 ⟨p,hp,by simpa using he⟩
 exact oD.1 this
theorem VZ (hw:Wk w) {pl rest:List P} (h:VP w (pl++rest)):gP w (dG w) pl (df (pl++rest))=true:=by
 have et:=hw.v.rl
 rw[age hw h.re]
 have cd:∀i∈il pl (df (pl++rest)),∃p,aM (pl++rest) i=some p∧p∈pl++rest∧p.req=i∧∀q∈pl,q.req≠i:=by
  intro i hi
  obtain⟨h1,h2⟩:=eT.1 hi
  rw[h.reqs hw,cC]at h1
  obtain⟨p,hp⟩:=KK h1
  exact⟨p,hp,(ou hp).1,(ou hp).2,QC h2⟩
 refine⟨fun i=>(aM (pl++rest) i).getD bV,fun i hi=>?_,fun i hi j hj er=>?_⟩
 ·obtain⟨p,hp,hm,hr,gV⟩:=cd i hi
  show(aM (pl++rest) i).getD bV∈_∧∀q∈pl,dE w ((aM (pl++rest) i).getD bV) q=false
  rw[hp,kR]
  refine⟨by rw[←hr];exact(h.mem p hm).2.2,fun q hq=>?_⟩
  exact h.sep hw hm (pG _ hq) (by rw[hr];exact fun e=>gV q hq (sR e))
 ·obtain⟨p,hp,hm,hr,_⟩:=cd i hi
  obtain⟨q,hq,gU,gB,_⟩:=cd j hj
  show dE w ((aM (pl++rest) i).getD bV) ((aM (pl++rest) j).getD bV)=false
  rw[hp,hq,kR,kR]
  exact h.sep hw hm gU (by rw[hr,gB];exact er)
end
section
variable{w:W}
theorem aqt {all:List (Sl P×Bool)} {m:Nat}:∀{k:Nat},(∀c∈all,c.2=true)→tQ m k all=true:=by
 induction all with
 |nil=>intro k _;rfl
 |cons c r ih=>
  intro k h
  simp only[tQ]
  rw[h c (by simp),xJ,iu]
  exact ih fun x hx=>h x (jg _ hx)
theorem aqs {m:Nat}:pw (dG w) m=true:=by
 unfold pw
 refine aqt fun c hc=>?_
 unfold dG rN at hc
 obtain⟨i,_,rfl⟩:=cC.1 hc
 rfl
theorem Rl:∀{N:Nat},(∀m,m∈(dm w (dG w) N).2↔m<N∧gP w (dG w) [] m=true∧jd w m=(dm w (dG w) N).1)∧(∀m,m<N→gP w (dG w) [] m=true→jd w m≤(dm w (dG w) N).1)
 |0=>⟨fun m=>by simp[dm],fun m h=>by omega⟩
 | N + 1 => by
  obtain⟨h1,h2⟩:=Rl (N:=N)
  rw[BY]
  unfold sN
  rw[aqs,iu]
  cases hf:gP w (dG w) [] N with
  | false =>
   rw[nJ,aq (by decide)]
   refine⟨fun m=>?_,fun m hm lh=>?_⟩
   ·rw[h1]
    constructor
    ·rintro⟨a,b,c⟩;exact⟨by omega,b,c⟩
    ·rintro⟨a,b,c⟩
     have:m≠N:=by intro e;rw[e,hf]at b;exact absurd b (by decide)
     exact⟨by omega,b,c⟩
   ·have:m≠N:=by intro e;rw[e,hf]at lh;exact absurd lh (by decide)
    exact h2 m (by omega) lh
  | true =>
   rw[sQ]
   by_cases hle:(dm w (dG w) N).1≤jd w N
   ·rw [ak (by simpa using hle)]
    by_cases aC:(dm w (dG w) N).1<jd w N
    ·rw[ak aC]
     refine⟨fun m=>?_,fun m hm lh=>?_⟩
     ·simp only[eK]
      constructor
      ·rintro rfl;exact⟨by omega,hf,rfl⟩
      ·rintro⟨a,b,c⟩
       apply qi
       intro aB
       have:=h2 m (by omega) b
       omega
     ·show jd w m≤jd w N
      by_cases e:m=N
      ·rw[e];exact zL _
      ·have:=h2 m (by omega) lh;omega
    ·rw[aq aC]
     refine⟨fun m=>?_,fun m hm lh=>?_⟩
     ·simp only[dD,eK]
      rw[h1]
      constructor
      ·rintro(⟨a,b,c⟩|rfl)
       ·exact⟨by omega,b,c⟩
       ·exact⟨by omega,hf,by omega⟩
      ·rintro⟨a,b,c⟩
       by_cases e:m=N
       ·exact .inr e
       ·exact .inl ⟨by omega,b,c⟩
     ·show jd w m≤(dm w (dG w) N).1
      by_cases e:m=N
      ·rw[e];omega
      ·exact h2 m (by omega) lh
   ·rw[aq (by simpa using hle)]
    refine⟨fun m=>?_,fun m hm lh=>?_⟩
    ·rw[h1]
     constructor
     ·rintro⟨a,b,c⟩;exact⟨by omega,b,c⟩
     ·rintro⟨a,b,c⟩
      by_cases e:m=N
      ·subst e;omega
      ·exact⟨by omega,b,c⟩
    ·by_cases e:m=N
     ·subst e;omega
     ·exact h2 m (by omega) lh
def YH (w:W):Int:=(dm w (dG w) (2^w.rs.l.length)).1
def YG (w:W):List Nat:=(dm w (dG w) (2^w.rs.l.length)).2
theorem VP.le_max (hw:Wk w) {R:List P} (h:VP w R):bN w R≤YH w:=by
 have:=VZ hw (pl:=[]) (rest:=R) (by simpa using h)
 rw[kO]at this
 have h2:=(Rl (w:=w) (N:=2^w.rs.l.length)).2 (df R) h.re this
 rwa [h.val hw]at h2
theorem VP.Km (hw:Wk w) {R:List P} (h:VP w R):df R∈YG w↔bN w R=YH w:=by
 have hf:=VZ hw (pl:=[]) (rest:=R) (by simpa using h)
 rw[kO]at hf
 rw[show YG w=(dm w (dG w) (2^w.rs.l.length)).2 from rfl,(Rl (w:=w) (N:=2^w.rs.l.length)).1]
 rw[h.val hw]
 exact⟨fun h=>h.2.2,fun hv=>⟨h.re,hf,hv⟩⟩
end
section
variable{w:W}
theorem YP {all:List (Sl P×Bool)} {plan:List P} {own:Nat} {sets:List Nat} {q:P} {j:Nat} (hq:(all.getD j default).1.l.find? (l6 w all plan own sets j)=some q):
  ∀{n i:Nat},i≤j→j<i+n→(∀i',i≤i'→i'<j→(all.getD i' default).1.l.find? (l6 w all plan own sets i')=none)→mQ w all plan own sets i n=some q
 |0,i,h1,h2,_=>by omega
 | n + 1, i, h1, h2, h3 => by
  simp only[mQ]
  by_cases e:i=j
  ·subst e;rw[hq]
  ·rw[h3 i (aH _) (by omega)]
   exact YP hq (by omega) (by omega) fun i' a b=>h3 i' (by omega) b
theorem Uh {m o i:Nat}:m&&&(2^(i+1)-1)=o|||2^i↔∀j,((m.testBit j&&decide (j<i+1))=(o.testBit j||decide (i=j))):=by
 constructor
 ·intro h j
  have:=hY (fun x=>Nat.testBit x j) h
  simp only[Nat.testBit_and,Sw,Cn,LF]at this
  exact this
 ·intro h
  apply Nat.eq_of_testBit_eq
  intro j
  rw[Nat.testBit_and,Sw,Cn,LF]
  exact h j
theorem AI {p:P} {l:List P}:dL w p l=false↔∀q∈l,dE w q p=false:=by
 unfold dL
 rw[zM]
 constructor
 ·intro h q hq;simpa using h q hq
 ·intro h q hq;simpa using h q hq
end
section
variable{w:W}
def qf (w:W) (rq:List Int):Nat→Nat→List P→List (List P)
 |_,0,l=>[l]
 |i,k+1,l=>qf w rq (i+1) k l++if(rq.any fun x=>decide (x=(i:Int)))=true then(ct w l i).flatMap fun p=>qf w rq (i+1) k (l++[p])else[]
theorem VP.snoc (hw:Wk w) {l:List P} (h:VP w l) {i:Nat} (hi:∀p∈l,p.req<i) (bH:i<w.rs.l.length) {p:P} (hp:p∈ct w l i):VP w (l++[p])∧p.req=i:=by
 obtain⟨jF,hc⟩:=eT.1 hp
 have hc:dL w p l=false:=by simpa using hc
 obtain⟨dW,hr,_⟩:=nG hw (show(0:Int)≤(i:Int)by omega) (by omega) jF
 refine⟨⟨fun q hq=>?_,?_,?_⟩,hr⟩
 ·rw[dD,eK]at hq
  rcases hq with hq|rfl
  ·exact h.mem q hq
  ·rw[hr];exact⟨by omega,by omega,jF⟩
 ·rw[jX]
  refine⟨h.kW,Lu _ _,fun a ha b hb=>?_⟩
  rw[eK]at hb;subst hb
  rw[hr];exact hi a ha
 ·rw[jX]
  refine⟨h.nc,Lu _ _,fun a ha b hb=>?_⟩
  rw[eK]at hb;subst hb
  exact AI.1 hc a ha
theorem KP (hw:Wk w) {rq:List Int}:∀{k i:Nat} {l X:List P},i+k=w.rs.l.length→VP w l→(∀p∈l,p.req<i)→
  (X∈qf w rq i k l↔VP w X∧∃t,X=l++t∧∀p∈t,(i:Int)≤p.req∧p.req∈rq)
 | 0, i, l, X, hk, hl, hi => by
  simp only[qf,eK]
  constructor
  ·rintro rfl;exact⟨hl,[],by simp,fun p hp=>absurd hp (by simp)⟩
  ·rintro⟨hX,t,rfl,ht⟩
   cases t with
   |nil=>simp
   |cons p t=>
    have h1:=(hX.mem p (by simp)).2.1
    have h2:=(ht p (by simp)).1
    omega
 | k + 1, i, l, X, hk, hl, hi => by
  simp only[qf,dD]
  rw[KP hw (k:=k) (i:=i+1) (by omega) hl fun p hp=>by have:=hi p hp;omega]
  constructor
  ·rintro(⟨hX,t,rfl,ht⟩|h)
   ·exact⟨hX,t,rfl,fun p hp=>⟨by have:=(ht p hp).1;omega,(ht p hp).2⟩⟩
   ·by_cases hr:(rq.any fun x=>decide (x=(i:Int)))=true
    ·rw[ak hr,List.mem_flatMap]at h
     obtain⟨p,hp,hX⟩:=h
     obtain⟨hv,sj⟩:=hl.snoc hw hi (by omega) hp
     rw[KP hw (k:=k) (i:=i+1) (by omega) hv fun q hq=>by
      rw[dD,eK]at hq
      rcases hq with hq|rfl
      ·have:=hi q hq;omega
      ·omega]at hX
     obtain⟨hX,t,rfl,ht⟩:=hX
     refine⟨hX,p::t,by simp,fun q hq=>?_⟩
     rcases eC.1 hq with rfl|hq
     ·refine⟨by omega,?_⟩
      obtain⟨x,hx,he⟩:=fL.1 hr
      rw[sj,←KF he];exact hx
     ·exact⟨by have:=(ht q hq).1;omega,(ht q hq).2⟩
    ·rw[aq hr]at h;exact absurd h (by simp)
  ·rintro⟨hX,t,rfl,ht⟩
   by_cases hex:∃p t',t=p::t'∧p.req=i
   ·obtain⟨p,t',rfl,hp⟩:=hex
    right
    have hr:(rq.any fun x=>decide (x=(i:Int)))=true:=fL.2 ⟨p.req,(ht p (by simp)).2,by simp[hp]⟩
    rw[ak hr,List.mem_flatMap]
    have pZ:=(hX.mem p (by simp)).2.2
    rw[hp]at pZ
    have tH:p∈ct w l i:=eT.2 ⟨pZ,by
     have:dL w p l=false:=AI.2 fun a ha=>by
      have:=hX.nc
      rw[jX]at this
      exact this.2.2 a ha p (by simp)
     rw[this];rfl⟩
    obtain⟨hv,sj⟩:=hl.snoc hw hi (by omega) tH
    refine⟨p,tH,?_⟩
    rw[KP hw (k:=k) (i:=i+1) (by omega) hv fun q hq=>by
      rw[dD,eK]at hq
      rcases hq with hq|rfl
      ·have:=hi q hq;omega
      ·omega]
    refine⟨hX,t',by simp,fun q hq=>⟨?_,(ht q (jg _ hq)).2⟩⟩
    have:=hX.kW
    rw[jX,uu]at this
    have:=this.2.1.1 q hq
    omega
   ·left
    refine⟨hX,t,rfl,fun p hp=>⟨?_,(ht p hp).2⟩⟩
    cases t with
    |nil=>exact absurd hp (by simp)
    | cons q t' =>
     have hq:=(ht q (by simp)).1
     have hqn:q.req≠i:=fun e=>hex ⟨q,t',rfl,e⟩
     rcases eC.1 hp with rfl|hp
     ·omega
     ·have:=hX.kW
      rw[jX,uu]at this
      have:=this.2.1.1 p hp
      omega
theorem acV {y:List P}:∀{a b:List P},a.map kP=b.map kP→cB y a=cB y b:=by
 induction y with
 | nil =>
  intro a b h
  cases a with
  |nil=>cases b with
   |nil=>rfl
   |cons _ _=>simp at h
  |cons _ _=>cases b with
   |nil=>simp at h
   |cons _ _=>rfl
 | cons x r ih =>
  intro a b h
  cases a with
  |nil=>cases b with
   |nil=>rfl
   |cons _ _=>simp at h
  | cons u a => cases b with
   |nil=>simp at h
   |cons v b=>
    rw[iN,iN,vM]at h
    simp only[cB]
    rw[h.1,ih h.2]
def better (w:W) (a b:List P):Bool:=decide (bN w b<bN w a)||(decide (bN w a=bN w b)&&cB a b)
def kX (w:W) (b:List P) (l:List (List P)):List P:=l.foldl (fun b x=>if better w x b=true then x else b) b
theorem Nj:∀{l:List (List P)} {b:List P},(kX w b l=b∨kX w b l∈l)∧bN w b≤bN w (kX w b l)∧(∀x∈l,bN w x≤bN w (kX w b l))∧
  (bN w b=bN w (kX w b l)→cB b (kX w b l)=false)∧(∀x∈l,bN w x=bN w (kX w b l)→cB x (kX w b l)=false)
 |[],b=>⟨.inl rfl,zL _,fun x hx=>absurd hx (by simp),fun _=>Ng,fun x hx=>absurd hx (by simp)⟩
 | x :: r, b => by
  have e:kX w b (x::r)=kX w (if better w x b=true then x else b) r:=rfl
  rw[e]
  by_cases hb:better w x b=true
  ·rw[ak hb]
   obtain⟨h1,h2,h3,h4,h5⟩:=Nj (l:=r) (b:=x)
   have sx:bN w b≤bN w x∧(bN w b=bN w x→cB x b=true):=by
    unfold better at hb
    rw[ug,dB,dZ,dZ]at hb
    rcases hb with hb|⟨hb,jB⟩
    ·exact⟨by omega,fun h=>by omega⟩
    ·exact⟨by omega,fun _=>jB⟩
   refine⟨?_,by omega,fun y hy=>?_,fun hv=>?_,fun y hy hv=>?_⟩
   ·rcases h1 with h1|h1
    ·right;rw[h1];simp
    ·right;exact jg _ h1
   ·rcases eC.1 hy with rfl|hy
    ·exact h2
    ·exact h3 y hy
   ·have hx:=h4 (by omega)
    have di:=sx.2 (by omega)
    cases hc:cB b (kX w x r)with
    |false=>rfl
    |true=>rw[Dx di hc]at hx;exact absurd hx (by decide)
   ·rcases eC.1 hy with rfl|hy
    ·exact h4 hv
    ·exact h5 y hy hv
  ·rw [aq hb]
   obtain⟨h1,h2,h3,h4,h5⟩:=Nj (l:=r) (b:=b)
   have sx:bN w x≤bN w b∧(bN w x=bN w b→cB x b=false):=by
    unfold better at hb
    rw[ug,dB,dZ,dZ,not_or]at hb
    refine⟨by omega,fun hv=>?_⟩
    cases hc:cB x b with
    |false=>rfl
    |true=>exact absurd ⟨hv,hc⟩ hb.2
   refine⟨?_,h2,fun y hy=>?_,h4,fun y hy hv=>?_⟩
   ·rcases h1 with h1|h1
    ·exact .inl h1
    ·right;exact jg _ h1
   ·rcases eC.1 hy with rfl|hy
    ·omega
    ·exact h3 y hy
   ·rcases eC.1 hy with rfl|hy
    ·have hx:=sx.2 (by omega)
     have jB:=h4 (by omega)
     cases hc:cB y (kX w b r)with
     |false=>rfl
     | true =>
      cases WI:cB (kX w b r) b with
      |true=>rw[Dx hc WI]at hx;exact absurd hx (by decide)
      |false=>
       have hk:=Nh jB WI
       rw[acV (sR hk),hx]at hc
       exact absurd hc (by decide)
    ·exact h5 y hy hv
end
section
variable{s:ae} {w:W}
theorem ZI (hs:Ok s) (hw:w.Ok) (hf:w.ko):aw AP (.fn 7) [w.v] s=some (I (jc w),s):=by
 have jS:∀r,aw AP (.fn 24) [w.v] (s.push r)=some (I (dp w).2.2,s.push r):=fun r=>ZJ (hs.push r) hw hf
 simp only[W.v,c8,Sl.v]at jS
 unfold jc
 by_cases h0:(dp w).2.2=0
 ·rw [ak h0]
  have cz:Wk w:=⟨hw,hf,rn h0⟩
  have et:=cz.v.rl
  have h6:decide ((6:Int)<(w.rs.l.length:Int))=!decide (w.rs.l.length≤6):=nU (by omega)
  have key:∀(k:Nat) ρ m,k≤w.rs.l.length→(ρ 1=.ptr s.ag.length 0 0∧ρ 4=I k∧∃bx,m=s.push ⟨c8 w::bx,[]⟩)→
    go AP afx (.c (.loop CZ)::amS) ⟨ρ,m⟩=some (I (cond ((w.rs.l.drop k).any fun r=>decide (8<r.hi-r.lo+2-r.len)) 8 0),s):=by
   refine ck _ _ _ ?_ ?_
   ·rintro k ρ m hk ⟨g1,g4,bx,rfl⟩ ih
    obtain⟨q,hq⟩:=get_some hk
    have cr:=Sl.ix (f:=bU) hw.rs hq
    have zg:=cz.v.r q (bQ hq)
    have a1:=zg.qX
    have a2:=zg.bH
    have a3:=zg.BE
    have a4:=zg.qa
    have a5:=zg.po
    have a6:=cz.v.n2
    have w1:IntKind.i64.wrap (IntKind.i64.wrap (IntKind.i64.wrap (IntKind.i64.wrap (q.hi-q.lo)+1)-q.len)+1)=q.hi-q.lo+2-q.len:=by
     rw[bW (x:=q.hi-q.lo) (by omega) (by omega),bW (x:=q.hi-q.lo+1) (by omega) (by omega),bW (x:=q.hi-q.lo+1-q.len) (by omega) (by omega),bW (by omega) (by omega)];omega
    simp only[bU,Sl.v]at cr
    rw[eQ hq,oA]
    cases hd:decide (8<q.hi-q.lo+2-q.len)with
    |true=>simp(maxSteps:=1000000) only[go_sem,CZ,g1,g4,hs,aS hk,cr,w1,hd,xJ,Nat.reduceEqDiff,Nat.reduceAdd,↓reduceIte]
    |false=>
     simp(maxSteps:=1000000) only[go_sem,CZ,g1,g4,hs,aS hk,cr,w1,hd,bK hk (show(w.rs.l.length:Int)<_ by omega),Nat.reduceEqDiff,Nat.reduceAdd,↓reduceIte]
     rw[mW]
     refine ih _ _ ?_
     exact⟨g1,rfl,_,rfl⟩
   ·rintro ρ m ⟨g1,g4,bx,rfl⟩
    simp(maxSteps:=1000000) only[go_sem,CZ,Mt,g1,g4,bM,Nat.reduceEqDiff,Nat.reduceAdd,↓reduceIte]
    rw[eS];rfl
  rw[aL (show AP 7=some Ao from rfl) rfl]
  unfold zI
  cases hd:decide (w.rs.l.length≤6)with
  |false=>simp(maxSteps:=1000000) only[go_sem,Ig,jS,h0,h6,hd,aY,eB,mY,jM,Nat.reduceEqDiff,Nat.reduceAdd,↓reduceIte]
  | true =>
   simp(maxSteps:=1000000) only[go_sem,Ig,jS,h0,h6,hd,aY,eB,kM,Nat.reduceEqDiff,Nat.reduceAdd,↓reduceIte]
   refine ui (key 0 _ _ (bg _) ?_) ?_
   ·exact⟨rfl,rfl,[],rfl⟩
   ·rw[ku]
    cases(w.rs.l.any fun r=>decide (8<r.hi-r.lo+2-r.len))<;>rfl
 ·rw[aq h0]
  rw[aL (show AP 7=some Ao from rfl) rfl]
  simp(maxSteps:=1000000) only[go_sem,Ig,jS,h0,aY,ij,Nat.reduceEqDiff,Nat.reduceAdd,↓reduceIte]
end
section
variable{s:ae} {w:W}
end
section
variable{s:ae} {w:W}
def B9 (w:W) (dN:Int):Nat→Nat→Int→Int
 |_,0,n=>n
 |i,k+1,n=>if n≤dN then B9 w dN (i+1) k (n*(1+(dT w (i:Int)).length))else n
theorem arj (hs:Ok s) (hw:Wk w):aw AP (.fn 23) [w.v,I 2000] s=some (I (B9 w 2000 0 w.rs.l.length 1),s):=by
 have et:=hw.v.rl
 have key:∀(k:Nat) (i:Nat) (n:Int) ρ m,i+k=w.rs.l.length→(ρ 1=I 2000∧ρ 2=.ptr s.ag.length 0 0∧ρ 5=I n∧ρ 6=I i∧1≤n∧m=s.push ⟨[c8 w],[]⟩)→
   go AP afy (.c (.loop C0)::amT) ⟨ρ,m⟩=some (I (B9 w 2000 i k n),s):=by
  intro k
  induction k with
  |zero=>
   rintro i n ρ m hk ⟨g1,g2,g5,g6,hn,rfl⟩
   have hi:i=w.rs.l.length:=by omega
   subst hi
   rw[go_loop]
   simp only[go_sem,C0,Ih,g2,g5,g6,bM,simprocAttr]
   rfl
  | succ k ih =>
   rintro i n ρ m hk ⟨g1,g2,g5,g6,hn,rfl⟩
   have r9:=BP hw (i:=(i:Int)) (by omega) (by omega)
   have dI:∀r,aw AP (.fn 49) [w.v,I i] (s.push r)=some (bG 3 (((dT w i).map (zG (w.rq i).need.toNat)).map aj),s.push r):=fun r=>arf (hs.push r) hw (by omega) (by omega)
   have w5:mO false (bG 3 (((dT w i).map (zG (w.rq i).need.toNat)).map aj))=some (I (dT w i).length):=by rw[Qa,bY,bY]
   simp only[W.v,c8,Sl.v]at dI
   rw[go_loop]
   simp only[B9]
   by_cases hle:n≤2000
   ·rw[ak hle]
    have hb:n*(1+((dT w i).length:Int))≤2000*13001:=by
     refine Int.le_trans (RS hle (by omega)) ?_
     omega
    have jA:1≤n*(1+((dT w i).length:Int)):=by
     have:=Int.mul_pos (show(0:Int)<n by omega) (show(0:Int)<1+((dT w i).length:Int)by omega)
     omega
    have w1:IntKind.i64.wrap (1+((dT w i).length:Int))=1+((dT w i).length:Int):=bW (by omega) (by omega)
    have w2:IntKind.i64.wrap (n*(1+((dT w i).length:Int)))=n*(1+((dT w i).length:Int)):=bW (by omega) (by omega)
    have d1:decide ((i:Int)<(w.rs.l.length:Int))=true:=by simp;omega
    have d2:decide (n≤2000)=true:=by simpa using hle
    have w3:IntKind.i64.wrap ((i:Int)+1)=((i+1:Nat):Int):=by rw[bW (by omega) (by omega)];omega
    simp only[go_sem,C0,g1,g2,g5,g6,d1,d2,dI,w5,w1,w2,w3,simprocAttr]
    refine ih (i+1) _ _ _ (by omega) ?_
    exact⟨g1,g2,rfl,rfl,jA,rfl⟩
   ·rw[aq hle]
    have d1:decide ((i:Int)<(w.rs.l.length:Int))=true:=by simp;omega
    have d2:decide (n≤2000)=false:=by simp;omega
    simp only[go_sem,C0,Ih,g1,g2,g5,g6,d1,d2,simprocAttr]
 rw[aL (show AP 23=some D2 from rfl) rfl]
 simp only[go_sem,Tr,simprocAttr]
 refine key w.rs.l.length 0 1 _ _ (by omega) ?_
 exact⟨rfl,rfl,rfl,rfl,by omega,rfl⟩
end
section
variable{s:ae} {w:W}
def GB (w:W):Bool:=yC w&&(decide (¬jc w=0)||decide (B9 w 2000 0 w.rs.l.length 1≤2000))
theorem Rq {w:W} (h:jc w=0):(dp w).2.2=0:=by
 unfold jc at h
 by_cases h0:(dp w).2.2=0
 ·exact h0
 ·rw[aq h0]at h;exact h
theorem anJ (hs:Ok s) (hw:w.Ok) (hb:w.Hd):aw AP (.fn 5) [w.v] s=some (B (GB w),s):=by
 have mJ:∀r,aw AP (.fn 22) [w.v] (s.push r)=some (B (yC w),s.push r):=fun r=>anI (hs.push r) hw hb
 simp only[W.v,c8,Sl.v]at mJ
 unfold GB
 cases hf:yC w with
 |false=>
  rw[aL (show AP 5=some yo from rfl) rfl]
  simp(maxSteps:=1000000) only[go_sem,H7,mJ,hf,jM,Nat.reduceEqDiff,Nat.reduceAdd,↓reduceIte]
 | true =>
  have hF:=VM hf
  have mN:∀r,aw AP (.fn 7) [w.v] (s.push r)=some (I (jc w),s.push r):=fun r=>ZI (hs.push r) hw hF
  simp only[W.v,c8,Sl.v]at mN
  by_cases h0:jc w=0
  ·have cz:Wk w:=⟨hw,hF,rn (Rq h0)⟩
   have nE:∀r,aw AP (.fn 23) [w.v,I 2000] (s.push r)=some (I (B9 w 2000 0 w.rs.l.length 1),s.push r):=fun r=>arj (hs.push r) cz
   simp only[W.v,c8,Sl.v]at nE
   rw[h0]at mN
   rw[aL (show AP 5=some yo from rfl) rfl]
   simp(maxSteps:=1000000) only[go_sem,H7,mJ,hf,mN,nE,h0,aY,eB,iu,mW,qt,Nat.reduceEqDiff,Nat.reduceAdd,↓reduceIte]
  ·have hd:decide (¬jc w=0)=true:=by simp[h0]
   rw[aL (show AP 5=some yo from rfl) rfl]
   simp(maxSteps:=1000000) only[go_sem,H7,mJ,hf,mN,hd,aY,iu,xJ,Nat.reduceEqDiff,Nat.reduceAdd,↓reduceIte]
end
section
variable{s:ae} {w:W}
def AG (d es:Nat) (xs:List (List AV)) (x:AV) (tk:List (Option Nat)):Prop:=
 x=.slice .full es xs∨∃g,x=.slice (.tok d g) es xs∧tk[g]? =some (some xs.length)
theorem AG.sl {d es:Nat} {xs:List (List AV)} {x:AV} {tk:List (Option Nat)} (h:AG d es xs x tk):∃o,x=.slice o es xs:=by
 rcases h with h|⟨g,h,_⟩
 ·exact⟨_,h⟩
 ·exact⟨_,h⟩
theorem AG.ext {d es:Nat} {xs:List (List AV)} {x:AV} {tk tk':List (Option Nat)} (h:AG d es xs x tk) (hx:∀(g:Nat) (n:Option Nat),tk[g]? =some n→tk'[g]? =some n):AG d es xs x tk':=by
 rcases h with h|⟨g,h,hg⟩
 ·exact .inl h
 ·exact .inr ⟨g,h,hx _ _ hg⟩
theorem AG.append {es:Nat} {xs:List (List AV)} {x:AV} {tk:List (Option Nat)} (h:AG s.ag.length es xs x tk) (hs:Ok s) (o:Own) {ys:List (List AV)} (hy:ys≠[]) (hl:xs.length+ys.length≤4294967296):
  ∃x' tk',(∀bx,eE (s.push ⟨bx,tk⟩) es x (.slice o es ys)=some (x',s.push ⟨bx,tk'⟩))∧AG s.ag.length es (xs++ys) x' tk':=by
 have sy:ys.isEmpty=false:=by cases ys<;>simp_all
 rcases h with rfl|⟨g,rfl,hg⟩
 ·refine⟨.slice (.tok s.ag.length tk.length) es (xs++ys),tk++[some (xs.length+ys.length)],fun bx=>?_,.inr ⟨tk.length,rfl,by simp⟩⟩
  simp[eE,sy,Own.isNil,dN,hl,qc,oF,fE]
 ·refine⟨.slice (.tok s.ag.length g) es (xs++ys),tk.set g (some (xs.length+ys.length)),fun bx=>?_,.inr ⟨g,rfl,?_⟩⟩
  ·simp[eE,sy,dN,hl,B6,hg,QW,hs.ro,KY]
  ·rw[ml (bd.1 hg).1];simp
end
section
variable{s:ae} {w:W}
theorem UZ {p:P}:∀{l:List P},dL w p (l.map cP)=dL w p l
 |[]=>rfl
 |x::r=>by
  have h:=UZ (p:=p) (l:=r)
  unfold dL at*
  rw[iN,oA,oA,h];rfl
theorem aqA {l:List P} {i:Int}:ct w (l.map cP) i=ct w l i:=by
 unfold ct
 simp only[UZ]
structure SD (w:W) (y:Sl P):Prop where
 ok:y.ok 3
 pl:gH y.l
 iY:∀p∈y.l,ch w p
theorem aqc {Q:ae} {R:Rec} {es:Nat} {xs:List (List AV)}:kh (Q.push R) (.slice .full es xs)=some (.slice .full es xs,Q):=by
 show some (_,(Q.push R).pop)=_
 rw[pop_push]
theorem AG.own {Q:ae} {bx:List (List AV)} {tk:List (Option Nat)} {B:List (List AV)} {es:Nat} {xs:List (List AV)} {x:AV} {vD:List (Option Nat)} (hQ:Ok Q) (h:AG (Q.ag.length+1) es xs x vD):
  ∃x' tk',kh ((Q.push ⟨bx,tk⟩).push ⟨B,vD⟩) x=some (x',Q.push ⟨bx,tk'⟩)∧AG Q.ag.length es xs x' tk'∧(∀(g:Nat) (n:Option Nat),tk[g]? =some n→tk'[g]? =some n):=by
 rcases h with rfl|⟨g,rfl,hg⟩
 ·exact⟨_,_,aqc,.inl rfl,fun _ _ h=>h⟩
 ·refine⟨_,_,KJ hQ (R:=⟨bx,tk⟩) (r0:=⟨B,vD⟩) hg,.inr ⟨tk.length,rfl,by simp⟩,fun g n h=>?_⟩
  rw[dC (bd.1 h).1];exact h
end
section
variable{s:ae} {w:W}
theorem SD.sm {y:Sl P} (h:SD w y):HI y.l:=⟨by have:=h.pl.len;omega,fun p hp=>⟨(h.pl.ok p hp).1,by have:=(h.pl.ok p hp).2;omega⟩⟩
abbrev eI (n:Nat):List Int:=(List.range n).map fun i:Nat=>(i:Int)
theorem Wk.c (hw:Wk w) (h0:(dp w).2.2=0):Wk (cW w):=⟨Nq,Np hw.rM,rn (by rw[RB];exact h0)⟩
theorem QG (hw:Wk w) {rq:List Int}:∀{k i:Nat} {l:List P},i+k=w.rs.l.length→(∀x∈l,0≤x.req∧x.req<w.rs.l.length)→qf (cW w) rq i k l=qf w rq i k l
 |0,_,_,_,_=>rfl
 | k + 1, i, l, hk, hl => by
  simp only[qf]
  rw[QG hw (k:=k) (i:=i+1) (by omega) hl,←aqA (w:=cW w),aqz hw (by omega) (by omega) hl]
  congr 1
  split
  ·have:∀L:List P,(∀p∈L,p∈ct w l (i:Int))→(L.flatMap fun p=>qf (cW w) rq (i+1) k (l++[p]))=L.flatMap fun p=>qf w rq (i+1) k (l++[p]):=by
    intro L
    induction L with
    |nil=>intro _;rfl
    | cons a L ih =>
     intro h
     have ha:=h a (by simp)
     obtain⟨dW,_⟩:=nG hw (show(0:Int)≤(i:Int)by omega) (by omega) (eT.1 ha).1
     rw[Hm,Hm,ih fun p hp=>h p (jg _ hp),QG hw (k:=k) (i:=i+1) (by omega) fun x hx=>by
      rw[dD,eK]at hx
      rcases hx with hx|rfl
      ·exact hl x hx
      ·exact⟨dW.r0,dW.r1⟩]
   exact this _ fun _ h=>h
  ·rfl
theorem asM:jc (cW w)=jc w:=by
 unfold jc
 rw[RB]
 have:zI (cW w)=zI w:=by
  unfold zI
  rw[ym,wq,Hi];rfl
 rw[this]
end
section
variable{w:W} {all:List (Sl P×Bool)}
def cL (all:List (Sl P×Bool)) (i:Int):List P:=(all.getD i.toNat default).1.l
def cO (all:List (Sl P×Bool)) (i:Nat):Bool:=(all.getD i default).2
structure CA (w:W) (all:List (Sl P×Bool)):Prop where
 len:all.length=w.rs.l.length
 iY:∀i:Int,0≤i→i<w.rs.l.length→∀p∈cL all i,ch w p∧p.req=i
 srt:∀i:Int,0≤i→i<w.rs.l.length→(cL all i).Pairwise fun a b=>lexB (kP a) (kP b)=true
theorem VY (hw:Wk w) (hA:CA w all) {pl:List P} {m:Nat} (hm:m<2^w.rs.l.length):
  gP w all pl m=true↔∃f:Int→P,(∀i∈il pl m,f i∈cL all i∧∀p∈pl,dE w (f i) p=false)∧(∀i∈il pl m,∀j∈il pl m,i≠j→dE w (f i) (f j)=false):=by
 have et:=hw.v.rl
 have qK:m<2^62:=na hm (ji (by decide) (by omega))
 have bH:∀i∈il pl m,0≤i∧i<w.rs.l.length:=by
  intro i hi
  obtain⟨h0,h1⟩:=(zu qK).1 (eT.1 hi).1
  refine⟨h0,?_⟩
  apply qi
  intro h
  have:m<2^i.toNat:=na hm (ji (by decide) (by omega))
  rw[HF this]at h1
  exact absurd h1 (by decide)
 have pU:(il pl m).Pairwise (· <·):=Cf _ BH
 have OU:(l7 w all pl (de m)).map (·.l)=(il pl m).map fun i=>(jv w pl (all.getD i.toNat default).1).l:=by
  unfold l7 il
  rw[vO];rfl
 unfold gP
 rw[OU]
 have dS:∀i∈il pl m,∀q,q∈(jv w pl (all.getD i.toNat default).1).l↔q∈cL all i∧∀p∈pl,dE w q p=false:=by
  intro i hi q
  obtain⟨h0,h1⟩:=bH i hi
  exact RD
 generalize il pl m=L at*
 have hP:∀x∈L.map (fun i=>(jv w pl (all.getD i.toNat default).1).l),∀p∈x,ch w p:=by
  intro x hx p hp
  obtain⟨i,hi,rfl⟩:=cC.1 hx
  obtain⟨h0,h1⟩:=bH i hi
  exact(hA.iY i h0 h1 p ((dS i hi p).1 hp).1).1
 rw[VV hw hP]
 constructor
 ·rintro⟨c,dU,gj⟩
  refine⟨fun i=>c (L.idxOf i),fun i hi=>?_,fun i hi j hj er=>?_⟩
  ·have hk:L[L.idxOf i]? =some i:=by
    rw[cM (uq.2 hi),Ch]
   have:=dU (L.idxOf i) _ (by rw[jf,hk];rfl)
   exact(dS i hi _).1 this
  ·refine gj _ _ ?_ ?_ ?_
   ·rw[bY];exact uq.2 hi
   ·rw[bY];exact uq.2 hj
   ·intro e
    apply er
    have h1:L[L.idxOf i]? =some i:=by rw[cM (uq.2 hi),Ch]
    have h2:L[L.idxOf j]? =some j:=by rw[cM (uq.2 hj),Ch]
    rw[e,h2]at h1;injection h1 with h1;exact sR h1
 ·rintro⟨f,jQ,gL⟩
  refine⟨fun k=>f (L.getD k 0),fun k x hx=>?_,fun j k hj hk u3=>?_⟩
  ·rw[jf]at hx
   obtain⟨i,hi,rfl⟩:=aU.1 hx
   have gU:=bQ hi
   show f (L.getD k 0)∈_
   have e0:L.getD k 0=i:=by rw[List.getD,hi];rfl
   rw[e0]
   exact(dS i gU _).2 (jQ i gU)
  ·rw[bY]at hj hk
   obtain⟨a,ha⟩:=get_some hj
   obtain⟨b,hb⟩:=get_some hk
   show dE w (f (L.getD j 0)) (f (L.getD k 0))=false
   rw[List.getD,List.getD,ha,hb,kR,kR]
   refine gL a (bQ ha) b (bQ hb) ?_
   intro e
   subst e
   have lV:=Cj.1 pU
   obtain⟨_,ea⟩:=bd.1 ha
   obtain⟨_,eb⟩:=bd.1 hb
   rcases So u3 with h|h
   ·have:=lV j k hj hk h;omega
   ·have:=lV k j hk hj h;omega
structure VC (w:W) (all:List (Sl P×Bool)) (R:List P):Prop where
 mem:∀p∈R,0≤p.req∧p.req<w.rs.l.length∧p∈cL all p.req
 kW:R.Pairwise fun a b=>a.req<b.req
 nc:R.Pairwise fun a b=>dE w a b=false
theorem VC.nil:VC w all []:=⟨fun _ h=>absurd h (by simp),List.Pairwise.nil,List.Pairwise.nil⟩
theorem VC.iY (hA:CA w all) {R:List P} (h:VC w all R):∀p∈R,ch w p:=fun p hp=>by
 obtain⟨h0,h1,h2⟩:=h.mem p hp
 exact(hA.iY _ h0 h1 p h2).1
theorem VC.pre {a b:List P} (h:VC w all (a++b)):VC w all a:=
 ⟨fun p hp=>h.mem p (pG _ hp),(jX.1 h.kW).1,(jX.1 h.nc).1⟩
theorem VC.re {R:List P} (h:VC w all R):df R<2^w.rs.l.length:=Zk fun p hp=>by have:=(h.mem p hp).1;have:=(h.mem p hp).2.1;omega
theorem VC.reqs (hw:Wk w) {R:List P} (h:VC w all R):de (df R)=R.map (·.req):=by
 have et:=hw.v.rl
 have aC:df R<2^62:=na h.re (ji (by decide) (by omega))
 refine z6 BH (by rw[rz];exact h.kW) fun x=>?_
 rw[zu aC,tP,fL]
 simp only[cC,dZ]
 constructor
 ·rintro⟨h0,p,hp,he⟩
  have:=(h.mem p hp).1
  exact⟨p,hp,by omega⟩
 ·rintro⟨p,hp,rfl⟩
  exact⟨(h.mem p hp).1,p,hp,rfl⟩
theorem VC.val (hw:Wk w) {R:List P} (h:VC w all R):jd w (df R)=bN w R:=by
 unfold jd
 rw[h.reqs hw,Ru]
theorem VC.sep (hw:Wk w) (hA:CA w all) {R:List P} (h:VC w all R) {p q:P} (hp:p∈R) (hq:q∈R) (aB:p.req≠q.req):dE w p q=false:=by
 obtain⟨i,hi⟩:=mZ hp
 obtain⟨j,hj⟩:=mZ hq
 obtain⟨sg,wX⟩:=bd.1 hi
 obtain⟨gS,wY⟩:=bd.1 hj
 have lV:=Cj.1 h.nc
 rcases LA i j with er|er|er
 ·have:=lV i j sg gS er
  rwa [wX,wY]at this
 ·subst er
  rw[hi]at hj;injection hj with hj
  exact absurd (by rw[hj]) aB
 ·have:=lV j i gS sg er
  rw[wX,wY]at this
  rw[Fe hw (h.iY hA p hp) (h.iY hA q hq)];exact this
theorem V2 (hw:Wk w) (hA:CA w all) {pl rest:List P} (h:VC w all (pl++rest)):gP w all pl (df (pl++rest))=true:=by
 have et:=hw.v.rl
 rw[VY hw hA h.re]
 have cd:∀i∈il pl (df (pl++rest)),∃p,aM (pl++rest) i=some p∧p∈pl++rest∧p.req=i∧∀q∈pl,q.req≠i:=by
  intro i hi
  obtain⟨h1,h2⟩:=eT.1 hi
  rw[h.reqs hw,cC]at h1
  obtain⟨p,hp⟩:=KK h1
  exact⟨p,hp,(ou hp).1,(ou hp).2,QC h2⟩
 refine⟨fun i=>(aM (pl++rest) i).getD bV,fun i hi=>?_,fun i hi j hj er=>?_⟩
 ·obtain⟨p,hp,hm,hr,gV⟩:=cd i hi
  show(aM (pl++rest) i).getD bV∈_∧∀q∈pl,dE w ((aM (pl++rest) i).getD bV) q=false
  rw[hp,kR]
  refine⟨by rw[←hr];exact(h.mem p hm).2.2,fun q hq=>?_⟩
  exact h.sep hw hA hm (pG _ hq) (by rw[hr];exact fun e=>gV q hq (sR e))
 ·obtain⟨p,hp,hm,hr,_⟩:=cd i hi
  obtain⟨q,hq,gU,gB,_⟩:=cd j hj
  show dE w ((aM (pl++rest) i).getD bV) ((aM (pl++rest) j).getD bV)=false
  rw[hp,hq,kR,kR]
  exact h.sep hw hA hm gU (by rw[hr,gB];exact er)
theorem Zu (hw:Wk w) (hA:CA w all) {pl:List P} {m k:Nat} (h:VC w all pl) (hk:∀p∈pl,p.req<k) (hm:m<2^w.rs.l.length) (JW:∀i,i<k→m.testBit i=(df pl).testBit i) (hf:gP w all pl m=true):
  ∃rest,VC w all (pl++rest)∧df (pl++rest)=m∧∀p∈rest,(k:Int)≤p.req:=by
 have et:=hw.v.rl
 have qK:m<2^62:=na hm (ji (by decide) (by omega))
 obtain⟨f,jQ,gL⟩:=(VY hw hA hm).1 hf
 have cd:∀i∈il pl m,0≤i∧i<w.rs.l.length∧m.testBit i.toNat=true∧(k:Int)≤i∧∀q∈pl,q.req≠i:=by
  intro i hi
  obtain⟨h1,h2⟩:=eT.1 hi
  obtain⟨h3,h4⟩:=(zu qK).1 h1
  have gV:=QC h2
  refine⟨h3,(BI hm h1).2,h4,?_,gV⟩
  apply qi
  intro aC
  rw[JW i.toNat (by omega),tP,fL]at h4
  obtain⟨p,hp,he⟩:=h4
  have:=(h.mem p hp).1
  exact gV p hp (by simp at he;omega)
 have pU:(il pl m).Pairwise (· <·):=Cf _ BH
 have qN:∀i∈il pl m,(f i).req=i:=fun i hi=>by
  obtain⟨h0,h1,_⟩:=cd i hi
  exact(hA.iY i h0 h1 _ (jQ i hi).1).2
 have dW:∀i∈il pl m,ch w (f i):=fun i hi=>by
  obtain⟨h0,h1,_⟩:=cd i hi
  exact(hA.iY i h0 h1 _ (jQ i hi).1).1
 have hR:VC w all (pl++(il pl m).map f):=by
  refine⟨fun p hp=>?_,?_,?_⟩
  ·rcases dD.1 hp with hp|hp
   ·exact h.mem p hp
   ·obtain⟨i,hi,rfl⟩:=cC.1 hp
    obtain⟨h0,h1,_⟩:=cd i hi
    rw[qN i hi]
    exact⟨h0,h1,(jQ i hi).1⟩
  ·rw[jX]
   refine⟨h.kW,?_,fun a ha b hb=>?_⟩
   ·rw[rz]
    refine pU.imp_of_mem fun{a b} ha hb gK=>?_
    rw[qN a ha,qN b hb];exact gK
   ·obtain⟨i,hi,rfl⟩:=cC.1 hb
    have:=hk a ha
    have:=(cd i hi).2.2.2.1
    rw[qN i hi];omega
  ·rw[jX]
   refine⟨h.nc,?_,fun a ha b hb=>?_⟩
   ·rw[rz]
    refine pU.imp_of_mem fun{a b} ha hb gK=>?_
    exact gL a ha b hb (by omega)
   ·obtain⟨i,hi,rfl⟩:=cC.1 hb
    rw[Fe hw (h.iY hA a ha) (dW i hi)]
    exact(jQ i hi).2 a ha
 refine⟨(il pl m).map f,hR,?_,fun p hp=>?_⟩
 ·apply Nat.eq_of_testBit_eq
  intro i
  rw[tP,vL,vI,ug,fL,fL]
  constructor
  ·rintro(⟨p,hp,he⟩|⟨p,hp,he⟩)
   ·have h0:=(h.mem p hp).1
    have h1:=hk p hp
    have j7:p.req.toNat=i:=by simpa using he
    rw[JW i (by omega),tP,fL]
    exact⟨p,hp,he⟩
   ·obtain⟨j,hj,rfl⟩:=cC.1 hp
    have j7:(f j).req.toNat=i:=by simpa using he
    rw[qN j hj]at j7
    rw[←j7];exact(cd j hj).2.2.1
  ·intro hb
   by_cases hex:∃p∈pl,p.req.toNat=i
   ·obtain⟨p,hp,he⟩:=hex
    exact .inl ⟨p,hp,by simpa using he⟩
   ·right
    have hi:(i:Int)∈il pl m:=by
     refine eT.2 ⟨(zu qK).2 ⟨by omega,by simpa using hb⟩,?_⟩
     rw[abI]
     unfold aM
     rw[Hl]
     intro p hp he
     have:p.req=(i:Int):=by simpa using he
     exact hex ⟨p,hp,by omega⟩
    refine⟨f i,cC.2 ⟨i,hi,rfl⟩,?_⟩
    rw[qN _ hi];simp
 ·obtain⟨i,hi,rfl⟩:=cC.1 hp
  rw[qN i hi];exact(cd i hi).2.2.2.1
end
def xy (w:W) (all:List (Sl P×Bool)) (m:Nat):Bool:=pw all m&&gP w all [] m
theorem Zs {m:Nat}:∀{all:List (Sl P×Bool)} {k:Nat},tQ m k all=true↔∀i c,all[i]? =some c→c.2=false→m.testBit (k+i)=true
 |[],k=>by simp[tQ]
 | c :: r, k => by
  simp only[tQ,dB,ug,Zs (all:=r)]
  constructor
  ·rintro⟨h1,h2⟩ i d hd hf
   cases i with
   |zero=>
    simp only[Hn,fm]at hd
    subst hd
    rcases h1 with h1|h1
    ·rw[h1]at hf;exact absurd hf (by decide)
    ·exact h1
   |succ i=>
    have:=h2 i d (by simpa using hd) hf
    rwa [show k+(i+1)=k+1+i by omega]
  ·intro h
   refine⟨?_,fun i d hd hf=>?_⟩
   ·by_cases hc:c.2=true
    ·exact .inl hc
    ·exact .inr (h 0 c rfl (by simpa using hc))
   ·have:=h (i+1) d (by simpa using hd) hf
    rwa [show k+1+i=k+(i+1)by omega]
theorem KM {all:List (Sl P×Bool)} {m:Nat}:pw all m=true↔∀i,i<all.length→cO all i=false→m.testBit i=true:=by
 unfold pw
 rw[Zs]
 constructor
 ·intro h i hi hc
  have:=h i all[i] (cM hi) (by simpa[cO,List.getD,hi]using hc)
  rwa [fC]at this
 ·intro h i c hc hf
  obtain⟨hi,he⟩:=bd.1 hc
  rw[fC]
  exact h i hi (by simp[cO,List.getD,hi,he,hf])
theorem GV {w:W} {all:List (Sl P×Bool)}:∀{N:Nat},(∀m,m∈(dm w all N).2↔m<N∧xy w all m=true∧jd w m=(dm w all N).1)∧(∀m,m<N→xy w all m=true→jd w m≤(dm w all N).1)
 |0=>⟨fun m=>by simp[dm],fun m h=>by omega⟩
 | N + 1 => by
  obtain⟨h1,h2⟩:=GV (N:=N)
  rw[BY]
  unfold sN
  rw[show(pw all N&&gP w all [] N)=xy w all N from rfl]
  cases hf:xy w all N with
  | false =>
   rw[nJ,aq (by decide)]
   refine⟨fun m=>?_,fun m hm lh=>?_⟩
   ·rw[h1]
    constructor
    ·rintro⟨a,b,c⟩;exact⟨by omega,b,c⟩
    ·rintro⟨a,b,c⟩
     have:m≠N:=by intro e;rw[e,hf]at b;exact absurd b (by decide)
     exact⟨by omega,b,c⟩
   ·have:m≠N:=by intro e;rw[e,hf]at lh;exact absurd lh (by decide)
    exact h2 m (by omega) lh
  | true =>
   rw[sQ]
   by_cases hle:(dm w all N).1≤jd w N
   ·rw [ak (by simpa using hle)]
    by_cases aC:(dm w all N).1<jd w N
    ·rw[ak aC]
     refine⟨fun m=>?_,fun m hm lh=>?_⟩
     ·simp only[eK]
      constructor
      ·rintro rfl;exact⟨by omega,hf,rfl⟩
      ·rintro⟨a,b,c⟩
       apply qi
       intro aB
       have:=h2 m (by omega) b
       omega
     ·show jd w m≤jd w N
      by_cases e:m=N
      ·rw[e];exact zL _
      ·have:=h2 m (by omega) lh;omega
    ·rw[aq aC]
     refine⟨fun m=>?_,fun m hm lh=>?_⟩
     ·simp only[dD,eK]
      rw[h1]
      constructor
      ·rintro(⟨a,b,c⟩|rfl)
       ·exact⟨by omega,b,c⟩
       ·exact⟨by omega,hf,by omega⟩
      ·rintro⟨a,b,c⟩
       by_cases e:m=N
       ·exact .inr e
       ·exact .inl ⟨by omega,b,c⟩
     ·show jd w m≤(dm w all N).1
      by_cases e:m=N
      ·rw[e];omega
      ·exact h2 m (by omega) lh
   ·rw[aq (by simpa using hle)]
    refine⟨fun m=>?_,fun m hm lh=>?_⟩
    ·rw[h1]
     constructor
     ·rintro⟨a,b,c⟩;exact⟨by omega,b,c⟩
     ·rintro⟨a,b,c⟩
      by_cases e:m=N
      ·subst e;omega
      ·exact⟨by omega,b,c⟩
    ·by_cases e:m=N
     ·subst e;omega
     ·exact h2 m (by omega) lh
section
variable{w:W} {all:List (Sl P×Bool)}
def pq (w:W) (all:List (Sl P×Bool)):Int:=(dm w all (2^w.rs.l.length)).1
def xv (w:W) (all:List (Sl P×Bool)):List Nat:=(dm w all (2^w.rs.l.length)).2
structure VF (w:W) (all:List (Sl P×Bool)) (R:List P):Prop where
 vc:VC w all R
 full:∀i:Nat,i<w.rs.l.length→cO all i=false→∃p∈R,p.req=(i:Int)
theorem VF.perm (hA:CA w all) {R:List P} (h:VF w all R):pw all (df R)=true:=by
 rw[KM,hA.len]
 intro i hi hc
 obtain⟨p,hp,he⟩:=h.full i hi hc
 rw[tP,fL]
 exact⟨p,hp,by simp;omega⟩
theorem VF.Qq (hA:CA w all) {R:List P} (h:VC w all R) (hp:pw all (df R)=true):VF w all R:=by
 refine⟨h,fun i hi hc=>?_⟩
 have:=KM.1 hp i (by rw[hA.len];exact hi) hc
 rw[tP,fL]at this
 obtain⟨p,hp,he⟩:=this
 have:=(h.mem p hp).1
 exact⟨p,hp,by simp at he;omega⟩
theorem VF.ok (hw:Wk w) (hA:CA w all) {R:List P} (h:VF w all R):xy w all (df R)=true:=by
 have:=V2 hw hA (pl:=[]) (rest:=R) (by simpa using h.vc)
 rw[kO]at this
 unfold xy
 rw[h.perm hA,this];rfl
theorem VF.le_max (hw:Wk w) (hA:CA w all) {R:List P} (h:VF w all R):bN w R≤pq w all:=by
 have h2:=(GV (w:=w) (all:=all) (N:=2^w.rs.l.length)).2 (df R) h.vc.re (h.ok hw hA)
 rwa [h.vc.val hw]at h2
theorem VF.Km (hw:Wk w) (hA:CA w all) {R:List P} (h:VF w all R):df R∈xv w all↔bN w R=pq w all:=by
 rw[show xv w all=(dm w all (2^w.rs.l.length)).2 from rfl,(GV (w:=w) (all:=all) (N:=2^w.rs.l.length)).1]
 rw[h.vc.val hw]
 exact⟨fun h=>h.2.2,fun hv=>⟨h.vc.re,h.ok hw hA,hv⟩⟩
theorem Qh (hw:Wk w) (hA:CA w all) {m:Nat} (hm:m∈xv w all):∃R,VF w all R∧df R=m∧bN w R=pq w all:=by
 obtain⟨h1,h2,h3⟩:=(GV (w:=w) (all:=all) (N:=2^w.rs.l.length)).1 m |>.1 hm
 unfold xy at h2
 rw[dB]at h2
 obtain⟨R,hR,ho,_⟩:=Zu hw hA (pl:=[]) (k:=0) VC.nil (fun p hp=>absurd hp (by simp)) h1 (fun i hi=>by omega) h2.2
 rw[kO]at hR ho
 exact⟨R,VF.Qq hA hR (by rw[ho];exact h2.1),ho,by rw[←hR.val hw,ho];exact h3⟩
theorem aap:∀N,(dm w all N).1=-1∧(dm w all N).2=[]∨∃m,m∈(dm w all N).2:=by
 intro N
 induction N with
 |zero=>left;exact⟨rfl,rfl⟩
 | succ N ih =>
  rw[BY];unfold sN
  split
  ·split
   ·right;exact⟨N,by simp⟩
   ·right;exact⟨N,by simp⟩
  ·exact ih
theorem ago {pl:List P} {w:W} {all:List (Sl P×Bool)} (h:VC w all pl) {i:Int}:((my pl:Nat):Int)≤i→∀p∈pl,p.req<i:=by
 intro hi p hp
 unfold my at hi
 cases hl:pl.getLast? with
 |none=>rw[R6]at hl;subst hl;exact absurd hp (by simp)
 | some z =>
  rw[hl]at hi
  simp only at hi
  have hz:=(h.mem z (R9 hl)).1
  have Xs:p.req≤z.req:=by
   obtain⟨a,ha⟩:=List.getLast?_eq_some_iff.1 hl
   rw[ha,dD,eK]at hp
   rcases hp with hp|rfl
   ·have:=h.kW
    rw[ha,jX]at this
    exact Int.le_of_lt (this.2.2 p hp z (by simp))
   ·exact zL _
  omega
theorem agn {pl t:List P} {q:P} {w:W} {all:List (Sl P×Bool)} (h:VC w all (pl++q::t)):my pl≤q.req.toNat:=by
 unfold my
 cases hl:pl.getLast? with
 |none=>exact bg _
 |some z=>
  have XZ:=R9 hl
  have hz:=(h.mem z (pG _ XZ)).1
  have:=h.kW
  rw[jX]at this
  have:=this.2.2 z XZ q (by simp)
  show z.req.toNat+1≤q.req.toNat
  omega
theorem YQ (hw:Wk w) (hA:CA w all) {pl:List P} (h:VC w all pl) {i:Nat} (hi:my pl≤i) (bH:i<w.rs.l.length) {p:P} (hp:p∈cL all (i:Int)) (ho:l6 w all pl (df pl) (xv w all) i p=true):
  ∃rest,VF w all (pl++p::rest)∧bN w (pl++p::rest)=pq w all:=by
 unfold l6 at ho
 rw[dB]at ho
 obtain⟨hc,hs⟩:=ho
 have hc:dL w p pl=false:=by simpa using hc
 obtain⟨m,hm,gU⟩:=fL.1 hs
 rw[dB,dZ]at gU
 obtain⟨JW,lU⟩:=gU
 obtain⟨dW,hr⟩:=hA.iY (i:Int) (by omega) (by omega) p hp
 have qN:=ago h (i:=(i:Int)) (by omega)
 have h1:VC w all (pl++[p]):=by
  refine⟨fun q hq=>?_,?_,?_⟩
  ·rw[dD,eK]at hq
   rcases hq with hq|rfl
   ·exact h.mem q hq
   ·rw[hr];exact⟨by omega,by omega,hp⟩
  ·rw[jX]
   refine⟨h.kW,Lu _ _,fun a ha b hb=>?_⟩
   rw[eK]at hb;subst hb
   rw[hr];exact qN a ha
  ·rw[jX]
   refine⟨h.nc,Lu _ _,fun a ha b hb=>?_⟩
   rw[eK]at hb;subst hb
   exact AI.1 hc a ha
 obtain⟨ajb,OZ,hmv⟩:=(GV (w:=w) (all:=all) (N:=2^w.rs.l.length)).1 m |>.1 hm
 unfold xy at OZ
 rw[dB]at OZ
 have hb:=Uh.1 JW
 obtain⟨rest,hR,lu,_⟩:=Zu hw hA (pl:=pl++[p]) (m:=m) (k:=i+1) h1 (fun q hq=>by
  rw[dD,eK]at hq
  rcases hq with hq|rfl
  ·have:=qN q hq;omega
  ·rw[hr];omega) ajb (fun j hj=>by
  have:=hb j
  rw[bP hj,sQ]at this
  rw[this,Zi,Cn,hr,LF];simp) lU
 rw[gX,List.singleton_append]at hR lu
 exact⟨rest,VF.Qq hA hR (by rw[lu];exact OZ.1),by rw[←hR.val hw,lu];exact hmv⟩
theorem Wo (hw : Wk w) (hA : CA w all) {Q : List P} (hQ : VF w all Q) (hv : bN w Q = pq w all) (qL : ∀ R, VF w all R → bN w R = pq w all → cB R Q = false) :
  ∀(fuel:Nat) (pl t:List P),Q=pl++t→t.length<fuel→nq w all (xv w all) fuel pl=Q
 |0,_,_,_,h=>absurd h (da _)
 | fuel + 1, pl, t, hq, hl => by
  simp only[nq]
  have cD:VC w all pl:=by have:=hQ.vc;rw[hq]at this;exact this.pre
  cases t with
  |nil=>
   rw[je]at hq
   subst hq
   rw[ak (fL.2 ⟨df Q,(hQ.Km hw hA).2 hv,by simp⟩)]
  | cons q t =>
   rw[aq (by
    intro h
    obtain⟨m,hm,he⟩:=fL.1 h
    have he:df pl=m:=by simpa using he
    rw[←he]at hm
    obtain⟨R,hR,Fx,Fy⟩:=Qh hw hA hm
    have Xp:VF w all pl:=VF.Qq hA cD (by rw[←Fx];exact hR.perm hA)
    have:=qL pl Xp ((Xp.Km hw hA).1 hm)
    rw[hq,acX (by simp)]at this
    exact absurd this (by decide))]
   have A7:=hQ.vc
   rw[hq]at A7
   obtain⟨q0,q1,qp⟩:=A7.mem q (by simp)
   have hjq:((q.req.toNat:Nat):Int)=q.req:=by omega
   have pW:=agn A7
   have ajh : sG w all pl (df pl) (xv w all) = some q := by
    unfold sG
    rw[hA.len]
    refine YP (j:=q.req.toNat) ?_ pW (by omega) ?_
    ·rw [show (all.getD q.req.toNat default).1.l = cL all q.req from rfl]
     rw[List.find?_eq_some_iff_append]
     have XA:=hA.srt q.req q0 q1
     obtain⟨as,bs,gK⟩:=List.append_of_mem qp
     refine⟨?_,as,bs,gK,fun p hp=>?_⟩
     ·-- q itself may come next
      unfold l6
      rw[dB]
      refine⟨?_,fL.2 ⟨df Q,(hQ.Km hw hA).2 hv,?_⟩⟩
      ·have:dL w q pl=false:=AI.2 fun a ha=>by
        have:=A7.nc
        rw[jX]at this
        exact this.2.2 a ha q (by simp)
       rw[this];rfl
      ·rw [dB, dZ]
       constructor
       ·rw[Uh]
        intro j
        rw[hq,tP,tP,vL,oA]
        have pU:=A7.kW
        rw[jX,uu]at pU
        have ht:∀x∈t,q.req<x.req:=pU.2.1.1
        have pf:∀x∈pl,x.req<q.req:=fun x hx=>pU.2.2 x hx q (by simp)
        have h0:∀x∈pl,0≤x.req:=fun x hx=>(cD.mem x hx).1
        by_cases hj:j<q.req.toNat+1
        ·rw[bP hj,sQ]
         have:(t.any fun p=>decide (p.req.toNat=j))=false:=by
          rw[zM];intro x hx;have:=ht x hx;simp;omega
         rw[this,Cc]
        ·rw[bS hj,nJ]
         have h1:(pl.any fun p=>decide (p.req.toNat=j))=false:=by
          rw[zM];intro x hx;have:=pf x hx;have:=h0 x hx;simp;omega
         rw[h1,bS (by omega)];rfl
       ·rw[hq,show pl++q::t=(pl++[q])++t by simp]
        exact V2 hw hA (by rw[gX];exact A7)
     ·-- an earlier one would give an earlier plan
      rw[xI]
      cases ho:l6 w all pl (df pl) (xv w all) q.req.toNat p with
      |false=>rfl
      | true =>
       have pZ:p∈cL all q.req:=by rw[gK];simp[hp]
       obtain⟨rest,hR,Fy⟩:=YQ hw hA cD pW (by omega) (by rw[hjq];exact pZ) ho
       have:=qL _ hR Fy
       rw[hq,IS]at this
       have aC:lexB (kP p) (kP q)=true:=by
        rw[gK,jX]at XA
        exact XA.2.2 p hp q (by simp)
       simp only[cB]at this
       rw[aq (by intro e;rw[e,GA]at aC;exact absurd aC (by decide)),aC]at this
       exact absurd this (by decide)
    ·intro i' h1 h2
     rw[show(all.getD i' default).1.l=cL all (i':Int)from rfl,Hl]
     intro p hp ho
     obtain⟨rest,hR,Fy⟩:=YQ hw hA cD h1 (by omega) hp ho
     have:=qL _ hR Fy
     rw[hq,IS]at this
     have hr:=(hA.iY (i':Int) (by omega) (by omega) p hp).2
     have aC:lexB (kP p) (kP q)=true:=by
      unfold kP
      simp only[lexB]
      rw[aq (by omega)];simp;omega
     simp only[cB]at this
     rw[aq (by intro e;rw[e,GA]at aC;exact absurd aC (by decide)),aC]at this
     exact absurd this (by decide)
   rw[ajh]
   exact Wo hw hA hQ hv qL fuel (pl++[q]) t (by rw[hq];simp) (by simp at hl;omega)
theorem ac1 (hw:Wk w) (hA:CA w all) {Q:List P} (hQ:VF w all Q) (hv:bN w Q=pq w all) (qL:∀R,VF w all R→bN w R=pq w all→cB R Q=false):hH w all=(Q,pq w all,true):=by
 have w9:0≤pq w all:=by
  rw[←hv,←hQ.vc.val hw]
  exact(G5 hw fun i hi=>by
   have qK:df Q<2^w.rs.l.length:=hQ.vc.re
   exact BI qK hi).1
 unfold hH
 rw[hA.len]
 rw[aq (show¬(dm w all (2^w.rs.l.length)).1<0 from by show¬pq w all<0;omega)]
 have Pk:Q.length<w.rs.l.length+1:=by
  have:∀(l:List P) (k:Int),0≤k→l.Pairwise (fun a b=>a.req<b.req)→(∀p∈l,k≤p.req∧p.req<w.rs.l.length)→(l.length:Int)≤w.rs.l.length-k∨l=[]:=by
   intro l
   induction l with
   |nil=>intro _ _ _ _;right;rfl
   |cons x r ih=>
    intro k hk hp hm
    left
    have hx:=hm x (by simp)
    have u6:=uu.1 hp
    rcases ih (x.req+1) (by omega) u6.2 (fun p J0=>⟨by have:=u6.1 p J0;omega,(hm p (jg _ J0)).2⟩)with h|h
    ·simp only[dP];omega
    ·subst h;simp;omega
  rcases this Q 0 (by omega) hQ.vc.kW (fun p hp=>⟨(hQ.vc.mem p hp).1,(hQ.vc.mem p hp).2.1⟩)with h|h
  ·omega
  ·subst h;simp
 have:=Wo hw hA hQ hv qL (w.rs.l.length+1) [] Q rfl Pk
 rw[show(dm w all (2^w.rs.l.length)).2=xv w all from rfl,this]
 rfl
theorem ac2 (hw:Wk w) (hA:CA w all) (h:∀R,¬VF w all R):hH w all=([],0,false):=by
 unfold hH
 rw[hA.len]
 rcases aap (w:=w) (all:=all) (2^w.rs.l.length)with⟨h1,_⟩|⟨m,hm⟩
 ·rw[ak (by rw[h1];decide)]
 ·obtain⟨R,hR,_⟩:=Qh hw hA hm
  exact absurd hR (h R)
theorem aoF (hw:Wk w) (hA:CA w all) (h:∃R,VF w all R):∃R,VF w all R∧bN w R=pq w all:=by
 obtain⟨R0,h0⟩:=h
 rcases aap (w:=w) (all:=all) (2^w.rs.l.length)with⟨h1,h2⟩|⟨m,hm⟩
 ·have:=h0.le_max hw hA
  have w9:0≤bN w R0:=by
   rw[←h0.vc.val hw]
   exact(G5 hw fun i hi=>BI h0.vc.re hi).1
  have:pq w all=-1:=h1
  omega
 ·obtain⟨R,hR,_,hv⟩:=Qh hw hA hm
  exact⟨R,hR,hv⟩
end
def cmpL:List P→List P→Int
 |[],[]=>0
 |[],_::_=>-1
 |_::_,[]=>1
 |x::r,y::t=>if kB x y=0 then cmpL r t else kB x y
theorem Yy:∀{a b:List Int},kI a b<0↔lexB a b=true
 |[],[]=>by simp[kI,lexB]
 |[],_::_=>by simp[kI,lexB]
 |_::_,[]=>by simp[kI,lexB]
 | x :: a, y :: b => by
  simp only[kI,lexB]
  by_cases h:x=y
  ·rw[ak (I6.2 h),ak h];exact Yy
  ·rw[aq (fun e=>h (I6.1 e)),aq h,dZ]
   unfold tj
   split
   ·rename_i h1;exact⟨fun _=>h1,fun _=>by decide⟩
   ·rename_i h1
    split
    ·exact⟨fun q=>absurd q (by decide),fun q=>absurd q h1⟩
    ·exact⟨fun q=>absurd q (by decide),fun q=>absurd q h1⟩
theorem aeq {p q:P}:kB p q<0↔lexB (kP p) (kP q)=true:=by
 unfold kB kP
 simp only[lexB]
 by_cases h1:p.req=q.req
 ·rw[ak h1,ak h1]
  by_cases h2:p.start=q.start
  ·rw[ak h2,ak h2];exact Yy
  ·rw[aq h2,aq h2,dZ];omega
 ·rw[aq h1,aq h1,dZ];omega
theorem UR:∀{a b:List P},cmpL a b<0↔cB a b=true
 |[],[]=>by simp[cmpL,cB]
 |[],_::_=>by simp[cmpL,cB]
 |_::_,[]=>by simp[cmpL,cB]
 |x::a,y::b=>by
  simp only[cmpL,cB]
  by_cases h:kB x y=0
  ·rw[ak h,ak (AB.1 h)];exact UR
  ·rw[aq h,aq (fun e=>h (AB.2 e))];exact aeq
section
variable{s:ae} {w:W}
theorem atD {a b:List P} {o1 o2:Own} {e1 e2:Nat} (hs:Ok s) (h1:a=[]∨e1=3) (h2:b=[]∨e2=3) (ha:oE a) (hb:oE b):
  aw AP (.fn 35) [.slice o1 e1 (a.map aj),.slice o2 e2 (b.map aj),.fn 36 [] []] s=some (I (cmpL a b),s):=by
 have la:=ha.len
 have lb:=hb.len
 have key:∀k ρ m,k≤a.length→(ρ 0=.slice o1 e1 (a.map aj)∧ρ 1=.slice o2 e2 (b.map aj)∧ρ 2=.fn 36 [] []∧ρ 11=.slice o1 e1 (a.map aj)∧ρ 12=I a.length∧ρ 13=I k∧k≤b.length∧cmpL a b=cmpL (a.drop k) (b.drop k)∧∃bx,m=s.push ⟨bx,[]⟩)→
   go AP afL (.c (.loop yd)::anr) ⟨ρ,m⟩=some (I (cmpL a b),s):=by
  refine ck a.length _ _ ?_ ?_
  ·rintro k ρ m hk ⟨g0,g1,g2,g11,g12,g13,OQ,hc,bx,rfl⟩ ih
   obtain⟨x,hx⟩:=get_some hk
   have dV:e1=3:=by rcases h1 with h|h;(rw[h]at hx;simp at hx);exact h
   subst dV
   have Gf:=cq (f:=aj) (o:=o1) (es:=3) hx
   have xm:=ha.ok x (bQ hx)
   have sx:=ha.b x (bQ hx)
   have cz:=bK hk (show(a.length:Int)<_ by omega)
   rw[eQ hx]at hc
   by_cases tF:k<b.length
   ·obtain⟨y,hy⟩:=get_some tF
    have dV:e2=3:=by rcases h2 with h|h;(rw[h]at hy;simp at hy);exact h
    subst dV
    have Pr:=cq (f:=aj) (o:=o2) (es:=3) hy
    have qT:=hb.ok y (bQ hy)
    have XS:=hb.b y (bQ hy)
    rw[eQ hy]at hc
    have dw:∀r,aw AP (.fn 36) [.agg (aj x),.agg (aj y)] (s.push r)=some (I (kB x y),s.push r):=fun r=>Rc (hs.push r) xm.1 qT.1 xm.2 qT.2 sx.1 XS.1 sx.2 XS.2
    have nx:decide ((b.length:Int)≤(k:Int))=false:=by simp;omega
    simp only[aj,Sl.v]at Gf Pr dw
    simp only[cmpL]at hc
    by_cases h0:kB x y=0
    ·rw[ak h0]at hc
     rw[h0]at dw
     have hz:decide (¬(0:Int)=0)=false:=by decide
     simp only[go_sem,yd,g0,g1,g2,g11,g12,g13,hs,aS hk,nx,Gf,Pr,dw,cz,aY,hz,at_len,rE,qW,BD,mU,rj,gX,aP,simprocAttr]
     refine ih _ _ ?_
     exact⟨g0,g1,g2,g11,g12,rfl,by omega,hc,_,rfl⟩
    ·rw[aq h0]at hc
     have hz:decide (¬kB x y=0)=true:=by simp[h0]
     rw[hc]
     simp only[go_sem,yd,g0,g1,g2,g11,g12,g13,hs,aS hk,nx,Gf,Pr,dw,cz,aY,hz,at_len,rE,qW,BD,mU,rj,gX,aP,simprocAttr]
   ·obtain rfl:k=b.length:=by omega
    have nx:decide ((b.length:Int)≤(b.length:Int))=true:=by simp
    rw[eS]at hc
    simp only[cmpL]at hc
    rw[hc]
    simp only[aj,Sl.v]at Gf
    simp only[go_sem,yd,g0,g1,g2,g11,g12,g13,hs,aS hk,nx,Gf,cz,at_len,rE,qW,BD,mU,rj,gX,aP,simprocAttr]
  ·rintro ρ m ⟨g0,g1,g2,g11,g12,g13,OQ,hc,bx,rfl⟩
   rw[eS]at hc
   by_cases hl:a.length<b.length
   ·have hd:decide ((a.length:Int)<(b.length:Int))=true:=by simp;omega
    obtain⟨y,hy⟩:=get_some hl
    rw[eQ hy]at hc
    simp only[cmpL]at hc
    rw[hc]
    simp only[go_sem,yd,IH,g0,g1,g2,g11,g12,g13,hs,bM,hd,aP,simprocAttr]
   ·have hd:decide ((a.length:Int)<(b.length:Int))=false:=by simp;omega
    obtain e:b.length=a.length:=by omega
    rw[←e,eS]at hc
    simp only[cmpL]at hc
    rw[hc]
    simp only[go_sem,yd,IH,g0,g1,g2,g11,g12,g13,hs,bM,hd,aP,simprocAttr]
 rw[aL (show AP 35=some EN from rfl) rfl]
 simp only[go_sem,T0,hs,aP,simprocAttr]
 refine key 0 _ _ (bg _) ?_
 exact⟨rfl,rfl,rfl,rfl,rfl,rfl,bg _,rfl,_,rfl⟩
end
section
variable{w:W} {a b:List (Sl P×Bool)}
theorem atu {plan:List P} {x:Sl P}:(jv w plan x).l=plan.foldl (fun l p=>wo w p l) x.l:=by
 unfold jv
 induction plan generalizing x with
 |nil=>rfl
 |cons p r ih=>rw[xO,xO,ih,kT]
theorem VX (hL:∀i,cL a i=cL b i) {plan:List P} {m:Nat}:gP w a plan m=gP w b plan m:=by
 unfold gP l7
 rw[vO,vO]
 congr 1
 refine zP fun i _=>?_
 simp only[Function.comp,atu]
 rw[show(a.getD i.toNat default).1.l=cL a i from rfl,hL];rfl
theorem aqq (hl:a.length=b.length) (hO:∀i,cO a i=cO b i) {m:Nat}:pw a m=pw b m:=by
 rw[vI,KM,KM,hl]
 simp only[hO]
theorem acZ (hl:a.length=b.length) (hL:∀i,cL a i=cL b i) (hO:∀i,cO a i=cO b i):hH w a=hH w b:=by
 have cp:∀st m,sN w a st m=sN w b st m:=fun st m=>by unfold sN;rw[aqq hl hO,VX hL]
 have mN:∀n,dm w a n=dm w b n:=fun n=>by
  unfold dm
  congr 1
  funext st m;exact cp st m
 have gV:∀plan own sets i,l6 w a plan own sets i=l6 w b plan own sets i:=fun plan own sets i=>by
  funext p
  unfold l6
  congr 2
  funext m
  rw[VX hL]
 have O5:∀n plan own sets i,mQ w a plan own sets i n=mQ w b plan own sets i n:=by
  intro n
  induction n with
  |zero=>intros;rfl
  |succ n ih=>
   intro plan own sets i
   simp only[mQ]
   rw[show(a.getD i default).1.l=cL a (i:Int)from rfl,hL,gV,ih];rfl
 have JQ:∀sets n plan,nq w a sets n plan=nq w b sets n plan:=by
  intro sets n
  induction n with
  |zero=>intro plan;rfl
  |succ n ih=>
   intro plan
   simp only[nq,sG]
   rw[hl,O5]
   simp only[ih]
 unfold hH
 rw[hl,mN,JQ]
end
section
variable{s:ae} {w:W}
theorem agp {a b:Int}:dk [a,b]=if a=0 then b else a:=by
 unfold dk
 by_cases h:a=0
 ·subst h
  unfold dk
  by_cases h2:b=0
  ·subst h2;rfl
  ·simp[h2]
 ·simp[h]
end
section
variable{s:ae} {w:W}
theorem Q8 {n:Nat}:(eI n).Pairwise (· <·):=by
 rw[rz]
 exact abB.imp fun h=>by omega
theorem Q9 {n:Nat}:∀i∈eI n,0≤i∧i<n:=fun i hi=>by
 obtain⟨k,hk,rfl⟩:=cC.1 hi
 have:=nQ.1 hk
 omega
theorem Ra {n:Nat}:(eI n).length=n:=by rw[bY,pF]
theorem aoG {n:Nat} (hn:n≤60):de (2^n-1)=eI n:=by
 have aC:2^n-1<2^62:=by
  have:(2:Nat)^n≤2^60:=ji (by decide) hn
  omega
 refine z6 BH Q8 fun x=>?_
 rw[zu aC,Sw]
 constructor
 ·rintro⟨h0,h1⟩
  have h1:=KF h1
  exact cC.2 ⟨x.toNat,nQ.2 h1,by omega⟩
 ·intro hx
  have:=Q9 x hx
  exact⟨this.1,by simp;omega⟩
theorem ahm {n c:Nat} {g:List Int} (h:g∈bf c (eI n)):g.Pairwise (· <·)∧∀i∈g,0≤i∧i<n:=by
 have hs:=A0 h
 exact⟨Q8.sublist hs,fun i hi=>Q9 i (hs.subset hi)⟩
end
def ek (w:W) (pl:List P) (g:List Int) (req:Int):List (Sl P×Bool):=(List.range w.rs.l.length).map fun i:Nat=>(eD 3 (hU w pl g (i:Int)),lN pl g req (i:Int))
def pj (w:W) (pl:List P) (req:Int) (st:List P×Int) (g:List Int):List P×Int:=
 if((hH w (ek w pl g req)).2.2&&(decide (st.2<(hH w (ek w pl g req)).2.1)||(decide ((hH w (ek w pl g req)).2.1=st.2)&&cB (hH w (ek w pl g req)).1 st.1)))=true then((hH w (ek w pl g req)).1,(hH w (ek w pl g req)).2.1)else st
def sA (w:W) (pl:List P) (req:Int) (c:Nat):List P×Int:=(bf c (eI w.rs.l.length)).foldl (pj w pl req) ([],-1)
def pk (w:W) (pl:List P) (req:Int):Nat→Nat→Option (List P)
 |_,0=>none
 |c,d+1=>if 0≤(sA w pl req c).2 then some (sA w pl req c).1 else pk w pl req (c+1) d
section
variable{s:ae} {w:W}
theorem Az {pl:List P} {g:List Int} {req:Int}:(ek w pl g req).length=w.rs.l.length:=by simp[ek]
theorem I1 {pl:List P} {g:List Int} {req:Int} {i:Nat} (h:i<w.rs.l.length):(ek w pl g req).getD i default=(eD 3 (hU w pl g (i:Int)),lN pl g req (i:Int)):=by
 unfold ek
 rw[List.getD,jf,Ho h];rfl
theorem E7 {pl:List P} {g:List Int} {req:Int} {i:Int} (h0:0≤i) (h1:i<w.rs.l.length):cL (ek w pl g req) i=hU w pl g i:=by
 unfold cL
 rw[I1 (by omega),kT,show((i.toNat:Nat):Int)=i by omega]
theorem UE {pl:List P} {g:List Int} {req:Int} {i:Nat} (h:i<w.rs.l.length):cO (ek w pl g req) i=lN pl g req (i:Int):=by
 unfold cO
 rw[I1 h]
theorem xK.acY {pl:List P} {g:List Int} {req:Int} {all:List (Sl P×Bool)} (h:xK w pl g req all):hH w all=hH w (ek w pl g req):=by
 refine acZ (by rw[h.len,Az]) (fun i=>?_) (fun i=>?_)
 ·by_cases hi:i.toNat<w.rs.l.length
  ·obtain⟨c,h1,h2,_⟩:=h.get i.toNat hi
   unfold cL
   rw[I1 hi,List.getD,h1,kT,kR]
   exact h2
  ·unfold cL
   rw[List.getD,List.getD,nM (by rw[h.len];omega),nM (by rw[Az];omega)]
 ·by_cases hi:i<w.rs.l.length
  ·obtain⟨c,h1,h2,_⟩:=h.get i hi
   unfold cO
   rw[I1 hi,List.getD,h1,kR]
  ·unfold cO
   rw[List.getD,List.getD,nM (by rw[h.len];omega),nM (by rw[Az];omega)]
theorem I3 (hw:Wk w) {pl:List P} (hp:gH pl) (dW:∀p∈pl,ch w p) {g:List Int} {i:Nat} (hi:i<w.rs.l.length) {p:P} (h:p∈hU w pl g (i:Int)):
  ch w p∧p.req=i∧p.an.l.length≤1000:=by
 unfold hU at h
 split at h
 ·have hm:=(eT.1 h).1
  obtain⟨h1,h2,_⟩:=nG hw (i:=(i:Int)) (by omega) (by omega) (eT.1 hm).1
  exact⟨h1,h2,(QI hw hi hm).2.1⟩
 ·rw[Option.mem_toList]at h
  have hm:=QB (l:=pl) (i:=(i:Int)) h
  exact⟨dW p hm.1,hm.2,by have:=(hp.ok p hm.1).2;omega⟩
theorem ad6 (hw:Wk w) {pl:List P} {g:List Int} {i:Nat} (hi:i<w.rs.l.length):(hU w pl g (i:Int)).length≤13000:=by
 unfold hU
 split
 ·have h1:=BP hw (i:=(i:Int)) (by omega) (by omega)
  have h2:(ct w [] (i:Int)).length≤(dT w (i:Int)).length:=nO _ _
  have h3:=nO (fun x=>!BW pl (i:Int) x) (ct w [] (i:Int))
  omega
 ·cases aM pl (i:Int)<;>simp
theorem xK.ok (hw:Wk w) {pl:List P} (hp:gH pl) (dW:∀p∈pl,ch w p) {g:List Int} {req:Int} {all:List (Sl P×Bool)} (h:xK w pl g req all):sP w 2 all:=by
 have hm:∀c∈all,∃(i:Nat) (d:Sl P),i<w.rs.l.length∧c.1=d∧d.l=hU w pl g (i:Int)∧d.ok 3:=by
  intro c hc
  obtain⟨i,hi⟩:=mZ hc
  have hl:=(bd.1 hi).1
  rw[h.len]at hl
  obtain⟨d,h1,h2,h3⟩:=h.get i hl
  rw[hi]at h1
  injection h1 with h1
  exact⟨i,d,hl,by rw[h1],h2,h3⟩
 refine⟨.inr rfl,h.len,fun c hc=>?_,fun c hc=>?_,fun c hc p jF=>?_,fun i c hc p jF=>?_⟩
 ·obtain⟨i,d,h1,h2,h3,h4⟩:=hm c hc
  rw[h2];exact h4
 ·obtain⟨i,d,h1,h2,h3,h4⟩:=hm c hc
  rw[h2,h3];exact ad6 hw h1
 ·obtain⟨i,d,h1,h2,h3,h4⟩:=hm c hc
  rw[h2,h3]at jF
  exact(I3 hw hp dW h1 jF).1
 ·have hl:=(bd.1 hc).1
  rw[h.len]at hl
  obtain⟨d,h1,h2,h3⟩:=h.get i hl
  rw[hc]at h1
  injection h1 with h1
  rw[h1,h2]at jF
  exact(I3 hw hp dW hl jF).2.1
theorem Wq {all:List (Sl P×Bool)} {sets:List Nat}:∀{n:Nat} {plan:List P},∀p∈nq w all sets n plan,p∈plan∨∃j:Nat,j<all.length∧p∈cL all (j:Int)
 |0,plan,p,h=>.inl h
 | n + 1, plan, p, h => by
  simp only[nq]at h
  split at h
  ·exact .inl h
  ·split at h
   ·rename_i q hq
    rcases Wq p h with h1|h1
    ·rcases dD.1 h1 with h1|h1
     ·exact .inl h1
     ·rw[eK]at h1
      subst h1
      unfold sG at hq
      obtain⟨j,j1,j2,j3,_⟩:=Qo hq
      exact .inr ⟨j,by omega,j3⟩
    ·exact .inr h1
   ·exact .inl h
theorem Wp {all:List (Sl P×Bool)} {sets:List Nat}:∀{n:Nat} {plan:List P},(nq w all sets n plan).length≤plan.length+n
 |0,plan=>aH _
 | n + 1, plan => by
  simp only[nq]
  split
  ·omega
  ·split
   ·rename_i q hq
    have:=Wp (all:=all) (sets:=sets) (n:=n) (plan:=plan++[q])
    rw[cj]at this
    simp at this;omega
   ·omega
theorem ac3 (hw:Wk w) {pl:List P} (hp:gH pl) (dW:∀p∈pl,ch w p) {g:List Int} {req:Int}:oE (hH w (ek w pl g req)).1:=by
 have et:=hw.v.rl
 have hm:∀p∈(hH w (ek w pl g req)).1,ch w p∧p.an.l.length≤1000:=by
  intro p h
  unfold hH at h
  split at h
  ·exact absurd h (by simp)
  ·rcases Wq p h with h|⟨j,h1,h2⟩
   ·exact absurd h (by simp)
   ·rw[Az]at h1
    rw[E7 (by omega) (by omega)]at h2
    have:=I3 hw hp dW h1 h2
    exact⟨this.1,this.2.2⟩
 refine⟨?_,fun p h=>⟨(hm p h).1.ok,(hm p h).2⟩,fun p h=>?_⟩
 ·unfold hH
  split
  ·simp
  ·have:=Wp (w:=w) (all:=ek w pl g req) (sets:=(dm w (ek w pl g req) (2^(ek w pl g req).length)).2) (n:=(ek w pl g req).length+1) (plan:=[])
   rw[Az]at this⊢
   simp at this
   show(nq _ _ _ _ _).length≤1000
   omega
 ·have h:=(hm p h).1
  have:=h.r0;have:=h.r1;have:=h.s0;have:=h.s1
  exact⟨by omega,by omega⟩
end
section
variable{s:ae} {w:W}
abbrev Gs (ρ:Nat→AV):dx:=⟨true,none,ρ,[56],Db,uA⟩
structure vJ (w:W) (pl:List P) (op:Own) (ep:Nat) (req:Int) (kb:Nat) (done:List (List Int)) (r:Rec):Prop where
 b1:r.boxes[1]? =some [.slice op ep (pl.map aj)]
 b2:r.boxes[2]? =some [I req]
 b3:r.boxes[3]? =some [OW w]
 kv:r.boxes[kb]? =some [bG 3 ((done.foldl (pj w pl req) ([],-1)).1.map aj)]
 km:r.boxes[kb+1]? =some [I (done.foldl (pj w pl req) ([],-1)).2]
 k3:3<kb
 tok:oE (done.foldl (pj w pl req) ([],-1)).1
theorem aky {X T:Rec→ae} {l d:Nat} {ρ:Nat→AV} {r:Rec} {g:List Int} {pl:List P} {op:Own} {ep:Nat} {req:Int} {kb:Nat} {done:List (List Int)} (hM:gG X d) (hX:∀r,busy l (T r)=X r) (hR:∀r,mm l (Gs ρ) (T r)) (bE:∀r,Ok (T r)) (hw:Wk w) (hN:0<w.rs.l.length)
  (hp:gH pl) (dW:∀p∈pl,ch w p) (qH:pl=[]∨ep=3) (ny:g.length≤100) (h4:ρ 4=.ptr d 1 0) (h5:ρ 5=.ptr d 2 0) (h8:ρ 8=.ptr d 3 0) (cG:ρ 12=.ptr d kb 0) (oP:ρ 13=.ptr d (kb+1) 0) (hI:vJ w pl op ep req kb done r):
  ∃r',aw AP (.yield l) [bG 1 (g.map aD)] (T r)=some (.v (.bool true),T r')∧vJ w pl op ep req kb (done++[g]) r':=by
 have et:=hw.v.rl
 have y7:∀r,Ok (X r):=fun r=>by rw[←hX];exact(bE r).busy
 have On:∀r,(T r).ag.length=(X r).ag.length:=fun r=>by rw[←hX];rfl
 have n9:∀r ρ' q,qw l .normal ⟨ρ',(X r).push q⟩=some (.v (.bool true),T r):=fun r ρ' q=>by rw[←hX];exact NW (hR r)
 obtain⟨b1,b2,b3,bk,bm,k3,p6⟩:=hI
 have k1:∀q,((X r).push q).box d 1=some [.slice op ep (pl.map aj)]:=fun q=>by rw[hM.box,b1]
 have k2:∀q,((X r).push q).box d 2=some [I req]:=fun q=>by rw[hM.box,b2]
 have Bz:∀q,((X r).push q).box d 3=some [OW w]:=fun q=>by rw[hM.box,b3]
 generalize cp:done.foldl (pj w pl req) ([],-1)=st at*
 have kk:∀q,((X r).push q).box d kb=some [bG 3 (st.1.map aj)]:=fun q=>by rw[hM.box,bk]
 have km:∀q,((X r).push q).box d (kb+1)=some [I st.2]:=fun q=>by rw[hM.box,bm]
 have OO:∃o e,bG 1 (g.map aD)=.slice o e (g.map aD)∧(g=[]∨e=1):=by
  cases g with
  |nil=>exact⟨.aA,0,rfl,.inl rfl⟩
  |cons a t=>exact⟨.any,1,rfl,.inr rfl⟩
 obtain⟨og,eg,OO,nx⟩:=OO
 have hTp:=oE.of hw hp dW
 have fk:∀q,∃all,aw AP (.fn 33) [OW w,.slice op ep (pl.map aj),.slice og eg (g.map aD),I req] ((X r).push q)=some (CH w .any 2 all,(X r).push q)∧xK w pl g req all:=fun q=>atg ((y7 r).push q) hw hN hTp qH nx (by omega)
 obtain⟨all,dU,gj⟩:=fk ⟨[],[]⟩
 have qF:aw AP (.fn 34) [CH w .any 2 all] ((X r).push ⟨[],[]⟩)=some (Aj (hH w (ek w pl g req)),(X r).push ⟨[],[]⟩):=by
  rw[←gj.acY]
  exact Uq ((y7 r).push _) hw (gj.ok hw hp dW)
 have Ox:=ac3 hw hp dW (g:=g) (req:=req)
 have gA:(done++[g]).foldl (pj w pl req) ([],-1)=pj w pl req st g:=by rw[Lo,cp];rfl
 unfold pj at gA
 generalize JA:hH w (ek w pl g req)=R at*
 obtain⟨B1,V1,O1⟩:=R
 obtain⟨B0,V0⟩:=st
 simp only at gA Ox p6 kk km bk bm
 have WU:∀q,aw AP (.fn 35) [bG 3 (B1.map aj),bG 3 (B0.map aj),.fn 36 [] []] ((X r).push q)=some (I (cmpL B1 B0),(X r).push q):=fun q=>by
  rw[uw,uw]
  simp only[Sl.v,kT]
  refine atD ((y7 r).push q) ?_ ?_ Ox p6
  ·cases B1<;>first|exact .inl rfl|exact .inr rfl
  ·cases B0<;>first|exact .inl rfl|exact .inr rfl
 have aC:decide (cmpL B1 B0<0)=cB B1 B0:=by
  rw[vI,dZ];exact UR
 have aih:(bG 3 (B1.map aj)).isClosed=true:=by cases B1<;>rfl
 have zj:∀q,((X r).push q).store 1 (.ptr d kb 0) (bG 3 (B1.map aj))=some ((X ⟨r.boxes.set kb [bG 3 (B1.map aj)],r.toks⟩).push q):=fun q=>hM.store (by rw[IZ];simp[aih]) (by rw[IZ];simp[kC,X3]) bk (by rw[IZ];rfl)
 have Gi:∀q,((X ⟨r.boxes.set kb [bG 3 (B1.map aj)],r.toks⟩).push q).store 1 (.ptr d (kb+1) 0) (I V1)=some ((X ⟨(r.boxes.set kb [bG 3 (B1.map aj)]).set (kb+1) [I V1],r.toks⟩).push q):=fun q=>hM.store (by rfl) (by rfl) (row:=[I V0]) (by show(r.boxes.set kb _)[kb+1]? =_;rw[eJ (by omega),bm]) (by rfl)
 have hlk:=(bd.1 bk).1
 have Xc:=(bd.1 bm).1
 have take:∀c:Bool,c=true→(if c=true then(B1,V1)else(B0,V0))=(done++[g]).foldl (pj w pl req) ([],-1)→vJ w pl op ep req kb (done++[g]) ⟨(r.boxes.set kb [bG 3 (B1.map aj)]).set (kb+1) [I V1],r.toks⟩:=by
  rintro c hc he
  rw[ak hc]at he
  refine⟨?_,?_,?_,?_,?_,k3,?_⟩<;>(try rw[←he])
  ·show((r.boxes.set kb _).set (kb+1) _)[1]? =_
   rw[eJ (by omega),eJ (by omega)];exact b1
  ·show((r.boxes.set kb _).set (kb+1) _)[2]? =_
   rw[eJ (by omega),eJ (by omega)];exact b2
  ·show((r.boxes.set kb _).set (kb+1) _)[3]? =_
   rw[eJ (by omega),eJ (by omega)];exact b3
  ·show((r.boxes.set kb _).set (kb+1) _)[kb]? =_
   rw[eJ (by omega),ml hlk]
  ·show((r.boxes.set kb _).set (kb+1) _)[kb+1]? =_
   rw[ml (by rw[zO];exact Xc)]
  ·exact Ox
 have leave:∀c:Bool,c=false→(if c=true then(B1,V1)else(B0,V0))=(done++[g]).foldl (pj w pl req) ([],-1)→vJ w pl op ep req kb (done++[g]) r:=by
  rintro c hc he
  rw[aq (by rw[hc];decide)]at he
  exact⟨b1,b2,b3,by rw[←he];exact bk,by rw[←he];exact bm,k3,by rw[←he];exact p6⟩
 have PA:=fun h=>take _ h gA.symm
 have hle:=fun h=>leave _ h gA.symm
 rw[Nr (hR _) rfl,OO]
 simp only[go_sem,Db,Jn (hR _),GS,simprocAttr]
 simp only[OW,CH,Aj]at dU qF Bz
 generalize hZ1:bG 3 (B1.map aj)=z1 at*
 generalize hZ0:bG 3 (B0.map aj)=z0 at*
 cases O1 with
 |false=>
  refine⟨r,?_,hle (by rfl)⟩
  simp only[go_sem,uA,hX,h4,h5,h8,k1,k2,Bz,dU,qF,n9,simprocAttr]
 | true =>
  cases h1:decide (V0<V1)with
  |true=>
   refine⟨_,?_,PA (by simp[h1])⟩
   simp only[go_sem,uA,hX,h4,h5,h8,cG,oP,k1,k2,Bz,km,dU,qF,n9,h1,zj,Gi,simprocAttr]
  | false =>
   cases h2:decide (V1=V0)with
   |false=>
    refine⟨r,?_,hle (by simp[h1,h2])⟩
    simp only[go_sem,uA,hX,h4,h5,h8,oP,k1,k2,Bz,km,dU,qF,n9,h1,h2,simprocAttr]
   | true =>
    cases h3:cB B1 B0 with
    |false=>
     rw[h3]at aC
     refine⟨r,?_,hle (by simp[h1,h2,h3])⟩
     simp only[go_sem,uA,hX,h4,h5,h8,cG,oP,k1,k2,Bz,kk,km,dU,qF,n9,h1,h2,WU,aC,simprocAttr]
    |true=>
     rw[h3]at aC
     refine⟨_,?_,PA (by simp[h1,h2,h3])⟩
     simp only[go_sem,uA,hX,h4,h5,h8,cG,oP,k1,k2,Bz,kk,km,dU,qF,n9,h1,h2,WU,aC,zj,Gi,simprocAttr]
end
section
variable{s:ae} {w:W}
abbrev Gr (s:ae) (ρ:Nat→AV) (r:Rec):ae:=enterLoop (s.push r) (Gs ρ)
theorem akw {ρ:Nat→AV} {pl:List P} {op:Own} {ep:Nat} {req:Int} {kb:Nat} (hs:Ok s) (hw:Wk w) (hN:0<w.rs.l.length) (hp:gH pl) (dW:∀p∈pl,ch w p) (qH:pl=[]∨ep=3)
  (h4:ρ 4=.ptr s.ag.length 1 0) (h5:ρ 5=.ptr s.ag.length 2 0) (h8:ρ 8=.ptr s.ag.length 3 0) (cG:ρ 12=.ptr s.ag.length kb 0) (oP:ρ 13=.ptr s.ag.length (kb+1) 0):
  Hand AP s.loops.length (fun g=>bG 1 (g.map aD)) (Gr s ρ) (fun done r=>vJ w pl op ep req kb done r) (fun _ _=>false) (fun _ _ _=>False) (fun g=>g.length≤100) (s.ag.length+1) (s.loops.length+1) 100000:=by
 refine⟨fun r=>(hs.push _).enter,fun r=>by simp[Gr,enterLoop,ae.push],fun r=>by simp[Gr,enterLoop,ae.push],?_,fun _ _ _ _ _ _ _ _ h=>by cases h⟩
 intro done g r B ls hd hI hg _
 have hM:gG (fun r=>up (busy s.loops.length (enterLoop (s.push r) (Gs ρ))) B ls) s.ag.length:=YK hs
 have hX:∀r,busy s.loops.length (up (Gr s ρ r) B ls)=(fun r=>up (busy s.loops.length (enterLoop (s.push r) (Gs ρ))) B ls) r:=fun r=>aa1 (by simp[enterLoop,ae.push])
 exact aky (T:=fun r=>up (Gr s ρ r) B ls) hM hX (fun r=>aa3 (Vk (hs.push r))) (fun r=>((hs.push _).enter).up) hw hN hp dW qH hg h4 h5 h8 cG oP hI
theorem akx {F:cV→St→Option (AV×ae)} {ks:List K} {ρ:Nat→AV} {pl:List P} {op:Own} {ep:Nat} {req:Int} {kb c:Nat} {r:Rec} (hs:Ok s) (hw:Wk w) (hN:0<w.rs.l.length) (hp:gH pl) (dW:∀p∈pl,ch w p) (qH:pl=[]∨ep=3) (gj:c≤100)
  (h4:ρ 4=.ptr s.ag.length 1 0) (h5:ρ 5=.ptr s.ag.length 2 0) (h8:ρ 8=.ptr s.ag.length 3 0) (cG:ρ 12=.ptr s.ag.length kb 0) (oP:ρ 13=.ptr s.ag.length (kb+1) 0)
  (h55:ρ 55=.fn 58 [] [.bq [I c] 0,.bq [(eD 1 (eI w.rs.l.length)).v aD] 0]) (hI:vJ w pl op ep req kb [] r):
  ∃r',vJ w pl op ep req kb (bf c (eI w.rs.l.length)) r'∧go AP F (.c (.rangeFunc (.tmp 55) [56] Db uA)::ks) ⟨ρ,s.push r⟩=go AP F ks ⟨ρ,s.push r'⟩:=by
 have et:=hw.v.rl
 have xe:(eI w.rs.l.length)=[]∨(eD 1 (eI w.rs.l.length)).e=1:=by
  cases eI w.rs.l.length with
  |nil=>exact .inl rfl
  |cons _ _=>exact .inr rfl
 have nw:=yJ (k:=c) (l:=eI w.rs.l.length)
 have avf:(bf c (eI w.rs.l.length)).length≤2^12:=by
  refine kQ nw ?_
  rw[Ra]
  exact ji (by decide) (by omega)
 obtain⟨b,r',aT,hE⟩:=Wm (akw hs hw hN hp dW qH h4 h5 h8 cG oP) (cnt:=c) (by omega) (l:=eI w.rs.l.length) (o:=(eD 1 (eI w.rs.l.length)).o) (e:=(eD 1 (eI w.rs.l.length)).e) (i:=r) (done:=[]) xe (by rw[Ra];omega) (by simp;omega) hI (fun g hg=>by
  have hl:=tz hg
  omega)
 obtain⟨rfl,A6⟩:=hE.never (fun _ _=>rfl)
 have hv:(eD 1 (eI w.rs.l.length)).v aD=.slice (eD 1 (eI w.rs.l.length)).o (eD 1 (eI w.rs.l.length)).e ((eI w.rs.l.length).map aD):=by simp only[Sl.v,kT]
 refine⟨r',A6,?_⟩
 rw[N4 (x:=.tmp 55) h55,hv]
 refine(hY (Option.bind · _) aT).trans ?_
 simp only[eL]
 exact N3 (m:=s.push r') (lp:=Gs ρ) rfl rfl rfl
def vl (w:W) (pl:List P) (req:Int):Int:=if jc w=0 then(if(dQ w pl).2=0 then cond (wi req 0 (w.rs.l.length-1)) 0 6 else(dQ w pl).2)else jc w
def Kn (w:W) (pl:List P) (req:Int):Option (List P):=pk w pl req 0 (w.rs.l.length+1)
def Ko (w:W) (pl:List P) (req:Int):AV:=.tuple [bG 3 ((if vl w pl req=0 then(Kn w pl req).getD []else[]).map aj),I (if vl w pl req=0 then(if(Kn w pl req).isSome=true then 0 else 12)else vl w pl req)]
theorem ar2 {pl:List P} {op:Own} {ep:Nat} {req:Int} (hs:Ok s) (hw:w.Ok) (hf:w.ko) (hp:gH pl) (qH:pl=[]∨ep=3):aw AP (.fn 10) [w.v,.slice op ep (pl.map aj),I req] s=some (Ko w pl req,s):=by
 have ho:∀r,aw AP (.fn 27) [w.v] (s.push r)=some (.tuple [if(dp w).2.2=0 then OW w else NP,I (jc w)],s.push r):=fun r=>aad (hs.push r) hw hf
 simp only[W.v,c8,Sl.v]at ho
 have n8:∀(m:ae) (a b:Int),aw AP (.fn 29) [.slice .full 1 [[I a],[I b]]] m=some (I (if a=0 then b else a),m):=fun m a b=>by rw[mT,agp]
 unfold Ko
 by_cases h0:jc w=0
 ·have jS := Rq h0
  have cz:Wk w:=⟨hw,hf,rn jS⟩
  have et:=cz.v.rl
  rw[ak jS,h0]at ho
  have FD:∀r,aw AP (.fn 28) [OW w,.slice op ep (pl.map aj)] (s.push r)=some (.tuple [I (dQ w pl).1,I (dQ w pl).2],s.push r):=fun r=>Rz (hs.push r) cz hp qH
  have fu:∀r,aw AP (.fn 30) [OW w,I req] (s.push r)=some (I (cond (wi req 0 (w.rs.l.length-1)) 0 6),s.push r):=fun r=>aa8 cz
  have hE:vl w pl req=if(dQ w pl).2=0 then cond (wi req 0 (w.rs.l.length-1)) 0 6 else(dQ w pl).2:=by unfold vl;rw[ak h0]
  generalize he:(if(dQ w pl).2=0 then cond (wi req 0 (w.rs.l.length-1)) 0 6 else(dQ w pl).2)=e at*
  have WY:∀m:ae,aw AP (.fn 29) [.slice .full 1 [[I (dQ w pl).2],[I (cond (wi req 0 (w.rs.l.length-1)) 0 6)]]] m=some (I e,m):=fun m=>by rw[n8,he]
  rw[hE]
  by_cases hz:e=0
  ·subst hz
   have WS:(dQ w pl).2=0:=by
    apply qi
    intro h
    rw[aq h]at he;exact h he
   rw[ak WS]at he
   have qN:wi req 0 (w.rs.l.length-1)=true:=by
    cases hq:wi req 0 (w.rs.l.length-1)with
    |true=>rfl
    |false=>rw[hq]at he;exact absurd he (by decide)
   have Xx:=iK.1 qN
   have hN:0<w.rs.l.length:=by omega
   have bH:=Nw cz hp WS
   have dW:∀p∈pl,ch w p:=fun p pZ=>by
    obtain⟨j,hj⟩:=mZ pZ
    exact(BO cz (hp.ok p pZ).1 (by have:=(hp.ok p pZ).2;omega) (bH j p hj)).1
   have Xg:∀r,aw AP (.fn 31) [I ((2^w.rs.l.length-1:Nat):Int)] (s.push r)=some ((eD 1 (eI w.rs.l.length)).v aD,s.push r):=fun r=>by
    rw[Re (by have:(2:Nat)^w.rs.l.length≤2^12:=ji (by decide) et;omega) (hs.push r),aoG (by omega),uw]
   have kf:=CD (k:=w.rs.l.length) (by omega)
   have jR:IntKind.i64.wrap (((2^w.rs.l.length:Nat):Int)-1)=((2^w.rs.l.length-1:Nat):Int):=by
    have h1:(2:Nat)^w.rs.l.length≤2^12:=ji (by decide) et
    have h2:1≤(2:Nat)^w.rs.l.length:=Ss
    generalize(2:Nat)^w.rs.l.length=q at*
    rw[bW (by omega) (by omega)];omega
   have hl:(eD 1 (eI w.rs.l.length)).l.length=w.rs.l.length:=by rw[kT,Ra]
   have outer:∀(d c:Nat) ρ bx tk,c+d=w.rs.l.length+1→(ρ 4=.ptr s.ag.length 1 0∧ρ 5=.ptr s.ag.length 2 0∧ρ 8=.ptr s.ag.length 3 0∧ρ 10=(eD 1 (eI w.rs.l.length)).v aD∧ρ 11=I c∧bx[1]? =some [.slice op ep (pl.map aj)]∧bx[2]? =some [I req]∧bx[3]? =some [OW w])→
     go AP NO (.c (.loop Dc)::am7) ⟨ρ,s.push ⟨bx,tk⟩⟩=some (.tuple [bG 3 (((pk w pl req c d).getD []).map aj),I (if(pk w pl req c d).isSome=true then 0 else 12)],s):=by
    intro d
    induction d with
    |zero=>
     rintro c ρ bx tk hc ⟨g4,g5,g8,g10,g11,e1,e2,e3⟩
     have d1:decide ((c:Int)≤(w.rs.l.length:Int))=false:=by simp;omega
     rw[go_loop]
     simp only[Sl.v]at g10
     simp(maxSteps:=1000000) only[go_sem,Dc,Is,g4,g5,g8,g10,g11,hs,hl,d1,Nat.reduceEqDiff,reduceCtorEq,Nat.reduceAdd,Nat.reduceMul,Nat.reduceSub,Int.reduceLT,Int.reduceLE,Int.reduceEq,Int.reduceAdd,Int.reduceSub,Int.reduceNeg,Int.reduceToNat,aP,↓reduceIte]
     rfl
    | succ d ih =>
     rintro c ρ bx tk hc ⟨g4,g5,g8,g10,g11,e1,e2,e3⟩
     have d1:decide ((c:Int)≤(w.rs.l.length:Int))=true:=by simp;omega
     have w1:IntKind.i64.wrap ((c:Int)+1)=((c+1:Nat):Int):=by rw[bW (by omega) (by omega)];omega
     have Ka:∀r,aw AP (.fn 32) [(eD 1 (eI w.rs.l.length)).v aD,I (c:Int)] (s.push r)=some (.fn 58 [] [.bq [I c] 0,.bq [(eD 1 (eI w.rs.l.length)).v aD] 0],s.push r):=fun r=>Z7 (Sl.close (n:=1) x4) (hs.push r)
     have OR:=(bd.1 e3).1
     have Oi:vJ w pl op ep req bx.length [] ⟨bx++[[.slice .aA 0 []],[I (-1)]],tk⟩:=
      ⟨uE e1,uE e2,uE e3,by simp;rfl,by simp,by omega,⟨by simp,fun p h=>absurd h (by simp),fun p h=>absurd h (by simp)⟩⟩
     have gW:∀ρ':Nat→AV,ρ' 4=.ptr s.ag.length 1 0→ρ' 5=.ptr s.ag.length 2 0→ρ' 8=.ptr s.ag.length 3 0→ρ' 10=(eD 1 (eI w.rs.l.length)).v aD→ρ' 11=I c→ρ' 12=.ptr s.ag.length bx.length 0→ρ' 13=.ptr s.ag.length (bx.length+1) 0→ρ' 55=.fn 58 [] [.bq [I c] 0,.bq [(eD 1 (eI w.rs.l.length)).v aD] 0]→
       go AP NO (.c (.rangeFunc (.tmp 55) [56] Db uA)::X6) ⟨ρ',s.push ⟨bx++[[.slice .aA 0 []],[I (-1)]],tk⟩⟩=some (.tuple [bG 3 (((pk w pl req c (d+1)).getD []).map aj),I (if(pk w pl req c (d+1)).isSome=true then 0 else 12)],s):=by
      intro ρ' g4 g5 g8 g10 g11 g12 g13 g55
      obtain⟨⟨Ul,tk'⟩,A6,pX⟩:=akx (F:=NO) (ks:=X6) hs cz hN hp dW qH (show c≤100 by omega) g4 g5 g8 g12 g13 g55 Oi
      rw[pX]
      obtain⟨i1,i2,i3,ik,im,_,_⟩:=A6
      simp only at i1 i2 i3 ik im
      have hF:(bf c (eI w.rs.l.length)).foldl (pj w pl req) ([],-1)=sA w pl req c:=rfl
      rw[hF]at ik im
      by_cases hm:0≤(sA w pl req c).2
      ·have OG:decide ((0:Int)≤(sA w pl req c).2)=true:=by simpa using hm
       have hW:pk w pl req c (d+1)=some (sA w pl req c).1:=by simp only[pk,ak hm]
       rw[hW]
       simp only[kR,xW]
       have dc:=fun m:ae=>Yu (es:=3) (xs:=(sA w pl req c).1.map aj) (m:=m)
       have Xf:=fun m:ae=>Ys (es:=3) (xs:=(sA w pl req c).1.map aj) (m:=m)
       obtain⟨z,hz⟩:∃z,bG 3 ((sA w pl req c).1.map aj)=z:=⟨_,rfl⟩
       simp only[hz]at dc Xf ik⊢
       simp(maxSteps:=1000000) only[go_sem,It,g12,g13,ik,im,OG,dc,Xf,Nat.reduceEqDiff,reduceCtorEq,Nat.reduceAdd,Nat.reduceMul,Nat.reduceSub,Int.reduceLT,Int.reduceLE,Int.reduceEq,Int.reduceAdd,Int.reduceSub,Int.reduceNeg,Int.reduceToNat,aP,↓reduceIte]
      ·have OG:decide ((0:Int)≤(sA w pl req c).2)=false:=by simpa using hm
       have hW:pk w pl req c (d+1)=pk w pl req (c+1) d:=by simp only[pk,aq hm]
       rw[hW]
       simp(maxSteps:=1000000) only[go_sem,It,MI,g11,g12,g13,ik,im,OG,w1,Nat.reduceEqDiff,reduceCtorEq,Nat.reduceAdd,Nat.reduceMul,Nat.reduceSub,Int.reduceLT,Int.reduceLE,Int.reduceEq,Int.reduceAdd,Int.reduceSub,Int.reduceNeg,Int.reduceToNat,aP,↓reduceIte]
       refine ih (c+1) _ _ _ (by omega) ?_
       exact⟨g4,g5,g8,g10,rfl,i1,i2,i3⟩
     rw[go_loop]
     simp only[Sl.v]at g10 Ka gW
     simp(maxSteps:=1000000) only[go_sem,Dc,g4,g5,g8,g10,g11,hs,hl,d1,Ka,at_len,rE,qW,BD,mU,rj,gX,Nat.reduceEqDiff,reduceCtorEq,Nat.reduceAdd,Nat.reduceMul,Nat.reduceSub,Int.reduceLT,Int.reduceLE,Int.reduceEq,Int.reduceAdd,Int.reduceSub,Int.reduceNeg,Int.reduceToNat,aP,↓reduceIte]
     exact gW _ g4 g5 g8 g10 g11 rfl rfl rfl
   have d0:decide (¬(0:Int)=0)=false:=by decide
   have Xm:=outer (w.rs.l.length+1) 0
   simp only[bB]
   rw[aL (show AP 10=some yq from rfl) rfl]
   simp only[OW,W.v,c8,Sl.v]at ho FD fu Xg Xm⊢
   simp(maxSteps:=1000000) only[go_sem,Da,hs,ho,FD,fu,WY,aY,eB,d0,kf,jR,Xg,Nat.reduceEqDiff,reduceCtorEq,Nat.reduceAdd,Nat.reduceMul,Nat.reduceSub,Int.reduceLT,Int.reduceLE,Int.reduceEq,Int.reduceAdd,Int.reduceSub,Int.reduceNeg,Int.reduceToNat,aP,↓reduceIte]
   refine Xm _ _ _ (by omega) ?_
   exact⟨rfl,rfl,rfl,rfl,rfl,rfl,rfl,rfl⟩
  ·have hd:decide (¬e=0)=true:=by simp[hz]
   simp only[hz,cE]
   rw[aL (show AP 10=some yq from rfl) rfl]
   simp only[OW,W.v,c8,Sl.v]at ho FD fu⊢
   simp(maxSteps:=1000000) only[go_sem,Da,hs,ho,FD,fu,WY,aY,eB,hd,Nat.reduceEqDiff,reduceCtorEq,Nat.reduceAdd,Nat.reduceMul,Nat.reduceSub,Int.reduceLT,Int.reduceLE,Int.reduceEq,Int.reduceAdd,Int.reduceSub,Int.reduceNeg,Int.reduceToNat,aP,↓reduceIte]
   rfl
 ·have hE:vl w pl req=jc w:=by unfold vl;rw[aq h0]
  rw[hE]
  simp only[h0,cE]
  rw[aL (show AP 10=some yq from rfl) rfl]
  simp only[W.v,c8,Sl.v]
  by_cases jS:(dp w).2.2=0
  ·rw[ak jS]at ho
   simp only[OW,W.v,c8,Sl.v]at ho
   simp(maxSteps:=1000000) only[go_sem,Da,hs,ho,aY,h0,ij,Nat.reduceEqDiff,reduceCtorEq,Nat.reduceAdd,Nat.reduceMul,Nat.reduceSub,Int.reduceLT,Int.reduceLE,Int.reduceEq,Int.reduceAdd,Int.reduceSub,Int.reduceNeg,Int.reduceToNat,aP,↓reduceIte]
   rfl
  ·rw[aq jS]at ho
   simp(maxSteps:=1000000) only[go_sem,Da,hs,ho,aY,h0,ij,Nat.reduceEqDiff,reduceCtorEq,Nat.reduceAdd,Nat.reduceMul,Nat.reduceSub,Int.reduceLT,Int.reduceLE,Int.reduceEq,Int.reduceAdd,Int.reduceSub,Int.reduceNeg,Int.reduceToNat,aP,↓reduceIte]
   rfl
end
section
variable{s:ae} {w:W}
theorem Ends.find {α ι:Type} {I:List α→ι→Prop} {st:α→Bool} {O:List α→α→ι→Prop} {i:ι}:∀{xs done:List α},Ends I (fun _ x=>st x) O done xs false i→∃x dn,xs.find? st=some x∧O dn x i
 |[],_,h=>absurd h.1 (by decide)
 | x :: r, done, h => by
  simp only[Ends]at h
  cases hs:st x with
  |true=>rw[ak hs]at h;exact⟨x,done,by rw[Lm,hs],h.2⟩
  |false=>
   rw[aq (by rw[hs];decide)]at h
   rw[Lm,hs]
   exact Ends.find h
end
section
variable{s:ae} {w:W}
end
section
variable{s:ae} {w:W}
theorem Z4 {n:Nat}:∀i:Nat,i<n→(i:Int)∈eI n:=fun i hi=>cC.2 ⟨i,nQ.2 hi,rfl⟩
theorem anP {l:List P}:ig l=-1∨∃p∈l,ig l=p.req:=by
 unfold ig
 cases h:l.getLast? with
 |none=>exact .inl rfl
 |some p=>exact .inr ⟨p,R9 h,rfl⟩
theorem VP.UH (hw:Wk w) {R:List P} (h:VP w R):dQ w R=(0,0)∧gH R:=by
 have hz:zs w [] R:=abn fun j x hj=>by
  rw[kO]
  obtain⟨a,b,gK⟩:∃a b,R=a++x::b∧a=R.take j:=⟨R.take j,R.drop (j+1),by rw[←eQ hj,Hx],rfl⟩
  rw[←gK.2]
  have hR:=gK.1
  have fI:x∈R:=bQ hj
  obtain⟨h0,h1,hx⟩:=h.mem x fI
  have pU:=h.kW
  have JX:=h.nc
  rw[hR,jX]at pU JX
  refine aqp hw h0 h1 hx ?_ ?_
  ·rcases anP (l:=a)with e|⟨p,hp,e⟩
   ·rw[e];omega
   ·rw[e];exact pU.2.2 p hp x (by simp)
  ·exact AI.2 fun p hp=>JX.2.2 p hp x (by simp)
 refine⟨ad8 hz,by have:=atY hw hz;omega,fun p hp=>?_⟩
 obtain⟨h0,h1,hx⟩:=h.mem p hp
 obtain⟨dW,_,_,_,_,_,jR,_⟩:=nG hw h0 h1 hx
 have hq:=hw.rM.an _ (W.qh h0 h1)
 have:=jR.length_le
 exact⟨dW.ok,by omega⟩
theorem Jv:∀{l g:List Int},g.Sublist l→g∈bf g.length l
 |_,_,.slnil=>by simp[bf]
 |_,_,.cons (l₁:=g) (l₂:=l) a h=>by
  have ih:=Jv h
  cases g with
  |nil=>simp[bf]
  |cons b g=>simp only[dP,bf,dD];exact .inr ih
 |_,_,.cons_cons (l₁:=g) (l₂:=l) a h=>by
  have ih:=Jv h
  simp only[dP,bf,dD,cC]
  exact .inl ⟨g,ih,rfl⟩
end
def dr (a b:List P) (n:Nat):Nat:=((List.range n).filter fun i:Nat=>ew a b (i:Int)).length
theorem UD {a b:List P} {n:Nat}:dr a b (n+1)=dr a b n+if ew a b (n:Int)=true then 1 else 0:=by
 unfold dr
 rw[Cl,oB,cj]
 congr 1
 cases h:ew a b (n:Int)<;>simp[h]
theorem Nt {a b:List P} {n:Nat}:dr a b n≤n:=by
 unfold dr
 have:=nO (fun i:Nat=>ew a b (i:Int)) (List.range n)
 rwa [pF]at this
def IT (w:W) (l:List P) (x b:List P):Bool:=
 decide (dr l x w.rs.l.length<dr l b w.rs.l.length)||(decide (dr l x w.rs.l.length=dr l b w.rs.l.length)&&(decide (bN w b<bN w x)||(decide (bN w x=bN w b)&&cB x b)))
section
variable{s:ae} {w:W}
theorem ZH {a b:List P} {o1 o2:Own} {e1 e2:Nat} (hs:Ok s) (et:w.rs.l.length≤1000) (h1:a=[]∨e1=3) (h2:b=[]∨e2=3) (la:a.length≤1000) (lb:b.length≤1000) (oa:∀p∈a,p.an.ok 1∧p.an.l.length≤1000) (ob:∀p∈b,p.an.ok 1∧p.an.l.length≤1000):
  aw AP (.fn 15) [w.v,.slice o1 e1 (a.map aj),.slice o2 e2 (b.map aj)] s=some (I (dr a b w.rs.l.length),s):=by
 have key:∀(j:Nat) ρ m,j≤w.rs.l.length→(ρ 1=.slice o1 e1 (a.map aj)∧ρ 2=.slice o2 e2 (b.map aj)∧ρ 3=.ptr s.ag.length 0 0∧ρ 7=I (dr a b j)∧ρ 8=I j∧m=s.push ⟨[c8 w],[]⟩)→
   go AP afq (.c (.loop CP)::amF) ⟨ρ,m⟩=some (I (dr a b w.rs.l.length),s):=by
  refine ck w.rs.l.length _ _ ?_ ?_
  ·rintro j ρ m hj ⟨g1,g2,g3,g7,g8,rfl⟩ ih
   have hc:∀r,aw AP (.fn 40) [.slice o1 e1 (a.map aj),.slice o2 e2 (b.map aj),I j] (s.push r)=some (B (ew a b (j:Int)),s.push r):=fun r=>arl (hs.push r) h1 h2 la lb oa ob
   have cz:=bK hj (show(w.rs.l.length:Int)<_ by omega)
   have hle:=Nt (a:=a) (b:=b) (n:=j)
   have hw7:IntKind.i64.wrap ((dr a b j:Int)+1)=((dr a b j+1:Nat):Int):=by rw[bW (by omega) (by omega)];omega
   have Kb:=UD (a:=a) (b:=b) (n:=j)
   simp only[c8,Sl.v]
   cases hg:ew a b (j:Int)with
   |true=>
    rw[hg]at hc Kb
    simp only[go_sem,CP,g1,g2,g3,g7,g8,aS hj,hc,cz,hw7,simprocAttr]
    refine ih _ _ ?_
    exact⟨g1,g2,g3,by rw[Kb];rfl,rfl,rfl⟩
   |false=>
    rw[hg]at hc Kb
    simp only[go_sem,CP,g1,g2,g3,g8,aS hj,hc,cz,simprocAttr]
    refine ih _ _ ?_
    exact⟨g1,g2,g3,by rw[Kb];exact g7,rfl,rfl⟩
  ·rintro ρ m ⟨g1,g2,g3,g7,g8,rfl⟩
   simp only[c8,Sl.v]
   simp only[go_sem,CP,Mf,g3,g7,g8,bM,simprocAttr]
 rw[aL (show AP 15=some DR from rfl) rfl]
 simp only[W.v,c8,Sl.v]at key⊢
 simp only[go_sem,Tj,simprocAttr]
 refine key 0 _ _ (bg _) ?_
 exact⟨rfl,rfl,rfl,rfl,rfl,rfl⟩
end
theorem Un {p:P} (h:p.an=fi p.an.l):cP p=p:=by unfold cP;rw[←h]
theorem aoC {l:List P} (h:∀p∈l,cP p=p):l.map cP=l:=by
 rw[zP h,List.map_id']
section
variable{w:W}
theorem Rr:∀{L g:List Int},L.Pairwise (· <·)→g.Pairwise (· <·)→(∀a∈g,a∈L)→g.Sublist L
 |[],[],_,_,_=>List.Sublist.refl _
 |[],a::g,_,_,h=>absurd (h a (by simp)) (by simp)
 |x::L,[],_,_,_=>List.nil_sublist _
 | x :: L, a :: g, hL, hg, h => by
  obtain⟨l1,l2⟩:=uu.1 hL
  obtain⟨g1,g2⟩:=uu.1 hg
  by_cases Bd:a=x
  ·subst Bd
   refine List.Sublist.cons_cons _ (Rr l2 g2 fun b hb=>?_)
   rcases eC.1 (h b (jg _ hb))with e|hm
   ·have:=g1 b hb;omega
   ·exact hm
  ·refine List.Sublist.cons _ (Rr l2 hg fun b hb=>?_)
   rcases eC.1 (h b hb)with e|hm
   ·rcases eC.1 (h a (by simp))with e2|gU
    ·exact absurd e2 Bd
    ·have h1:=l1 a gU
     rcases eC.1 hb with e3|hb
     ·omega
     ·have:=g1 b hb;omega
   ·exact hm
theorem SJ {r:R}:∀{l:List Int} {last:Int},eO r last l=0→l.Pairwise (· <·)∧∀a∈l,last<a
 |[],_,_=>by simp
 | a :: l, last, h => by
  have h0:=(HN (w:=⟨0,⟨.aA,0,[]⟩,⟨.aA,0,[]⟩⟩) (st:=0) (len:=0) h).2
  have h2:eO r a l=0:=by
   simp only[eO]at h
   split at h
   ·split at h
    ·exact h
    ·exact absurd h (by decide)
   ·exact absurd h (by decide)
  obtain⟨i1,i2⟩:=SJ h2
  exact⟨uu.2 ⟨i2,i1⟩,h0⟩
theorem ZC {i:Int} {p:P}:∀{n:Nat} {st t:Int},st≤t→t<st+n→p∈l9 w i t→p∈jK w i st n
 |0,st,t,h1,h2,_=>by omega
 |n+1,st,t,h1,h2,hp=>by
  simp only[jK,dD]
  by_cases e:t=st
  ·subst e;exact .inl hp
  ·exact .inr (ZC (by omega) (by omega) hp)
theorem aqI (hw:Wk w) {p:P} {l:List P} (dI:p.an.ok 1) (cD:(p.an.l.length:Int)<1000000) (h:dO w p l=0):cP p∈dT w p.req:=by
 obtain⟨F7,_,_,ez,ib,hn,Ba,cd⟩:=BO hw dI cD h
 have hq:=hw.rq F7.r0 F7.r1
 unfold dT
 refine ZC (t:=p.start) ez (by omega) ?_
 unfold l9
 refine cC.2 ⟨p.an.l,?_,rfl⟩
 rw[show(w.rq p.req).need.toNat=p.an.l.length by omega]
 refine Jv (Rr (hq.CB.sublist Ll) (SJ Ba).1 fun a ha=>?_)
 refine eT.2 ⟨?_,?_⟩
 ·have:=(HN (w:=w) (st:=0) (len:=0) Ba).1 a ha
  obtain⟨b,hb,e⟩:=fL.1 this
  rw[dZ]at e
  rw[e];exact hb
 ·have:=zM.1 cd a ha
  simpa using this
theorem VP.YZ (hw:Wk w) {l:List P} (hl:gH l) (h:(dQ w l).2=0):VP w (l.map cP):=by
 have bH:=Nw hw hl h
 have hf:∀(j:Nat) x,l[j]? =some x→_:=fun j x hj=>BO hw (hl.ok x (bQ hj)).1 (by have:=(hl.ok x (bQ hj)).2;omega) (bH j x hj)
 have key:∀n,n≤l.length→(l.take n).Pairwise (fun a b=>a.req<b.req∧dE w a b=false)∧∀p∈l.take n,p.req≤ig (l.take n):=by
  intro n
  induction n with
  |zero=>intro _;simp
  | succ n ih =>
   intro hn
   obtain⟨x,hx⟩:=get_some (l:=l) (k:=n) (by omega)
   obtain⟨i1,i2⟩:=ih (by omega)
   obtain⟨_,f1,f2,_⟩:=hf n x hx
   rw[Yf hx,fU hx]
   refine⟨?_,fun p hp=>?_⟩
   ·rw[jX]
    refine⟨i1,by simp,fun a ha b hb=>?_⟩
    rw[eK]at hb;subst hb
    exact⟨by have:=i2 a ha;omega,AI.1 f2 a ha⟩
   ·rcases dD.1 hp with hp|hp
    ·have:=i2 p hp;omega
    ·rw[eK]at hp;rw[hp];exact zL _
 obtain⟨k1,_⟩:=key l.length (aH _)
 rw[jh]at k1
 refine⟨fun p hp=>?_,?_,?_⟩
 ·obtain⟨q,hq,rfl⟩:=cC.1 hp
  obtain⟨j,hj⟩:=mZ hq
  have F7:=(hf j q hj).1
  exact⟨F7.r0,F7.r1,aqI (p:=q) hw (hl.ok q hq).1 (by have:=(hl.ok q hq).2;omega) (bH j q hj)⟩
 ·rw[rz];exact k1.imp fun h=>h.1
 ·rw[rz];exact k1.imp fun h=>h.2
theorem VP.Uo (hw:Wk w) {l:List P} (h:VP w l):l.map cP=l:=aoC fun p hp=>by
 obtain⟨h0,h1,h2⟩:=h.mem p hp
 exact Un (nG hw h0 h1 h2).2.2.2.2.2.1
end
section
variable{w:W}
theorem Up {p q:P} (h:kP p=kP q):cP p=cP q:=by
 unfold kP at h
 injection h with h1 h2
 injection h2 with h2 h3
 unfold cP
 rw[h3]
 cases p;cases q
 simp only at h1 h2⊢
 rw[h1,h2]
theorem VP.can (hw:Wk w) {R:List P} (h:VP w R):∀p∈R,cP p=p:=fun p hp=>by
 obtain⟨h0,h1,h2⟩:=h.mem p hp
 exact Un (nG hw h0 h1 h2).2.2.2.2.2.1
theorem acG {R:List P} (h:R.Pairwise fun a b=>a.req<b.req) {p q:P} (hp:p∈R) (hq:q∈R) (he:p.req=q.req):p=q:=by
 obtain⟨i,hi⟩:=mZ hp
 obtain⟨j,hj⟩:=mZ hq
 obtain⟨sg,wX⟩:=bd.1 hi
 obtain⟨gS,wY⟩:=bd.1 hj
 have lV:=Cj.1 h
 rcases LA i j with er|er|er
 ·have:=lV i j sg gS er
  rw[wX,wY]at this;omega
 ·subst er
  rw[hi]at hj;injection hj
 ·have:=lV j i gS sg er
  rw[wX,wY]at this;omega
theorem VP.aM (hw:Wk w) {R:List P} (h:VP w R) {p:P} (hp:p∈R):aM R p.req=some p:=by
 obtain⟨q,hq⟩:=KK (l:=R) (i:=p.req) ⟨p,hp,rfl⟩
 obtain⟨q1,q2⟩:=ou hq
 rw[hq,acG h.kW q1 hp q2]
theorem aqg {R:List P} {i:Int} (h:∀p∈R,p.req≠i):Sc.aM R i=none:=by
 unfold Sc.aM
 rw[Hl]
 intro p hp he
 exact h p hp (by simpa using he)
theorem ad5 (hw:Wk w) {pl:List P} (cD:VP w pl) {g:List Int} {req:Int}:CA w (ek w pl g req):=by
 have bE:=(cD.UH hw).2
 refine⟨Az,fun i h0 h1 p hp=>?_,fun i h0 h1=>?_⟩
 ·rw[E7 h0 h1]at hp
  obtain⟨k,rfl⟩:=Int.eq_ofNat_of_zero_le h0
  have:=I3 hw bE (cD.iY hw) (i:=k) (by omega) hp
  exact⟨this.1,this.2.1⟩
 ·rw[E7 h0 h1]
  unfold hU
  split
  ·refine Cf _ ?_
   rw[KN]
   exact aqL hw h0 h1
  ·cases Sc.aM pl i<;>simp
theorem LK (hw:Wk w) {pl:List P} (cD:VP w pl) {g:List Int} {req:Int} (h0:0≤req) (h1:req<w.rs.l.length) {R:List P}:
  VF w (ek w pl g req) R↔VP w R∧(∀i:Nat,i<w.rs.l.length→ew pl R (i:Int)=vk g (i:Int))∧∃p∈R,p.req=req:=by
 constructor
 ·rintro⟨⟨m,a,n⟩,f⟩
  have hm:∀p∈R,0≤p.req∧p.req<w.rs.l.length∧p∈hU w pl g p.req:=fun p hp=>by
   obtain⟨q0,q1,q2⟩:=m p hp
   rw[E7 q0 q1]at q2
   exact⟨q0,q1,q2⟩
  have hR:VP w R:=by
   refine⟨fun p hp=>?_,a,n⟩
   obtain⟨q0,q1,q2⟩:=hm p hp
   refine⟨q0,q1,?_⟩
   unfold hU at q2
   split at q2
   ·have:=(eT.1 q2).1
    rwa [KN]at this
   ·rw[Option.mem_toList]at q2
    have hq:=(ou q2).1
    exact(cD.mem p hq).2.2
  have hf:∀i:Nat,i<w.rs.l.length→lN pl g req (i:Int)=false→∃p∈R,p.req=(i:Int):=fun i hi hc=>f i hi (by rw[UE hi];exact hc)
  refine⟨hR,fun i hi=>?_,?_⟩
  ·-- which are changed
   cases bH:vk g (i:Int)with
   | true =>
    unfold ew
    rw[xI,rK]
    intro he
    cases hp:Sc.aM pl (i:Int)with
    |none=>
     obtain⟨p,tG,sj⟩:=hf i hi (by unfold lN;rw[bH,ak rfl,hp];rfl)
     have:=hR.aM hw tG
     rw[sj]at this
     rw[hp,this]at he
     simp at he
    | some q =>
     rw[hp]at he
     cases hr:Sc.aM R (i:Int)with
     |none=>rw[hr]at he;simp at he
     |some p=>
      rw[hr]at he
      simp only[dK,fm]at he
      obtain⟨p1,p2⟩:=ou hr
      have:=(hm p p1).2.2
      unfold hU at this
      rw[p2,ak bH]at this
      have:=(eT.1 this).2
      unfold BW at this
      rw[hp]at this
      simp only[xW,kR,iu,xI,rK]at this
      exact this (AB.2 he.symm)
   | false =>
    unfold ew
    rw[Bool.not_eq_false',dZ]
    cases hp:Sc.aM pl (i:Int)with
    | none =>
     have:Sc.aM R (i:Int)=none:=aqg fun p tG sj=>by
      have:=(hm p tG).2.2
      unfold hU at this
      rw[sj,aq (by rw[bH];decide),hp]at this
      simp at this
     rw[this]
    |some q=>
     obtain⟨p,tG,sj⟩:=hf i hi (by unfold lN;rw[bH,aq (by decide),hp];rfl)
     have h2:=hR.aM hw tG
     rw[sj]at h2
     have:=(hm p tG).2.2
     unfold hU at this
     rw[sj,aq (by rw[bH];decide),hp]at this
     simp only[Option.toList_some,eK]at this
     rw[h2,this]
  ·obtain⟨p,hp,he⟩:=hf req.toNat (by omega) (by
    have e:((req.toNat:Nat):Int)=req:=by omega
    unfold lN
    rw[e,bP rfl]
    split<;>simp)
   exact⟨p,hp,by omega⟩
 ·rintro⟨hR,hc,p0,y9,jm⟩
  have dI:∀p∈R,Sc.aM R p.req=some p:=fun p hp=>hR.aM hw hp
  refine⟨⟨fun p hp=>?_,hR.kW,hR.nc⟩,fun i hi eW=>?_⟩
  ·obtain⟨q0,q1,q2⟩:=hR.mem p hp
   refine⟨q0,q1,?_⟩
   rw[E7 q0 q1]
   have lg:=hc p.req.toNat (by omega)
   rw[show((p.req.toNat:Nat):Int)=p.req by omega]at lg
   unfold ew at lg
   rw[dI p hp]at lg
   unfold hU
   cases bH:vk g p.req with
   | true =>
    rw[ak rfl]
    rw[bH,xI,rK]at lg
    refine eT.2 ⟨by rw[KN];exact q2,?_⟩
    unfold BW
    cases hq:Sc.aM pl p.req with
    |none=>rfl
    |some q=>
     rw[hq]at lg
     simp only[xW,kR,iu,xI,rK]
     intro e
     exact lg (by rw[dK,dK,AB.1 e])
   | false =>
    rw[aq (by decide)]
    rw[bH,Bool.not_eq_false',dZ]at lg
    cases hq:Sc.aM pl p.req with
    |none=>rw[hq]at lg;simp at lg
    |some q=>
     rw[hq]at lg
     simp only[dK,fm]at lg
     obtain⟨k1,k2⟩:=ou hq
     have:=Up lg
     rw[cD.can hw q k1,hR.can hw p hp]at this
     rw[this];simp
  ·rw [UE hi] at eW
   by_cases W6:(i:Int)=req
   ·exact⟨p0,y9,by omega⟩
   ·have lg:=hc i hi
    unfold lN at eW
    unfold ew at lg
    have hex:Sc.aM R (i:Int)≠none:=by
     intro hn
     rw[hn]at lg
     cases bH:vk g (i:Int)with
     | true =>
      rw[bH,ak rfl,bS W6,mY,sQ]at eW
      have:Sc.aM pl (i:Int)=none:=by
       cases hq:Sc.aM pl (i:Int)with
       |none=>rfl
       |some q=>rw[hq]at eW;simp at eW
      rw[bH,this]at lg
      simp at lg
     | false =>
      rw[bH,aq (by decide),bS W6,mY,sQ]at eW
      cases hq:Sc.aM pl (i:Int)with
      |none=>rw[hq]at eW;simp at eW
      |some q=>
       rw[bH,hq]at lg
       simp at lg
    obtain⟨p,hp⟩:=Option.ne_none_iff_exists'.1 hex
    obtain⟨k1,k2⟩:=ou hp
    exact⟨p,k1,k2⟩
end
theorem acW {y:List P}:∀{a b:List P},a.map kP=b.map kP→cB a y=cB b y:=by
 induction y with
 | nil =>
  intro a b h
  cases a with
  |nil=>cases b with
   |nil=>rfl
   |cons=>simp at h
  |cons=>cases b with
   |nil=>simp at h
   |cons=>rfl
 | cons z t ih =>
  intro a b h
  cases a with
  |nil=>cases b with
   |nil=>rfl
   |cons=>simp at h
  | cons x r => cases b with
   |nil=>simp at h
   |cons x' r'=>
    simp only[iN,vM]at h
    simp only[cB,h.1,ih h.2]
theorem Uf {a b c:List P} (h1:cB a b=false) (h2:cB b c=false):cB a c=false:=by
 cases h:cB a c with
 |false=>rfl
 |true=>
  cases hb:cB b a with
  |true=>rw[Dx hb h]at h2;exact absurd h2 (by decide)
  |false=>rw[acW (Nh h1 hb),h2]at h;exact absurd h (by decide)
section
variable{w:W}
def wR (R:List P) (req:Int):Prop:=∃p∈R,p.req=req
theorem Bb {R:List P} {req:Int}:(aM R req).isSome=true↔wR R req:=by
 constructor
 ·intro h
  obtain⟨p,hp⟩:=oD.1 h
  exact⟨p,(ou hp).1,(ou hp).2⟩
 ·intro h
  obtain⟨p,hp⟩:=KK h
  rw[hp];rfl
structure zV (w:W) (pl:List P) (req:Int) (Q:List P):Prop where
 vp:VP w Q
 has:wR Q req
 min:∀R,VP w R→wR R req→IT w pl R Q=false
theorem Nk {pl a b:List P}:IT w pl a b=false↔¬dr pl a w.rs.l.length<dr pl b w.rs.l.length∧(dr pl a w.rs.l.length=dr pl b w.rs.l.length→¬bN w b<bN w a∧(bN w a=bN w b→cB a b=false)):=by
 unfold IT
 rw[Le,rK]
 refine and_congr_right fun _=>?_
 constructor
 ·intro h he
  rw[bP he,iu,Le,rK]at h
  refine⟨h.1,fun hv=>?_⟩
  have:=h.2
  rw[bP hv,iu]at this
  exact this
 ·intro h
  by_cases he:dr pl a w.rs.l.length=dr pl b w.rs.l.length
  ·obtain⟨h1,h2⟩:=h he
   rw[bP he,iu,Le,rK]
   refine⟨h1,?_⟩
   by_cases hv:bN w a=bN w b
   ·rw[bP hv,h2 hv];rfl
   ·rw[bS hv];rfl
  ·rw[bS he];rfl
theorem LR (hw:Wk w) {X:List P}:X∈qf w (eI w.rs.l.length) 0 w.rs.l.length []↔VP w X:=by
 rw[KP hw (by omega) VP.nil (fun p hp=>absurd hp (by simp))]
 constructor
 ·exact fun h=>h.1
 ·intro h
  refine⟨h,X,rfl,fun p hp=>?_⟩
  obtain⟨h0,h1,_⟩:=h.mem p hp
  exact⟨by omega,cC.2 ⟨p.req.toNat,nQ.2 (by omega),by omega⟩⟩
theorem VF.nn (hw:Wk w) {all:List (Sl P×Bool)} {R:List P} (h:VF w all R):0≤bN w R:=by
 rw[←h.vc.val hw]
 exact(G5 hw fun i hi=>BI h.vc.re hi).1
theorem ac0 (hw:Wk w) {pl:List P} (cD:VP w pl) {g:List Int} {req:Int} (h0:0≤req) (h1:req<w.rs.l.length):
  ((∀R,¬VF w (ek w pl g req) R)∧hH w (ek w pl g req)=([],0,false))∨
  ∃Q,VF w (ek w pl g req) Q∧hH w (ek w pl g req)=(Q,bN w Q,true)∧∀R,VF w (ek w pl g req) R→bN w R≤bN w Q∧(bN w R=bN w Q→cB R Q=false):=by
 have hA:=ad5 hw cD (g:=g) (req:=req)
 by_cases hex:∃R,VF w (ek w pl g req) R
 ·right
  obtain⟨M,hM,hMv⟩:=aoF hw hA hex
  classical
  have iV:∀X,X∈(qf w (eI w.rs.l.length) 0 w.rs.l.length []).filter (fun R=>decide (VF w (ek w pl g req) R))↔VF w (ek w pl g req) X:=fun X=>by
   rw[eT,dZ,LR hw]
   exact⟨fun h=>h.2,fun h=>⟨((LK hw cD h0 h1).1 h).1,h⟩⟩
  cases hL:(qf w (eI w.rs.l.length) 0 w.rs.l.length []).filter (fun R=>decide (VF w (ek w pl g req) R))with
  |nil=>
   have:=(iV M).2 hM
   rw[hL]at this;exact absurd this (by simp)
  | cons b r =>
   rw[hL]at iV
   obtain⟨s1,s2,s3,s4,s5⟩:=Nj (w:=w) (l:=r) (b:=b)
   have hQ:VF w (ek w pl g req) (kX w b r):=(iV _).1 (by
    rcases s1 with h|h
    ·rw[h];simp
    ·exact jg _ h)
   have fp:∀R,VF w (ek w pl g req) R→bN w R≤bN w (kX w b r)∧(bN w R=bN w (kX w b r)→cB R (kX w b r)=false):=fun R hR=>by
    rcases eC.1 ((iV R).2 hR)with e|e
    ·rw[e];exact⟨s2,s4⟩
    ·exact⟨s3 R e,s5 R e⟩
   have hv:bN w (kX w b r)=pq w (ek w pl g req):=by
    have h1:=(fp M hM).1
    have h2:=hQ.le_max hw hA
    omega
   refine⟨kX w b r,hQ,?_,fp⟩
   rw[ac1 hw hA hQ hv fun R hR Fy=>(fp R hR).2 (by omega),hv]
 ·left
  have gV:∀R,¬VF w (ek w pl g req) R:=fun R h=>hex ⟨R,h⟩
  exact⟨gV,ac2 hw hA gV⟩
def Cd (w:W) (pl:List P) (req:Int) (done:List (List Int)) (st:List P×Int):Prop:=
 (st=([],-1)∧∀g∈done,∀R,¬VF w (ek w pl g req) R)∨
 ((∃g∈done,VF w (ek w pl g req) st.1)∧st.2=bN w st.1∧0≤st.2∧∀g∈done,∀R,VF w (ek w pl g req) R→bN w R≤bN w st.1∧(bN w R=bN w st.1→cB R st.1=false))
theorem aku (hw : Wk w) {pl : List P} (cD : VP w pl) {req : Int} (h0 : 0 ≤ req) (h1 : req < w.rs.l.length) {done : List (List Int)} {st : List P × Int} {g : List Int} (h : Cd w pl req done st) : Cd w pl req (done ++ [g]) (pj w pl req st g) := by
 unfold pj
 rcases ac0 hw cD (g:=g) h0 h1 with⟨gV,hb⟩|⟨Q,hQ,hb,fp⟩
 ·rw[hb]
  simp only[jM,ej,cE]
  rcases h with⟨h1,h2⟩|⟨⟨g0,uZ,hv⟩,h2,h3,h4⟩
  ·left
   refine⟨h1,fun g' bu=>?_⟩
   rcases dD.1 bu with bu|bu
   ·exact h2 g' bu
   ·rw[eK.1 bu];exact gV
  ·right
   refine⟨⟨g0,pG _ uZ,hv⟩,h2,h3,fun g' bu R hR=>?_⟩
   rcases dD.1 bu with bu|bu
   ·exact h4 g' bu R hR
   ·rw[eK.1 bu]at hR;exact absurd hR (gV R)
 ·rw [hb]
  have w9:=hQ.nn hw
  simp only[iu]
  rcases h with⟨e,h2⟩|⟨⟨g0,uZ,hv⟩,h2,h3,h4⟩
  ·rw[e,ak (by simp;left;omega)]
   right
   refine⟨⟨g,by simp,hQ⟩,rfl,w9,fun g' bu R hR=>?_⟩
   rcases dD.1 bu with bu|bu
   ·exact absurd hR (h2 g' bu R)
   ·rw[eK.1 bu]at hR;exact fp R hR
  ·by_cases hc:(decide (st.2<bN w Q)||(decide (bN w Q=st.2)&&cB Q st.1))=true
   ·rw [ak hc]
    right
    simp only[ug,dB,dZ]at hc
    refine⟨⟨g,by simp,hQ⟩,rfl,w9,fun g' bu R hR=>?_⟩
    rcases dD.1 bu with bu|bu
    ·obtain⟨k1,k2⟩:=h4 g' bu R hR
     rcases hc with hc|⟨hc,lR⟩
     ·exact⟨by show bN w R≤bN w Q;omega,fun hv=>by have:bN w R=bN w Q:=hv;omega⟩
     ·refine⟨by show bN w R≤bN w Q;omega,fun hv=>?_⟩
      have hv:bN w R=bN w Q:=hv
      show cB R Q=false
      have ah6:cB st.1 Q=false:=by
       cases hx:cB st.1 Q with
       |false=>rfl
       |true=>
        have:=Dx lR hx
        rw[Ng]at this;exact absurd this (by decide)
      exact Uf (k2 (by omega)) ah6
    ·rw[eK.1 bu]at hR;exact fp R hR
   ·rw[aq hc]
    right
    have oT:¬st.2<bN w Q∧(bN w Q=st.2→cB Q st.1=false):=by
     simp only[ug,dB,dZ,not_or,not_and]at hc
     exact⟨hc.1,fun e=>by simpa using hc.2 e⟩
    refine⟨⟨g0,pG _ uZ,hv⟩,h2,h3,fun g' bu R hR=>?_⟩
    rcases dD.1 bu with bu|bu
    ·exact h4 g' bu R hR
    ·rw[eK.1 bu]at hR
     obtain⟨k1,k2⟩:=fp R hR
     exact⟨by omega,fun hv=>Uf (k2 (by omega)) (oT.2 (by omega))⟩
theorem akt (hw:Wk w) {pl:List P} (cD:VP w pl) {req:Int} (h0:0≤req) (h1:req<w.rs.l.length) (c:Nat):Cd w pl req (bf c (eI w.rs.l.length)) (sA w pl req c):=by
 have key:∀(r done:List (List Int)) st,Cd w pl req done st→Cd w pl req (done++r) (r.foldl (pj w pl req) st):=by
  intro r
  induction r with
  |nil=>intro done st h;simpa using h
  |cons g r ih=>
   intro done st h
   have:=ih (done++[g]) _ (aku hw cD h0 h1 (g:=g) h)
   rw[gX,List.singleton_append]at this
   exact this
 have:=key (bf c (eI w.rs.l.length)) [] ([],-1) (.inl ⟨rfl,fun g hg=>absurd hg (by simp)⟩)
 rw[kO]at this
 exact this
end
section
variable{w:W}
theorem UC {pl R:List P} {n:Nat}:((eI n).filter fun i=>ew pl R i).length=dr pl R n:=by
 unfold dr eI
 rw[List.filter_map,bY];rfl
theorem UG (hw:Wk w) {pl:List P} (cD:VP w pl) {req:Int} (h0:0≤req) (h1:req<w.rs.l.length) {R:List P} (hR:VP w R) (hr:wR R req):∃g∈bf (dr pl R w.rs.l.length) (eI w.rs.l.length),VF w (ek w pl g req) R:=by
 refine⟨(eI w.rs.l.length).filter fun i=>ew pl R i,?_,?_⟩
 ·rw[←UC]
  exact Jv Ll
 ·rw[LK hw cD h0 h1]
  refine⟨hR,fun i hi=>?_,hr⟩
  unfold vk
  rw[vI,fL]
  constructor
  ·intro h
   exact⟨(i:Int),eT.2 ⟨Z4 i hi,h⟩,by simp⟩
  ·rintro⟨a,ha,e⟩
   rw[dZ]at e
   rw[e];exact(eT.1 ha).2
theorem abL (hw:Wk w) {pl:List P} (cD:VP w pl) {req:Int} (h0:0≤req) (h1:req<w.rs.l.length) {c:Nat} {g:List Int} (hg:g∈bf c (eI w.rs.l.length)) {R:List P} (h:VF w (ek w pl g req) R):VP w R∧wR R req∧dr pl R w.rs.l.length=c:=by
 obtain⟨hR,hc,hr⟩:=(LK hw cD h0 h1).1 h
 refine⟨hR,hr,?_⟩
 obtain⟨ga,gi⟩:=ahm hg
 rw[←UC,←tz hg]
 congr 1
 refine z6 (Cf _ Q8) ga fun x=>?_
 rw[eT]
 constructor
 ·rintro⟨hx,mH⟩
  obtain⟨x0,x1⟩:=Q9 x hx
  have:=hc x.toNat (by omega)
  rw[show((x.toNat:Nat):Int)=x by omega,mH]at this
  obtain⟨a,ha,e⟩:=fL.1 this.symm
  rw[dZ]at e
  rw[e];exact ha
 ·intro hx
  obtain⟨x0,x1⟩:=gi x hx
  have:=hc x.toNat (by omega)
  rw[show((x.toNat:Nat):Int)=x by omega]at this
  refine⟨by have:=Z4 (n:=w.rs.l.length) x.toNat (by omega);rwa [show((x.toNat:Nat):Int)=x by omega]at this,?_⟩
  rw[this]
  exact fL.2 ⟨x,hx,by simp⟩
theorem X0 (hw:Wk w) {pl:List P} (cD:VP w pl) {req:Int} (h0:0≤req) (h1:req<w.rs.l.length):∀(d c:Nat),c+d=w.rs.l.length+1→(∀R,VP w R→wR R req→c≤dr pl R w.rs.l.length)→
  (∃Q,pk w pl req c d=some Q∧zV w pl req Q)∨(pk w pl req c d=none∧∀R,VP w R→¬wR R req)
 |0,c,hc,ez=>by
  right
  refine⟨rfl,fun R hR hr=>?_⟩
  have:=ez R hR hr
  have:=Nt (a:=pl) (b:=R) (n:=w.rs.l.length)
  omega
 | d + 1, c, hc, ez => by
  have hJ:=akt hw cD h0 h1 c
  simp only[pk]
  rcases hJ with⟨e,gV⟩|⟨⟨g,hg,hv⟩,h2,h3,h4⟩
  ·rw[aq (by rw[e];decide)]
   refine X0 hw cD h0 h1 d (c+1) (by omega) fun R hR hr=>?_
   have hle:=ez R hR hr
   by_cases eW:dr pl R w.rs.l.length=c
   ·obtain⟨g,hg,hv⟩:=UG hw cD h0 h1 hR hr
    rw[eW]at hg
    exact absurd hv (gV g hg R)
   ·omega
  ·rw[ak h3]
   left
   refine⟨_,rfl,?_⟩
   obtain⟨k1,k2,k3⟩:=abL hw cD h0 h1 hg hv
   refine⟨k1,k2,fun R hR hr=>?_⟩
   rw[Nk]
   have hle:=ez R hR hr
   refine⟨by omega,fun he=>?_⟩
   obtain⟨g',bu,nD⟩:=UG hw cD h0 h1 hR hr
   rw[he,k3]at bu
   obtain⟨m1,m2⟩:=h4 g' bu R nD
   exact⟨by omega,m2⟩
theorem akv (hw:Wk w) {pl:List P} (cD:VP w pl) {req:Int} (h0:0≤req) (h1:req<w.rs.l.length):(∃Q,Kn w pl req=some Q∧zV w pl req Q)∨(Kn w pl req=none∧∀R,VP w R→¬wR R req):=
 X0 hw cD h0 h1 (w.rs.l.length+1) 0 (by omega) fun _ _ _=>bg _
theorem UB {a b:List P} {n:Nat}:dr (a.map cP) (b.map cP) n=dr a b n:=by
 unfold dr
 congr 2
 funext i
 exact UF
theorem GJ {l:List P} {i:Int}:(aM (l.map cP) i).isSome=(aM l i).isSome:=by
 unfold aM
 rw[List.find?_map,Option.isSome_map];rfl
theorem Cs (hw:Wk w) (h0:(dp w).2.2=0) {R:List P}:VP (cW w) R↔VP w R:=by
 rw[←LR hw,←LR (hw.c h0),ym]
 rw[QG hw (by omega) (fun x hx=>absurd hx (by simp))]
theorem abH (hw:Wk w) (h0:(dp w).2.2=0) {pl:List P} {req:Int} {Q:List P} (h:zV (cW w) pl req Q):zV w pl req Q:=by
 have hv:∀R,VP w R→bN (cW w) R=bN w R:=fun R hR=>by
  have:=aa4 (w:=w) (l:=R) fun x hx=>⟨(hR.mem x hx).1,(hR.mem x hx).2.1⟩
  rwa [hR.Uo hw]at this
 have hQ:=(Cs hw h0).1 h.vp
 refine⟨hQ,h.has,fun R hR hr=>?_⟩
 have:=h.min R ((Cs hw h0).2 hR) hr
 unfold IT at this⊢
 rw[ym,hv R hR,hv Q hQ]at this
 exact this
end
section
variable{w:W}
theorem VP.ZS (hw:Wk w) {R:List P} (h:VP w R):(R.map (·.req)).map (fun i=>(Sc.aM R i).getD bV)=R:=by
 rw[vO]
 refine(zP fun p hp=>?_).trans (List.map_id' R)
 show(Sc.aM R p.req).getD bV=p
 rw[h.aM hw hp];rfl
theorem I0 {a b:List P} {n:Nat}:dr a b n=0↔∀i:Nat,i<n→ew a b (i:Int)=false:=by
 unfold dr
 rw[abz,R1]
 constructor
 ·intro h i hi
  have:=h i (nQ.2 hi)
  simpa using this
 ·intro h i hi
  rw[h i (nQ.1 hi)];decide
theorem Ns (hw:Wk w) {a b:List P} (ha:VP w a) (hb:VP w b):dr a b w.rs.l.length=0↔a=b:=by
 constructor
 ·intro h
  have hc:=I0.1 h
  have hk:∀i:Int,0≤i→i<w.rs.l.length→(aM a i).map kP=(aM b i).map kP:=fun i h0 h1=>by
   have:=hc i.toNat (by omega)
   rw[show((i.toNat:Nat):Int)=i by omega]at this
   unfold ew at this
   simpa using this
  have jl:∀i:Int,0≤i→i<w.rs.l.length→aM a i=aM b i:=fun i h0 h1=>by
   have:=hk i h0 h1
   cases hp:aM a i with
   |none=>rw[hp]at this;cases hq:aM b i with
    |none=>rfl
    |some q=>rw[hq]at this;simp at this
   | some p => rw [hp] at this; cases hq : aM b i with
    |none=>rw[hq]at this;simp at this
    |some q=>
     rw[hq]at this
     simp only[dK,fm]at this
     have h2:=Up this
     rw[ha.can hw p (ou hp).1,hb.can hw q (ou hq).1]at h2
     rw[h2]
  have fu:a.map (·.req)=b.map (·.req):=by
   refine z6 (by rw[rz];exact ha.kW) (by rw[rz];exact hb.kW) fun x=>?_
   rw[cC,cC]
   constructor
   ·rintro⟨p,hp,rfl⟩
    obtain⟨h0,h1,_⟩:=ha.mem p hp
    have:=jl p.req h0 h1
    rw[ha.aM hw hp]at this
    exact⟨p,(ou this.symm).1,rfl⟩
   ·rintro⟨p,hp,rfl⟩
    obtain⟨h0,h1,_⟩:=hb.mem p hp
    have:=jl p.req h0 h1
    rw[hb.aM hw hp]at this
    exact⟨p,(ou this).1,rfl⟩
  rw[←ha.ZS hw,←hb.ZS hw,fu]
  refine zP fun i hi=>?_
  obtain⟨p,hp,rfl⟩:=cC.1 hi
  obtain⟨h0,h1,_⟩:=hb.mem p hp
  rw[jl p.req h0 h1]
 ·rintro rfl
  rw[I0]
  intro i _
  unfold ew;simp
theorem Rf:∀{a b:List P},py a b=true↔a.map kP=b.map kP
 |[],[]=>by simp[py]
 |[],_::_=>by simp[py]
 |_::_,[]=>by simp[py]
 |x::a,y::b=>by
  simp only[py,dB,dZ,iN,vM,Rf (a:=a),US]
theorem Rw {a b:List P}:∀{k:Nat},(gp w a b k).length≤dr a b k
 |0=>aH _
 | k + 1 => by
  have ih:=Rw (a:=a) (b:=b) (k:=k)
  rw[UD]
  simp only[gp]
  cases hc:ew a b (k:Int)with
  |false=>simpa using ih
  |true=>
   split
   ·rw[cj,xR,ak rfl];omega
   ·rw[ak rfl];omega
theorem aaN {a b:List P}:∀{k i:Nat},i<k→ew a b (i:Int)=true→tA (gp w a b k) (w.rq (i:Int)).bw=true
 |0,i,h,_=>by omega
 | k + 1, i, h, hc => by
  simp only[gp]
  by_cases hik:i=k
  ·subst hik
   rw[hc,iu]
   cases hh:tA (gp w a b i) (w.rq (i:Int)).bw with
   |true=>simpa using hh
   |false=>
    simp only[mY,bB]
    unfold tA
    rw[vL]
    simp
  ·have ih:=aaN (a:=a) (b:=b) (k:=k) (i:=i) (by omega) hc
   split
   ·unfold tA at ih⊢
    rw[vL,ih];rfl
   ·exact ih
theorem Rx {a b:List P}:∀{k:Nat} {m:ByteArray},m∈gp w a b k→∃i:Nat,i<k∧ew a b (i:Int)=true∧(w.rq (i:Int)).bw=m
 |0,m,h=>by simp[gp]at h
 | k + 1, m, h => by
  simp only[gp]at h
  split at h
  ·rename_i hc
   rw[dB]at hc
   rcases dD.1 h with h|h
   ·obtain⟨i,h1,h2,h3⟩:=Rx h
    exact⟨i,by omega,h2,h3⟩
   ·rw[eK]at h
    exact⟨k,by omega,hc.1,h.symm⟩
  ·obtain⟨i,h1,h2,h3⟩:=Rx h
   exact⟨i,by omega,h2,h3⟩
theorem asY {a b:List P} {k:Nat}:gp w a b k=[]↔dr a b k=0:=by
 constructor
 ·intro h
  rw[I0]
  intro i hi
  cases hc:ew a b (i:Int)with
  |false=>rfl
  |true=>
   have:=aaN (w:=w) hi hc
   rw[h]at this
   simp[tA]at this
 ·intro h
  have:=Rw (w:=w) (a:=a) (b:=b) (k:=k)
  exact sU (by omega)
theorem QE {l:List P} {i:Int}:decide (0≤du (fun p:P=>decide (p.req=i)) l)=(aM l i).isSome:=by
 unfold aM
 rcases AS (p:=fun p:P=>decide (p.req=i)) (l:=l)with⟨h1,h2⟩|⟨k,x,h1,_,h2⟩
 ·rw[h1,h2];rfl
 ·rw[h1,h2]
  exact bP (by omega)
theorem QF {l:List P} {i:Int}:decide (du (fun p:P=>decide (p.req=i)) l<0)=!(aM l i).isSome:=by
 rw[←QE]
 cases h:decide (0≤du (fun p:P=>decide (p.req=i)) l)with
 |true=>exact bS (by have:=KF h;omega)
 |false=>exact bP (by have:=of_decide_eq_false h;omega)
theorem gH.sm {l:List P} (h:gH l):HI l:=⟨by have:=h.len;omega,fun p hp=>⟨(h.ok p hp).1,by have:=(h.ok p hp).2;omega⟩⟩
theorem zV.rM (hw : Wk w) {a b Q : List P} {i : Int} (ha : VP w (a.map cP)) (hQ : zV w (a.map cP) i Q) :
  (py Q a=(aM a i).isSome)∧(dr a Q w.rs.l.length=0↔(aM a i).isSome=true)∧(VP w (b.map cP)→(aM b i).isSome=true→¬dr a b w.rs.l.length<dr a Q w.rs.l.length):=by
 have hQc:=hQ.vp.Uo hw
 have hc:dr (a.map cP) Q w.rs.l.length=dr a Q w.rs.l.length:=by
  have:=UB (a:=a) (b:=Q) (n:=w.rs.l.length)
  rwa [hQc]at this
 have hk:(a.map cP).map kP=a.map kP:=by rw[vO];rfl
 have hn:dr a Q w.rs.l.length=0↔(aM a i).isSome=true:=by
  constructor
  ·intro h
   have:=(Ns hw ha hQ.vp).1 (by rw[hc];exact h)
   have h2:=Bb.2 hQ.has
   rw[←this,GJ]at h2
   exact h2
  ·intro h
   have hm:=hQ.min (a.map cP) ha (Bb.1 (by rw[GJ];exact h))
   rw[Nk,(Ns hw ha ha).2 rfl,hc]at hm
   omega
 refine⟨?_,hn,fun hb hi=>?_⟩
 ·cases hp : (aM a i).isSome with
  |true=>
   have:=(Ns hw ha hQ.vp).1 (by rw[hc];exact hn.2 hp)
   rw[Rf,←this,hk]
  | false =>
   cases hs:py Q a with
   |false=>rfl
   | true =>
    have h1:=Rf.1 hs
    have:(aM a i).isSome=true:=hn.1 (by
     rw[I0]
     intro j _
     have jl:∀(x y:List P),x.map kP=y.map kP→(aM x (j:Int)).map kP=(aM y (j:Int)).map kP:=fun x=>by
      induction x with
      |nil=>intro y h;cases y with
       |nil=>rfl
       |cons=>simp at h
      | cons p r ih => intro y h; cases y with
       |nil=>simp at h
       |cons q t=>
        simp only[iN,vM]at h
        have hr:p.req=q.req:=(List.cons.inj h.1).1
        have:=ih t h.2
        unfold aM at this⊢
        simp only[Lm,hr]
        cases decide (q.req=(j:Int))with
        |true=>simp[h.1]
        |false=>exact this
     unfold ew
     rw[jl a Q h1.symm];simp)
    rw[this]at hp;exact absurd hp (by decide)
 ·have hm:=hQ.min (b.map cP) hb (Bb.1 (by rw[GJ];exact hi))
  rw[Nk,UB,hc]at hm
  exact hm.1
end
section
variable{s:ae} {w:W}
theorem anK {a b:List P} {o1 o2:Own} {e1 e2:Nat} {i:Int} (hs:Ok s) (hw:w.Ok) (hb:w.Hd) (ha:xX a) (rZ:xX b) (h1:a=[]∨e1=3) (h2:b=[]∨e2=3) (hi:PT i):
  aw AP (.fn 3) [w.v,.agg [.slice o1 e1 (a.map aj),.slice o2 e2 (b.map aj)],I i] s=some (B true,s):=by
 have rY:∀r,aw AP (.fn 4) [] (s.push r)=some (B true,s.push r):=fun r=>anM (hs.push r)
 have mJ:∀r,aw AP (.fn 5) [w.v] (s.push r)=some (B (GB w),s.push r):=fun r=>anJ (hs.push r) hw hb
 have tJ:∀m:ae,aw AP (.fn 6) [.slice o1 e1 (a.map aj)] m=some (B (xB a),m):=fun m=>Ye ha h1
 have ss:∀m:ae,aw AP (.fn 6) [.slice o2 e2 (b.map aj)] m=some (B (xB b),m):=fun m=>Ye rZ h2
 simp only[W.v,c8,Sl.v]at mJ
 cases hf:GB w with
 |false=>
  rw[aL (show AP 3=some nS from rfl) rfl]
  simp(maxSteps:=1000000) only[go_sem,qn,rY,mJ,hf,Nat.reduceEqDiff,Nat.reduceAdd,↓reduceIte]
 |true=>
 cases gL:xB a with
 |false=>
  rw[aL (show AP 3=some nS from rfl) rfl]
  simp(maxSteps:=1000000) only[go_sem,qn,rY,mJ,hf,tJ,gL,Nat.reduceEqDiff,Nat.reduceAdd,↓reduceIte]
 |true=>
 cases oV:xB b with
 |false=>
  rw[aL (show AP 3=some nS from rfl) rfl]
  simp(maxSteps:=1000000) only[go_sem,qn,rY,mJ,hf,tJ,gL,ss,oV,Nat.reduceEqDiff,Nat.reduceAdd,↓reduceIte]
 |true=>
 have hF:w.ko:=VM (by unfold GB at hf;rw[dB]at hf;exact hf.1)
 have rP:=aaq ha gL
 have Fw:=aaq rZ oV
 have mN:∀r,aw AP (.fn 7) [w.v] (s.push r)=some (I (jc w),s.push r):=fun r=>ZI (hs.push r) hw hF
 simp only[W.v,c8,Sl.v]at mN
 by_cases h0:jc w=0
 rotate_left
 ·rw[aL (show AP 3=some nS from rfl) rfl]
  simp(maxSteps:=1000000) only[go_sem,qn,rY,mJ,hf,tJ,gL,ss,oV,mN,h0,aY,ij,oK,Nat.reduceEqDiff,Nat.reduceAdd,↓reduceIte]
 have xj:=Rq h0
 have cz:Wk w:=⟨hw,hF,rn xj⟩
 have cD:∀(m:ae) {l:List P} {o:Own} {e:Nat},Ok m→gH l→(l=[]∨e=3)→aw AP (.fn 8) [w.v,.slice o e (l.map aj)] m=some (I (dQ w l).2,m):=fun m l o e hm hl he=>by
  rw[ard hm hw hF hl he];unfold kK;rw[ak xj]
 have dq:∀r,aw AP (.fn 8) [w.v,.slice o1 e1 (a.map aj)] (s.push r)=some (I (dQ w a).2,s.push r):=fun r=>cD _ (hs.push r) rP h1
 have jE:∀r,aw AP (.fn 8) [w.v,.slice o2 e2 (b.map aj)] (s.push r)=some (I (dQ w b).2,s.push r):=fun r=>cD _ (hs.push r) Fw h2
 rw[h0]at mN
 simp only[W.v,c8,Sl.v]at dq jE
 by_cases n5:(dQ w a).2=0
 rotate_left
 ·rw[aL (show AP 3=some nS from rfl) rfl]
  simp(maxSteps:=1000000) only[go_sem,qn,rY,mJ,hf,tJ,gL,ss,oV,mN,dq,n5,aY,eB,ij,oK,kM,Nat.reduceEqDiff,Nat.reduceAdd,↓reduceIte]
 rw[n5]at dq
 have fu:∀r,aw AP (.fn 9) [w.v,.slice .full 1 [[I i]]] (s.push r)=some (I (vz w.rs.l.length (-1) [i]),s.push r):=fun r=>arh (l:=[i]) (hs.push r) hF.rs (.inr rfl) (by simp)
 simp only[W.v,c8,Sl.v]at fu
 cases tL:wi i 0 (w.rs.l.length-1)with
 |false=>
  have fH:vz w.rs.l.length (-1) [i]=6:=by simp only[vz];rw[aq (by rw[tL];decide)]
  rw[fH]at fu
  rw[aL (show AP 3=some nS from rfl) rfl]
  simp(maxSteps:=1000000) only[go_sem,qn,rY,mJ,hf,tJ,gL,ss,oV,mN,dq,fu,aY,eB,ij,oK,kM,Nat.reduceEqDiff,Nat.reduceAdd,Int.reduceEq,↓reduceIte]
 |true=>
 obtain⟨JU,se⟩:=iK.1 tL
 have aiM:i<w.rs.l.length:=by omega
 have fH:vz w.rs.l.length (-1) [i]=0:=by simp only[vz];rw[ak tL,ak (by omega)]
 rw[fH]at fu
 have n6:∀m:ae,Ok m→aw AP (.fn 11) [w.v] m=some ((cW w).v,m):=fun m hm=>arc hm hw hF
 have WV:∀r,aw AP (.fn 11) [w.v] (s.push r)=some ((cW w).v,s.push r):=fun r=>n6 _ (hs.push r)
 have tD:∀m:ae,aw AP (.fn 11) [w.v] (cT m)=some ((cW w).v,cT m):=fun m=>n6 _ vu
 obtain⟨x1,g1,mV,dU,uR,_⟩:=QN (o:=o1) (e:=e1) (Q:=s) (tk:=[]) hs rP h1
 obtain⟨p1,q1,rfl,xe⟩:=Cw uR
 have hm:∀{k:List P} {e:Nat},((k.map cP).map aj=[]∨e=3)→(k.map cP=[]∨e=3):=fun h=>by rcases h with h|h;exact .inl (by simpa using h);exact .inr h
 have bH:∀r,aw AP (.fn 10) [(cW w).v,.slice p1 q1 ((a.map cP).map aj),I i] (s.push r)=some (Ko (cW w) (a.map cP) i,s.push r):=fun r=>ar2 (hs.push r) Nq (Np hF) (No rP) (hm xe)
 have hE:vl (cW w) (a.map cP) i=0:=by
  unfold vl;rw[asM,Nv,ym,ak h0,ak n5,tL];rfl
 unfold Ko at bH
 rw[hE,ak rfl,ak rfl]at bH
 have w8:mO false (bG 3 (([]:List P).map aj))=some (I 0):=rfl
 have Oq:VP w (a.map cP):=VP.YZ cz rP n5
 have hR:=akv (cz.c xj) ((Cs cz xj).2 Oq) JU (by rw[ym];exact aiM)
 have dI:∀(m:ae) {l:List P} {o:Own} {e:Nat},gH l→(l=[]∨e=3)→aw AP (.fn 13) [.slice o e (l.map aj),I i] m=some (I (du (fun p:P=>decide (p.req=i)) l),m):=fun m l o e hl he=>QO he (by have:=hl.len;omega)
 have Ga:∀m:ae,aw AP (.fn 13) [.slice o1 e1 (a.map aj),I i] m=some (I (du (fun p:P=>decide (p.req=i)) a),m):=fun m=>dI m rP h1
 have Pe:∀m:ae,aw AP (.fn 13) [.slice o2 e2 (b.map aj),I i] m=some (I (du (fun p:P=>decide (p.req=i)) b),m):=fun m=>dI m Fw h2
 have ga:=QE (l:=a) (i:=i)
 have la:=QF (l:=a) (i:=i)
 have gb:=QE (l:=b) (i:=i)
 have lb:=QF (l:=b) (i:=i)
 generalize hva:du (fun p:P=>decide (p.req=i)) a=va at*
 generalize hvb:du (fun p:P=>decide (p.req=i)) b=vb at*
 have WB:(dQ w b).2=0→VP w (b.map cP):=fun h=>VP.YZ cz Fw h
 rcases hR with⟨Q,Oj,Jz⟩|⟨Oj,Jz⟩
 ·have hQ := abH cz xj Jz
  obtain⟨hfs,sc,hfb⟩:=hQ.rM cz (b:=b) Oq
  obtain⟨Wy,yQ⟩:=hQ.vp.UH cz
  rw[Oj,kR,xW,ak rfl]at bH
  obtain⟨qo,qe,zg,mL⟩:∃o e,bG 3 (Q.map aj)=.slice o e (Q.map aj)∧(Q=[]∨e=3):=by
   cases Q with
   |nil=>exact⟨_,_,rfl,.inl rfl⟩
   |cons _ _=>exact⟨_,_,rfl,.inr rfl⟩
  rw[zg]at bH
  have pf:∀r,aw AP (.fn 8) [w.v,.slice qo qe (Q.map aj)] (s.push r)=some (I 0,s.push r):=fun r=>by
   rw[cD _ (hs.push r) yQ mL,Wy]
  have Pf:∀m:ae,aw AP (.fn 13) [.slice qo qe (Q.map aj),I i] m=some (I (du (fun p:P=>decide (p.req=i)) Q),m):=fun m=>dI m yQ mL
  have lq:=QF (l:=Q) (i:=i)
  rw[Bb.2 hQ.has]at lq
  generalize hvq:du (fun p:P=>decide (p.req=i)) Q=vq at*
  have et:=hF.rs
  have lla:=rP.len
  have llb:=Fw.len
  have llq:=yQ.len
  have fk:∀m:ae,Ok m→aw AP (.fn 15) [w.v,.slice o1 e1 (a.map aj),.slice qo qe (Q.map aj)] m=some (I (dr a Q w.rs.l.length),m):=fun m hm=>ZH hm (by omega) h1 mL (by omega) (by omega) rP.sm.ok yQ.sm.ok
  have lR:∀m:ae,Ok m→aw AP (.fn 15) [w.v,.slice o1 e1 (a.map aj),.slice o2 e2 (b.map aj)] m=some (I (dr a b w.rs.l.length),m):=fun m hm=>ZH hm (by omega) h1 h2 (by omega) (by omega) rP.sm.ok Fw.sm.ok
  have JJ:=fun r=>fk (s.push r) (hs.push r)
  have aif:=fun m:ae=>fk (cT m) vu
  have aie:=fun r=>lR (s.push r) (hs.push r)
  have WQ:=fun m:ae=>lR (cT m) vu
  have qR:∀r,aw AP (.fn 14) [.slice qo qe (Q.map aj),.slice o1 e1 (a.map aj)] (s.push r)=some (B (py Q a),s.push r):=fun r=>ari (hs.push r) mL h1 yQ.sm rP.sm
  rw[hfs]at qR
  obtain⟨x2,g2,mj,gj,uS,_⟩:=QN (o:=o1) (e:=e1) (Q:=s) (tk:=mV) hs rP h1
  obtain⟨x3,g3,Ry,mG,Od,_⟩:=QN (o:=qo) (e:=qe) (Q:=s) (tk:=mj) hs yQ mL
  obtain⟨p2,q2,rfl,Ph⟩:=Cw uS
  obtain⟨p3,q3,rfl,Pj⟩:=Cw Od
  obtain⟨T,hT⟩:∃T,T=gp w a Q w.rs.l.length:=⟨_,rfl⟩
  obtain⟨p4,q4,ahW,hq4⟩:∃o e,bG 1 (T.map mf)=.slice o e (T.map mf)∧(T=[]∨e=1):=by
   cases T with
   |nil=>exact⟨_,_,rfl,.inl rfl⟩
   |cons _ _=>exact⟨_,_,rfl,.inr rfl⟩
  have hte:G7 (cW w) (a.map cP) (Q.map cP)=0:=by
   unfold G7 kK;rw[RB,ak xj,Nv,ak n5,Nv,Wy]
  have Kc:∀r,aw AP (.fn 16) [(cW w).v,.agg [.slice p2 q2 ((a.map cP).map aj),.slice p3 q3 ((Q.map cP).map aj)]] (s.push r)=some (.tuple [.slice p4 q4 (T.map mf),I 0],s.push r):=fun r=>by
   rw[ar4 (hs.push r) Nq (Np hF) (No rP) (No yQ) (hm Ph) (hm Pj),hte,ak rfl,ym,aaM (aH _),←hT,ahW]
  have uU:T.length≤dr a Q w.rs.l.length:=hT ▸ Rw
  have JB:decide ((T.length:Int)=0)=(aM a i).isSome:=by
   rw[vI,dZ,←sc,←asY (w:=w),←hT,←abz]
   omega
  have Oo:decide ((dr a Q w.rs.l.length:Int)<(T.length:Int))=false:=bS (by omega)
  have Fz:mO false (.slice p4 q4 (T.map mf))=some (I (T.length:Int)):=by
   show some (I ((T.map mf).length:Int))=_
   rw[bY]
  have hTm:∀m∈T,(w.rs.l.any fun r=>decide (r.bw=m))=true:=fun m hm=>by
   rw[hT]at hm
   obtain⟨j,hj,_,FT⟩:=Rx hm
   rw[fL]
   obtain⟨r,hr⟩:=get_some hj
   refine⟨r,bQ hr,?_⟩
   have:=w.Q7 (i:=(j:Int)) (by omega) (by omega)
   rw[show((j:Int).toNat)=j by omega,hr]at this
   rw[Option.some.inj this,FT];simp
  have au2:T.length≤14:=by have:=Nt (a:=a) (b:=Q) (n:=w.rs.l.length);have:=hF.rs;omega
  have k0 : ∀ (k : Nat) ρ m, k ≤ T.length → (ρ 3 = .ptr s.ag.length 0 0 ∧ ρ 10 = .slice p4 q4 (T.map mf) ∧ ρ 12 = I k ∧ ∃ bx tk, m = s.push ⟨c8 w :: bx, tk⟩) →
    go AP Vt (.c (.loop CM)::amC) ⟨ρ,m⟩=some (B true,s):=by
   refine ck T.length _ _ ?_ ?_
   ·rintro k ρ m hk ⟨g3,g10,g12,bx,tk,rfl⟩ ih
    obtain⟨t,ht⟩:=get_some hk
    have ajG:q4=1:=by rcases hq4 with h|h;(rw[h]at ht;simp at ht);exact h
    subst ajG
    have hr:=cq (o:=p4) (es:=1) (f:=mf) ht
    have vd:=bK hk (show(T.length:Int)<_ by omega)
    have ah0:=hTm t (bQ ht)
    have inner:∀(j:Nat) ρ m,j≤w.rs.l.length→(ρ 3=.ptr s.ag.length 0 0∧ρ 10=.slice p4 1 (T.map mf)∧ρ 12=I k∧ρ 13=B ((w.rs.l.take j).any fun r=>decide (r.bw=t))∧ρ 14=I j∧m=s.push ⟨c8 w::bx,tk⟩)→
      go AP Vt (.c (.loop CN)::amD) ⟨ρ,m⟩=some (B true,s):=by
     refine ck w.rs.l.length _ _ ?_ ?_
     ·rintro j ρ m hj ⟨g3,g10,g12,g13,g14,rfl⟩ fJ
      obtain⟨q,hq⟩:=get_some hj
      have mH:=Sl.ix (f:=bU) hw.rs hq
      have ie:=bK hj (show(w.rs.l.length:Int)<_ by omega)
      have ke:((w.rs.l.take (j+1)).any fun r=>decide (r.bw=t))=(((w.rs.l.take j).any fun r=>decide (r.bw=t))||decide (q.bw=t)):=by rw[fU hq,vL];simp
      simp only[bU,Sl.v]at mH
      cases hd:(w.rs.l.take j).any fun r=>decide (r.bw=t)with
      |true=>
       rw[hd]at g13
       simp(maxSteps:=1000000) only[go_sem,CN,g3,g13,g14,aS hj,ie,Nat.reduceEqDiff,Nat.reduceAdd,↓reduceIte]
       refine fJ _ _ ?_
       exact⟨g3,g10,g12,by rw[ke,hd];rfl,rfl,rfl⟩
      |false=>
       rw[hd]at g13
       simp(maxSteps:=1000000) only[go_sem,CN,g3,g10,g12,g13,g14,aS hj,ie,mH,hr,Nat.reduceEqDiff,Nat.reduceAdd,↓reduceIte]
       refine fJ _ _ ?_
       exact⟨g3,g10,g12,by rw[ke,hd];rfl,rfl,rfl⟩
     ·rintro ρ m ⟨g3,g10,g12,g13,g14,rfl⟩
      rw[jh,ah0]at g13
      simp(maxSteps:=1000000) only[go_sem,CN,Ma,Mb,g3,g12,g13,g14,bM,vd,Nat.reduceEqDiff,Nat.reduceAdd,↓reduceIte]
      refine ih _ _ ?_
      exact⟨g3,g10,rfl,bx,tk,rfl⟩
    simp(maxSteps:=1000000) only[go_sem,CM,g10,g12,Fz,aS hk,Nat.reduceEqDiff,↓reduceIte]
    refine inner 0 _ _ (bg _) ?_
    exact⟨g3,g10,g12,rfl,rfl,rfl⟩
   ·rintro ρ m ⟨g3,g10,g12,bx,tk,rfl⟩
    simp(maxSteps:=1000000) only[go_sem,CM,H8,g10,g12,Fz,bM,Nat.reduceEqDiff,↓reduceIte]
  simp only[W.v,c8,Sl.v]at WV tD bH pf JJ aif aie WQ Kc k0
  have aix:(dQ w b).2=0→(aM b i).isSome=true→decide ((dr a b w.rs.l.length:Int)<(dr a Q w.rs.l.length:Int))=false:=fun h hp=>bS (by have:=hfb (WB h) hp;omega)
  generalize(dQ w b).2=eb at*
  generalize dr a b w.rs.l.length=Cb at*
  generalize dr a Q w.rs.l.length=Cq at*
  generalize(a.map cP).map aj=Za at*
  generalize(Q.map cP).map aj=Zq at*
  generalize a.map aj=Ya at*
  generalize b.map aj=Yb at*
  generalize Q.map aj=Yq at*
  cases ajz:(aM a i).isSome<;>rw[ajz]at ga la qR JB
  all_goals
   by_cases hz:eb=0
   ·cases Pb:(aM b i).isSome with
    |true=>
     rw[Pb]at gb
     have aiy:=aix hz Pb
     subst hz
     rw[aL (show AP 3=some nS from rfl) rfl]
     simp(maxSteps:=1000000) only[go_sem,qn,rY,mJ,hf,tJ,gL,ss,oV,mN,dq,fu,tD,dU,bH,jE,Pe,gb,pf,Pf,lq,Ga,ga,qR,JJ,WQ,aiy,gj,mG,Kc,Fz,Oo,JB,aY,eB,oK,kM,Nat.reduceEqDiff,Nat.reduceAdd,↓reduceIte]
     refine k0 0 _ _ (bg _) ?_
     exact⟨rfl,rfl,rfl,_,_,rfl⟩
    |false=>
     rw[Pb]at gb
     subst hz
     rw[aL (show AP 3=some nS from rfl) rfl]
     simp(maxSteps:=1000000) only[go_sem,qn,rY,mJ,hf,tJ,gL,ss,oV,mN,dq,fu,tD,dU,bH,jE,Pe,gb,pf,Pf,lq,Ga,ga,qR,JJ,gj,mG,Kc,Fz,Oo,JB,aY,eB,oK,kM,Nat.reduceEqDiff,Nat.reduceAdd,↓reduceIte]
     refine k0 0 _ _ (bg _) ?_
     exact⟨rfl,rfl,rfl,_,_,rfl⟩
   ·rw[aL (show AP 3=some nS from rfl) rfl]
    simp(maxSteps:=1000000) only[go_sem,qn,rY,mJ,hf,tJ,gL,ss,oV,mN,dq,fu,tD,dU,bH,jE,hz,pf,Pf,lq,Ga,ga,qR,JJ,gj,mG,Kc,Fz,Oo,JB,aY,eB,qt,kM,Nat.reduceEqDiff,Nat.reduceAdd,↓reduceIte]
    refine k0 0 _ _ (bg _) ?_
    exact⟨rfl,rfl,rfl,_,_,rfl⟩
 ·rw[Oj,Option.getD_none,s7,aq (by decide)]at bH
  have hna:(aM a i).isSome=false:=by
   cases h:(aM a i).isSome with
   |false=>rfl
   |true=>exact absurd (Bb.1 (by rw[GJ];exact h)) (Jz _ ((Cs cz xj).2 Oq))
  rw[hna]at la
  simp only[W.v,c8,Sl.v]at WV tD bH
  by_cases hz:(dQ w b).2=0
  ·have mK:(aM b i).isSome=false:=by
    cases h:(aM b i).isSome with
    |false=>rfl
    |true=>exact absurd (Bb.1 (by rw[GJ];exact h)) (Jz _ ((Cs cz xj).2 (WB hz)))
   rw[mK]at gb
   rw[hz]at jE
   rw[aL (show AP 3=some nS from rfl) rfl]
   simp(maxSteps:=1000000) only[go_sem,qn,rY,mJ,hf,tJ,gL,ss,oV,mN,dq,fu,tD,dU,bH,jE,Pe,gb,Ga,la,aY,eB,ij,oK,kM,mY,Nat.reduceEqDiff,Nat.reduceAdd,Int.reduceEq,aP,↓reduceIte]
  ·rw[aL (show AP 3=some nS from rfl) rfl]
   simp(maxSteps:=1000000) only[go_sem,qn,rY,mJ,hf,tJ,gL,ss,oV,mN,dq,fu,tD,dU,bH,jE,hz,Ga,la,aY,eB,ij,oK,qt,kM,mY,Nat.reduceEqDiff,Nat.reduceAdd,Int.reduceEq,aP,↓reduceIte]
end
end Go.Ax.Sx.Sc
