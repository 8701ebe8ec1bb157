/- A part of the proof. -/
import Derived.Test.YtjgbdhjcpcmajaaGreatDoorT9
set_option linter.unusedSimpArgs false
set_option linter.unusedVariables false
set_option maxRecDepth 100000
namespace Go.Ax.Sx.Sc
open Go.Ax
section
variable{w:W}
structure Lo (w:W) (l:List (List P)) (c:Nat→P):Prop where
 mem:∀k x,l[k]? =some x→c k∈x
 nc:∀j k,j<l.length→k<l.length→j≠k→dE w (c j) (c k)=false
theorem He {p x:P} {l:List P}:x∈wo w p l↔x∈l∧dE w x p=false:=by
 unfold wo
 rw[eS]
 simp
theorem Vv {p:P} {l:List (List P)} {s k:Nat}:((l.eraseIdx s).map (wo w p))[k]? =((if k<s then l[k]? else l[k+1]?).map (wo w p)):=by
 rw[je,List.getElem?_eraseIdx]
theorem V6 (hw:Wk w):∀(n:Nat) (l:List (List P)),l.length=n→(∀x∈l,∀p∈x,ch w p)→pM w n l=true→∃c,Lo w l c
 |0,l,hl,_,_=>⟨fun _=>bV,fun k x h=>by rw[sU hl]at h;simp at h,fun j k h=>by omega⟩
 | n + 1, l, hl, hp, h => by
  have aB:l≠[]:=by intro e;rw[e]at hl;simp at hl
  have hs:=Rt aB
  simp only[pM]at h
  generalize fJ l=s at*
  obtain⟨x,hx⟩:=get_some hs
  rw[List.getD,hx,kQ,fK]at h
  obtain⟨p,Ka,hf⟩:=h
  have fH:=bQ hx
  have jE:=hp x fH p Ka
  have FR:((l.eraseIdx s).map (wo w p)).length=n:=by rw[bY,Ly hs];omega
  obtain⟨c,dT,gg⟩:=V6 hw n ((l.eraseIdx s).map (wo w p)) FR (fun y hy q hq=>by
   obtain⟨z,hz,rfl⟩:=cC.1 hy
   exact hp z (Sk hz) q (He.1 hq).1) hf
  rw[FR]at gg
  have key:∀k,k<n→∃y,l[if k<s then k else k+1]? =some y∧c k∈y∧dE w (c k) p=false∧ch w (c k):=by
   intro k hk
   obtain⟨y,hy⟩:=get_some (l:=(l.eraseIdx s).map (wo w p)) (k:=k) (by omega)
   have hm:=dT k y hy
   rw[Vv]at hy
   obtain⟨z,hz,rfl⟩:=aU.1 hy
   obtain⟨lk,gS⟩:=He.1 hm
   have Gs:l[if k<s then k else k+1]? =some z:=by
    by_cases h:k<s
    ·rw[ak h]at hz⊢;exact hz
    ·rw[aq h]at hz⊢;exact hz
   exact⟨z,Gs,lk,gS,hp z (bQ Gs) _ lk⟩
  refine⟨fun k=>if k<s then c k else if k=s then p else c (k-1),?_,?_⟩
  ·intro k y hy
   have tF:=(bd.1 hy).1
   show(if k<s then c k else if k=s then p else c (k-1))∈y
   by_cases h1:k<s
   ·rw[ak h1]
    obtain⟨z,hz,hm,_⟩:=key k (by omega)
    rw[ak h1,hy]at hz;injection hz with hz;rw[hz];exact hm
   ·rw[aq h1]
    by_cases h2:k=s
    ·rw[ak h2];subst h2;rw[hx]at hy;injection hy with hy;rw[←hy];exact Ka
    ·rw[aq h2]
     obtain⟨z,hz,hm,_⟩:=key (k-1) (by omega)
     rw[aq (by omega),show k-1+1=k by omega,hy]at hz;injection hz with hz;rw[hz];exact hm
  ·intro j k hj hk u3
   show dE w (if j<s then c j else if j=s then p else c (j-1)) (if k<s then c k else if k=s then p else c (k-1))=false
   have n5:∀i,i<n→dE w p (c i)=false:=fun i hi=>by
    obtain⟨_,_,_,h3,h4⟩:=key i hi
    rw[Fi hw jE h4];exact h3
   have tD:∀i,i<n→dE w (c i) p=false:=fun i hi=>(key i hi).choose_spec.2.2.1
   by_cases j1:j<s
   ·rw[ak j1]
    by_cases k1:k<s
    ·rw[ak k1];exact gg j k (by omega) (by omega) u3
    ·rw[aq k1]
     by_cases k2:k=s
     ·rw[ak k2];exact tD j (by omega)
     ·rw[aq k2];exact gg j (k-1) (by omega) (by omega) (by omega)
   ·rw[aq j1]
    by_cases j2:j=s
    ·rw[ak j2]
     by_cases k1:k<s
     ·rw[ak k1];exact n5 k (by omega)
     ·rw[aq k1,aq (by omega)];exact n5 (k-1) (by omega)
    ·rw[aq j2]
     by_cases k1:k<s
     ·rw[ak k1];exact gg (j-1) k (by omega) (by omega) (by omega)
     ·rw[aq k1]
      by_cases k2:k=s
      ·rw[ak k2];exact tD (j-1) (by omega)
      ·rw[aq k2];exact gg (j-1) (k-1) (by omega) (by omega) (by omega)
theorem Y8 (hw:Wk w):∀(n:Nat) (l:List (List P)),l.length=n→(∀x∈l,∀p∈x,ch w p)→(∃c,Lo w l c)→pM w n l=true
 |0,_,_,_,_=>rfl
 | n + 1, l, hl, hp, ⟨c, dT, gg⟩ => by
  have aB:l≠[]:=by intro e;rw[e]at hl;simp at hl
  have hs:=Rt aB
  simp only[pM]
  generalize fJ l=s at*
  obtain⟨x,hx⟩:=get_some hs
  rw[List.getD,hx,kQ,fK]
  have FR:((l.eraseIdx s).map (wo w (c s))).length=n:=by rw[bY,Ly hs];omega
  refine⟨c s,dT s x hx,Y8 hw n _ FR (fun y hy q hq=>by
   obtain⟨z,hz,rfl⟩:=cC.1 hy
   exact hp z (Sk hz) q (He.1 hq).1) ⟨fun k=>c (if k<s then k else k+1),fun k y hy=>?_,fun j k hj hk u3=>?_⟩⟩
  ·have tF:=(bd.1 hy).1
   rw[Vv]at hy
   obtain⟨z,hz,rfl⟩:=aU.1 hy
   have Gs:l[if k<s then k else k+1]? =some z:=by
    by_cases h:k<s
    ·rw[ak h]at hz⊢;exact hz
    ·rw[aq h]at hz⊢;exact hz
   exact He.2 ⟨dT _ z Gs,gg _ _ (bd.1 Gs).1 hs (by split<;>omega)⟩
  ·rw[FR]at hj hk
   exact gg _ _ (by split<;>omega) (by split<;>omega) (by split<;>split<;>omega)
theorem V5 (hw:Wk w) {l:List (List P)} (hp:∀x∈l,∀p∈x,ch w p):fit w l=true↔∃c,Lo w l c:=
 ⟨V6 hw l.length l rfl hp,Y8 hw l.length l rfl hp⟩
end
section
variable{w:W}
theorem RM {q:P}:∀{plan:List P} {x:Sl P},q∈(ju w plan x).l↔q∈x.l∧∀p∈plan,dE w q p=false
 |[],x=>by simp[ju]
 |p::r,x=>by
  have h:ju w (p::r) x=ju w r (eC 3 (wo w p x.l)):=rfl
  rw[h,RM (plan:=r),kS,He]
  simp only[eB,forall_eq_or_imp]
  constructor
  ·rintro⟨⟨h1,h2⟩,h3⟩;exact⟨h1,h2,h3⟩
  ·rintro⟨h1,h2,h3⟩;exact⟨⟨h1,h2⟩,h3⟩
theorem KU {i:Int}:ct w [] i=dS w i:=by
 unfold ct
 rw[Lr]
 intro x _;rfl
theorem ags {i:Nat} (h:i<w.rs.l.length):(dG w).getD i default=(eC 3 (dS w (i:Int)),true):=by
 unfold dG rM
 rw[List.getD,je,Hs h]
 simp only[dK,kQ,KU]
def ij (pl:List P) (m:Nat):List Int:=(de m).filter fun i=>(aM pl i).isNone
theorem zu {m:Nat} {i:Int} (hm:m<2^62):i∈de m↔0≤i∧m.testBit i.toNat=true:=by
 unfold de pq
 simp only[cC,eS,nP]
 constructor
 ·rintro⟨k,⟨h1,h2⟩,rfl⟩;exact⟨by omega,by simpa using h2⟩
 ·rintro⟨h0,h1⟩
  refine⟨i.toNat,⟨?_,h1⟩,by omega⟩
  apply qh
  intro h
  have:m<2^i.toNat:=mZ hm (jh (by decide) (by omega))
  rw[HJ this]at h1
  exact absurd h1 (by decide)
theorem BL {m:Nat}:(de m).Pairwise (· <·):=by
 unfold de pq
 rw[ru]
 refine(Cj _ abJ).imp fun h=>by omega
theorem agn (hw:Wk w) {pl:List P} {m:Nat} (hm:m<2^w.rs.l.length):
  gO w (dG w) pl m=true↔∃f:Int→P,(∀i∈ij pl m,f i∈dS w i∧∀p∈pl,dE w (f i) p=false)∧(∀i∈ij pl m,∀j∈ij pl m,i≠j→dE w (f i) (f j)=false):=by
 have er:=hw.v.rl
 have qJ:m<2^62:=mZ hm (jh (by decide) (by omega))
 have bH:∀i∈ij pl m,0≤i∧i<w.rs.l.length:=by
  intro i hi
  obtain⟨h0,h1⟩:=(zu qJ).1 (eS.1 hi).1
  refine⟨h0,?_⟩
  apply qh
  intro h
  have:m<2^i.toNat:=mZ hm (jh (by decide) (by omega))
  rw[HJ this]at h1
  exact absurd h1 (by decide)
 have pT:(ij pl m).Pairwise (· <·):=Cj _ BL
 have O5:(l6 w (dG w) pl (de m)).map (·.l)=(ij pl m).map fun i=>(ju w pl ((dG w).getD i.toNat default).1).l:=by
  unfold l6 ij
  rw[vO];rfl
 unfold gO
 rw[O5]
 have dR:∀i∈ij pl m,∀q,q∈(ju w pl ((dG w).getD i.toNat default).1).l↔q∈dS w i∧∀p∈pl,dE w q p=false:=by
  intro i hi q
  obtain⟨h0,h1⟩:=bH i hi
  rw[ags (by omega),RM,kS,show((i.toNat:Nat):Int)=i by omega]
 generalize ij pl m=L at*
 have hP:∀x∈L.map (fun i=>(ju w pl ((dG w).getD i.toNat default).1).l),∀p∈x,ch w p:=by
  intro x hx p hp
  obtain⟨i,hi,rfl⟩:=cC.1 hx
  obtain⟨h0,h1⟩:=bH i hi
  exact(nF hw h0 h1 ((dR i hi p).1 hp).1).1
 rw[V5 hw hP]
 constructor
 ·rintro⟨c,dT,gg⟩
  refine⟨fun i=>c (L.idxOf i),fun i hi=>?_,fun i hi j hj eo=>?_⟩
  ·have hk:L[L.idxOf i]? =some i:=by
    rw[cM (uq.2 hi),Cl]
   have:=dT (L.idxOf i) _ (by rw[je,hk];rfl)
   exact(dR i hi _).1 this
  ·refine gg _ _ ?_ ?_ ?_
   ·rw[bY];exact uq.2 hi
   ·rw[bY];exact uq.2 hj
   ·intro e
    apply eo
    have h1:L[L.idxOf i]? =some i:=by rw[cM (uq.2 hi),Cl]
    have h2:L[L.idxOf j]? =some j:=by rw[cM (uq.2 hj),Cl]
    rw[e,h2]at h1;injection h1 with h1;exact sR h1
 ·rintro⟨f,jP,gK⟩
  refine⟨fun k=>f (L.getD k 0),fun k x hx=>?_,fun j k hj hk u3=>?_⟩
  ·rw[je]at hx
   obtain⟨i,hi,rfl⟩:=aU.1 hx
   have gS:=bQ hi
   show f (L.getD k 0)∈_
   have e0:L.getD k 0=i:=by rw[List.getD,hi];rfl
   rw[e0]
   exact(dR i gS _).2 (jP i gS)
  ·rw[bY]at hj hk
   obtain⟨a,ha⟩:=get_some hj
   obtain⟨b,hb⟩:=get_some hk
   show dE w (f (L.getD j 0)) (f (L.getD k 0))=false
   rw[List.getD,List.getD,ha,hb,kQ,kQ]
   refine gK a (bQ ha) b (bQ hb) ?_
   intro e
   subst e
   have lU:=Cn.1 pT
   obtain⟨_,ea⟩:=bd.1 ha
   obtain⟨_,eb⟩:=bd.1 hb
   rcases Sz u3 with h|h
   ·have:=lU j k hj hk h;omega
   ·have:=lU k j hk hj h;omega
end
section
variable{w:W}
structure VP (w:W) (R:List P):Prop where
 mem:∀p∈R,0≤p.req∧p.req<w.rs.l.length∧p∈dS w p.req
 kV:R.Pairwise fun a b=>a.req<b.req
 nc:R.Pairwise fun a b=>dE w a b=false
theorem VP.nil:VP w []:=⟨fun _ h=>absurd h (by simp),List.Pairwise.nil,List.Pairwise.nil⟩
theorem VP.iW (hw:Wk w) {R:List P} (h:VP w R):∀p∈R,ch w p:=fun p hp=>by
 obtain⟨h0,h1,h2⟩:=h.mem p hp
 exact(nF hw h0 h1 h2).1
theorem VP.pre {a b:List P} (h:VP w (a++b)):VP w a:=
 ⟨fun p hp=>h.mem p (pF _ hp),(jW.1 h.kV).1,(jW.1 h.nc).1⟩
theorem Zv:∀{R:List P} {o i:Nat},(R.foldl (fun o p=>o|||2^p.req.toNat) o).testBit i=(o.testBit i||R.any fun p=>decide (p.req.toNat=i))
 |[],o,i=>by simp
 |p::r,o,i=>by
  rw[xO,Zv (R:=r),Cs,LM,oz,Bool.or_assoc]
theorem tP {R:List P} {i:Nat}:(df R).testBit i=R.any fun p=>decide (p.req.toNat=i):=by
 unfold df
 rw[Zv];simp
theorem Zt {R:List P} {n:Nat} (h:∀p∈R,p.req.toNat<n):df R<2^n:=by
 apply Nat.lt_pow_two_of_testBit
 intro i hi
 rw[tP,zM]
 intro p hp
 have:=h p hp
 simp;omega
theorem RB {w:W}:∀{R:List P},nH w (R.map (·.req))=bN w R
 |[]=>rfl
 |p::r=>by simp only[iM,nH,bN];rw[RB]
theorem z6:∀{a b:List Int},a.Pairwise (· <·)→b.Pairwise (· <·)→(∀x,x∈a↔x∈b)→a=b
 |[],[],_,_,_=>rfl
 |[],y::b,_,_,h=>absurd ((h y).2 (by simp)) (by simp)
 |x::a,[],_,_,h=>absurd ((h x).1 (by simp)) (by simp)
 | x :: a, y :: b, ha, hb, h => by
  have h1:=uu.1 ha
  have h2:=uu.1 hb
  have eE:x=y:=by
   rcases eB.1 ((h x).1 (by simp))with e|e
   ·exact e
   ·rcases eB.1 ((h y).2 (by simp))with e2|e2
    ·exact sR e2
    ·have:=h1.1 y e2;have:=h2.1 x e;omega
  subst eE
  congr 1
  refine z6 h1.2 h2.2 fun z=>?_
  constructor
  ·intro hz
   rcases eB.1 ((h z).1 (jf _ hz))with e|e
   ·subst e;have:=h1.1 z hz;omega
   ·exact e
  ·intro hz
   rcases eB.1 ((h z).2 (jf _ hz))with e|e
   ·subst e;have:=h2.1 z hz;omega
   ·exact e
theorem VP.q9 {R:List P} (h:VP w R):df R<2^w.rs.l.length:=Zt fun p hp=>by have:=(h.mem p hp).1;have:=(h.mem p hp).2.1;omega
theorem VP.reqs (hw:Wk w) {R:List P} (h:VP w R):de (df R)=R.map (·.req):=by
 have er:=hw.v.rl
 have aC:df R<2^62:=mZ h.q9 (jh (by decide) (by omega))
 refine z6 BL (by rw[ru];exact h.kV) fun x=>?_
 rw[zu aC,tP,fK]
 simp only[cC,dY]
 constructor
 ·rintro⟨h0,p,hp,he⟩
  have:=(h.mem p hp).1
  exact⟨p,hp,by omega⟩
 ·rintro⟨p,hp,rfl⟩
  exact⟨(h.mem p hp).1,p,hp,rfl⟩
theorem VP.val (hw:Wk w) {R:List P} (h:VP w R):jc w (df R)=bN w R:=by
 unfold jc
 rw[h.reqs hw,RB]
end
section
variable{w:W}
theorem VP.sep (hw:Wk w) {R:List P} (h:VP w R) {p q:P} (hp:p∈R) (hq:q∈R) (aB:p.req≠q.req):dE w p q=false:=by
 obtain⟨i,hi⟩:=mY hp
 obtain⟨j,hj⟩:=mY hq
 obtain⟨sf,wX⟩:=bd.1 hi
 obtain⟨gR,wY⟩:=bd.1 hj
 have lU:=Cn.1 h.nc
 rcases LI i j with eo|eo|eo
 ·have:=lU i j sf gR eo
  rwa [wX,wY]at this
 ·subst eo
  rw[hi]at hj;injection hj with hj
  exact absurd (by rw[hj]) aB
 ·have:=lU j i gR sf eo
  rw[wX,wY]at this
  rw[Fi hw (h.iW hw p hp) (h.iW hw q hq)];exact this
theorem ot {l:List P} {i:Int} {p:P} (h:aM l i=some p):p∈l∧p.req=i:=by
 unfold aM at h
 exact⟨Si h,by simpa using Lu h⟩
theorem QK {l:List P} {i:Int} (h:(aM l i).isNone=true):∀p∈l,p.req≠i:=by
 intro p hp he
 unfold aM at h
 rw[abQ,Hp]at h
 exact h p hp (by simpa using he)
theorem KR {l:List P} {i:Int} (h:∃p∈l,p.req=i):∃p,aM l i=some p:=by
 obtain⟨p,hp,he⟩:=h
 unfold aM
 have:(l.find? fun x=>decide (x.req=i)).isSome=true:=List.find?_isSome.2 ⟨p,hp,by simpa using he⟩
 exact oC.1 this
theorem V9 (hw:Wk w) {pl rest:List P} (h:VP w (pl++rest)):gO w (dG w) pl (df (pl++rest))=true:=by
 have er:=hw.v.rl
 rw[agn hw h.q9]
 have cd:∀i∈ij pl (df (pl++rest)),∃p,aM (pl++rest) i=some p∧p∈pl++rest∧p.req=i∧∀q∈pl,q.req≠i:=by
  intro i hi
  obtain⟨h1,h2⟩:=eS.1 hi
  rw[h.reqs hw,cC]at h1
  obtain⟨p,hp⟩:=KR h1
  exact⟨p,hp,(ot hp).1,(ot hp).2,QK h2⟩
 refine⟨fun i=>(aM (pl++rest) i).getD bV,fun i hi=>?_,fun i hi j hj eo=>?_⟩
 ·obtain⟨p,hp,hm,hr,gU⟩:=cd i hi
  show(aM (pl++rest) i).getD bV∈_∧∀q∈pl,dE w ((aM (pl++rest) i).getD bV) q=false
  rw[hp,kQ]
  refine⟨by rw[←hr];exact(h.mem p hm).2.2,fun q hq=>?_⟩
  exact h.sep hw hm (pF _ hq) (by rw[hr];exact fun e=>gU q hq (sR e))
 ·obtain⟨p,hp,hm,hr,_⟩:=cd i hi
  obtain⟨q,hq,gS,gA,_⟩:=cd j hj
  show dE w ((aM (pl++rest) i).getD bV) ((aM (pl++rest) j).getD bV)=false
  rw[hp,hq,kQ,kQ]
  exact h.sep hw hm gS (by rw[hr,gA];exact eo)
end
section
variable{w:W}
theorem aqB {all:List (Sl P×Bool)} {m:Nat}:∀{k:Nat},(∀c∈all,c.2=true)→tQ m k all=true:=by
 induction all with
 |nil=>intro k _;rfl
 |cons c r ih=>
  intro k h
  simp only[tQ]
  rw[h c (by simp),xJ,iq]
  exact ih fun x hx=>h x (jf _ hx)
theorem aqA {m:Nat}:pt (dG w) m=true:=by
 unfold pt
 refine aqB fun c hc=>?_
 unfold dG rM at hc
 obtain⟨i,_,rfl⟩:=cC.1 hc
 rfl
theorem Rs:∀{N:Nat},(∀m,m∈(dm w (dG w) N).2↔m<N∧gO w (dG w) [] m=true∧jc w m=(dm w (dG w) N).1)∧(∀m,m<N→gO w (dG w) [] m=true→jc w m≤(dm w (dG w) N).1)
 |0=>⟨fun m=>by simp[dm],fun m h=>by omega⟩
 | N + 1 => by
  obtain⟨h1,h2⟩:=Rs (N:=N)
  rw[B5]
  unfold sN
  rw[aqA,iq]
  cases hf:gO w (dG w) [] N with
  | false =>
   rw[nI,aq (by decide)]
   refine⟨fun m=>?_,fun m hm lg=>?_⟩
   ·rw[h1]
    constructor
    ·rintro⟨a,b,c⟩;exact⟨by omega,b,c⟩
    ·rintro⟨a,b,c⟩
     have:m≠N:=by intro e;rw[e,hf]at b;exact absurd b (by decide)
     exact⟨by omega,b,c⟩
   ·have:m≠N:=by intro e;rw[e,hf]at lg;exact absurd lg (by decide)
    exact h2 m (by omega) lg
  | true =>
   rw[sQ]
   by_cases hle:(dm w (dG w) N).1≤jc w N
   ·rw [ak (by simpa using hle)]
    by_cases aC:(dm w (dG w) N).1<jc w N
    ·rw[ak aC]
     refine⟨fun m=>?_,fun m hm lg=>?_⟩
     ·simp only[eJ]
      constructor
      ·rintro rfl;exact⟨by omega,hf,rfl⟩
      ·rintro⟨a,b,c⟩
       apply qh
       intro aB
       have:=h2 m (by omega) b
       omega
     ·show jc w m≤jc w N
      by_cases e:m=N
      ·rw[e];exact zL _
      ·have:=h2 m (by omega) lg;omega
    ·rw[aq aC]
     refine⟨fun m=>?_,fun m hm lg=>?_⟩
     ·simp only[dD,eJ]
      rw[h1]
      constructor
      ·rintro(⟨a,b,c⟩|rfl)
       ·exact⟨by omega,b,c⟩
       ·exact⟨by omega,hf,by omega⟩
      ·rintro⟨a,b,c⟩
       by_cases e:m=N
       ·exact .inr e
       ·exact .inl ⟨by omega,b,c⟩
     ·show jc w m≤(dm w (dG w) N).1
      by_cases e:m=N
      ·rw[e];omega
      ·exact h2 m (by omega) lg
   ·rw[aq (by simpa using hle)]
    refine⟨fun m=>?_,fun m hm lg=>?_⟩
    ·rw[h1]
     constructor
     ·rintro⟨a,b,c⟩;exact⟨by omega,b,c⟩
     ·rintro⟨a,b,c⟩
      by_cases e:m=N
      ·subst e;omega
      ·exact⟨by omega,b,c⟩
    ·by_cases e:m=N
     ·subst e;omega
     ·exact h2 m (by omega) lg
def YP (w:W):Int:=(dm w (dG w) (2^w.rs.l.length)).1
def YO (w:W):List Nat:=(dm w (dG w) (2^w.rs.l.length)).2
theorem VP.le_max (hw:Wk w) {R:List P} (h:VP w R):bN w R≤YP w:=by
 have:=V9 hw (pl:=[]) (rest:=R) (by simpa using h)
 rw[kN]at this
 have h2:=(Rs (w:=w) (N:=2^w.rs.l.length)).2 (df R) h.q9 this
 rwa [h.val hw]at h2
theorem VP.Kt (hw:Wk w) {R:List P} (h:VP w R):df R∈YO w↔bN w R=YP w:=by
 have hf:=V9 hw (pl:=[]) (rest:=R) (by simpa using h)
 rw[kN]at hf
 rw[show YO w=(dm w (dG w) (2^w.rs.l.length)).2 from rfl,(Rs (w:=w) (N:=2^w.rs.l.length)).1]
 rw[h.val hw]
 exact⟨fun h=>h.2.2,fun hv=>⟨h.q9,hf,hv⟩⟩
end
section
variable{w:W}
theorem YX {all:List (Sl P×Bool)} {plan:List P} {own:Nat} {sets:List Nat} {q:P} {j:Nat} (hq:(all.getD j default).1.l.find? (l5 w all plan own sets j)=some q):
  ∀{n i:Nat},i≤j→j<i+n→(∀i',i≤i'→i'<j→(all.getD i' default).1.l.find? (l5 w all plan own sets i')=none)→mP w all plan own sets i n=some q
 |0,i,h1,h2,_=>by omega
 | n + 1, i, h1, h2, h3 => by
  simp only[mP]
  by_cases e:i=j
  ·subst e;rw[hq]
  ·rw[h3 i (aH _) (by omega)]
   exact YX hq (by omega) (by omega) fun i' a b=>h3 i' (by omega) b
theorem Up {m o i:Nat}:m&&&(2^(i+1)-1)=o|||2^i↔∀j,((m.testBit j&&decide (j<i+1))=(o.testBit j||decide (i=j))):=by
 constructor
 ·intro h j
  have:=hU (fun x=>Nat.testBit x j) h
  simp only[Nat.testBit_and,SF,Cs,LM]at this
  exact this
 ·intro h
  apply Nat.eq_of_testBit_eq
  intro j
  rw[Nat.testBit_and,SF,Cs,LM]
  exact h j
theorem AJ {p:P} {l:List P}:dL w p l=false↔∀q∈l,dE w q p=false:=by
 unfold dL
 rw[zM]
 constructor
 ·intro h q hq;simpa using h q hq
 ·intro h q hq;simpa using h q hq
end
section
variable{w:W}
def qd (w:W) (rq:List Int):Nat→Nat→List P→List (List P)
 |_,0,l=>[l]
 |i,k+1,l=>qd w rq (i+1) k l++if(rq.any fun x=>decide (x=(i:Int)))=true then(ct w l i).flatMap fun p=>qd w rq (i+1) k (l++[p])else[]
theorem VP.snoc (hw:Wk w) {l:List P} (h:VP w l) {i:Nat} (hi:∀p∈l,p.req<i) (bH:i<w.rs.l.length) {p:P} (hp:p∈ct w l i):VP w (l++[p])∧p.req=i:=by
 obtain⟨jE,hc⟩:=eS.1 hp
 have hc:dL w p l=false:=by simpa using hc
 obtain⟨dV,hr,_⟩:=nF hw (show(0:Int)≤(i:Int)by omega) (by omega) jE
 refine⟨⟨fun q hq=>?_,?_,?_⟩,hr⟩
 ·rw[dD,eJ]at hq
  rcases hq with hq|rfl
  ·exact h.mem q hq
  ·rw[hr];exact⟨by omega,by omega,jE⟩
 ·rw[jW]
  refine⟨h.kV,LB _ _,fun a ha b hb=>?_⟩
  rw[eJ]at hb;subst hb
  rw[hr];exact hi a ha
 ·rw[jW]
  refine⟨h.nc,LB _ _,fun a ha b hb=>?_⟩
  rw[eJ]at hb;subst hb
  exact AJ.1 hc a ha
theorem KX (hw:Wk w) {rq:List Int}:∀{k i:Nat} {l X:List P},i+k=w.rs.l.length→VP w l→(∀p∈l,p.req<i)→
  (X∈qd w rq i k l↔VP w X∧∃t,X=l++t∧∀p∈t,(i:Int)≤p.req∧p.req∈rq)
 | 0, i, l, X, hk, hl, hi => by
  simp only[qd,eJ]
  constructor
  ·rintro rfl;exact⟨hl,[],by simp,fun p hp=>absurd hp (by simp)⟩
  ·rintro⟨hX,t,rfl,ht⟩
   cases t with
   |nil=>simp
   |cons p t=>
    have h1:=(hX.mem p (by simp)).2.1
    have h2:=(ht p (by simp)).1
    omega
 | k + 1, i, l, X, hk, hl, hi => by
  simp only[qd,dD]
  rw[KX hw (k:=k) (i:=i+1) (by omega) hl fun p hp=>by have:=hi p hp;omega]
  constructor
  ·rintro(⟨hX,t,rfl,ht⟩|h)
   ·exact⟨hX,t,rfl,fun p hp=>⟨by have:=(ht p hp).1;omega,(ht p hp).2⟩⟩
   ·by_cases hr:(rq.any fun x=>decide (x=(i:Int)))=true
    ·rw[ak hr,List.mem_flatMap]at h
     obtain⟨p,hp,hX⟩:=h
     obtain⟨hv,sj⟩:=hl.snoc hw hi (by omega) hp
     rw[KX hw (k:=k) (i:=i+1) (by omega) hv fun q hq=>by
      rw[dD,eJ]at hq
      rcases hq with hq|rfl
      ·have:=hi q hq;omega
      ·omega]at hX
     obtain⟨hX,t,rfl,ht⟩:=hX
     refine⟨hX,p::t,by simp,fun q hq=>?_⟩
     rcases eB.1 hq with rfl|hq
     ·refine⟨by omega,?_⟩
      obtain⟨x,hx,he⟩:=fK.1 hr
      rw[sj,←KM he];exact hx
     ·exact⟨by have:=(ht q hq).1;omega,(ht q hq).2⟩
    ·rw[aq hr]at h;exact absurd h (by simp)
  ·rintro⟨hX,t,rfl,ht⟩
   by_cases hex:∃p t',t=p::t'∧p.req=i
   ·obtain⟨p,t',rfl,hp⟩:=hex
    right
    have hr:(rq.any fun x=>decide (x=(i:Int)))=true:=fK.2 ⟨p.req,(ht p (by simp)).2,by simp[hp]⟩
    rw[ak hr,List.mem_flatMap]
    have pY:=(hX.mem p (by simp)).2.2
    rw[hp]at pY
    have tH:p∈ct w l i:=eS.2 ⟨pY,by
     have:dL w p l=false:=AJ.2 fun a ha=>by
      have:=hX.nc
      rw[jW]at this
      exact this.2.2 a ha p (by simp)
     rw[this];rfl⟩
    obtain⟨hv,sj⟩:=hl.snoc hw hi (by omega) tH
    refine⟨p,tH,?_⟩
    rw[KX hw (k:=k) (i:=i+1) (by omega) hv fun q hq=>by
      rw[dD,eJ]at hq
      rcases hq with hq|rfl
      ·have:=hi q hq;omega
      ·omega]
    refine⟨hX,t',by simp,fun q hq=>⟨?_,(ht q (jf _ hq)).2⟩⟩
    have:=hX.kV
    rw[jW,uu]at this
    have:=this.2.1.1 q hq
    omega
   ·left
    refine⟨hX,t,rfl,fun p hp=>⟨?_,(ht p hp).2⟩⟩
    cases t with
    |nil=>exact absurd hp (by simp)
    | cons q t' =>
     have hq:=(ht q (by simp)).1
     have hqn:q.req≠i:=fun e=>hex ⟨q,t',rfl,e⟩
     rcases eB.1 hp with rfl|hp
     ·omega
     ·have:=hX.kV
      rw[jW,uu]at this
      have:=this.2.1.1 p hp
      omega
theorem ac3 {y:List P}:∀{a b:List P},a.map kP=b.map kP→cB y a=cB y b:=by
 induction y with
 | nil =>
  intro a b h
  cases a with
  |nil=>cases b with
   |nil=>rfl
   |cons _ _=>simp at h
  |cons _ _=>cases b with
   |nil=>simp at h
   |cons _ _=>rfl
 | cons x r ih =>
  intro a b h
  cases a with
  |nil=>cases b with
   |nil=>rfl
   |cons _ _=>simp at h
  | cons u a => cases b with
   |nil=>simp at h
   |cons v b=>
    rw[iM,iM,vM]at h
    simp only[cB]
    rw[h.1,ih h.2]
def better (w:W) (a b:List P):Bool:=decide (bN w b<bN w a)||(decide (bN w a=bN w b)&&cB a b)
def kW (w:W) (b:List P) (l:List (List P)):List P:=l.foldl (fun b x=>if better w x b=true then x else b) b
theorem Nr:∀{l:List (List P)} {b:List P},(kW w b l=b∨kW w b l∈l)∧bN w b≤bN w (kW w b l)∧(∀x∈l,bN w x≤bN w (kW w b l))∧
  (bN w b=bN w (kW w b l)→cB b (kW w b l)=false)∧(∀x∈l,bN w x=bN w (kW w b l)→cB x (kW w b l)=false)
 |[],b=>⟨.inl rfl,zL _,fun x hx=>absurd hx (by simp),fun _=>Nn,fun x hx=>absurd hx (by simp)⟩
 | x :: r, b => by
  have e:kW w b (x::r)=kW w (if better w x b=true then x else b) r:=rfl
  rw[e]
  by_cases hb:better w x b=true
  ·rw[ak hb]
   obtain⟨h1,h2,h3,h4,h5⟩:=Nr (l:=r) (b:=x)
   have sx:bN w b≤bN w x∧(bN w b=bN w x→cB x b=true):=by
    unfold better at hb
    rw[ug,dB,dY,dY]at hb
    rcases hb with hb|⟨hb,jA⟩
    ·exact⟨by omega,fun h=>by omega⟩
    ·exact⟨by omega,fun _=>jA⟩
   refine⟨?_,by omega,fun y hy=>?_,fun hv=>?_,fun y hy hv=>?_⟩
   ·rcases h1 with h1|h1
    ·right;rw[h1];simp
    ·right;exact jf _ h1
   ·rcases eB.1 hy with rfl|hy
    ·exact h2
    ·exact h3 y hy
   ·have hx:=h4 (by omega)
    have di:=sx.2 (by omega)
    cases hc:cB b (kW w x r)with
    |false=>rfl
    |true=>rw[DB di hc]at hx;exact absurd hx (by decide)
   ·rcases eB.1 hy with rfl|hy
    ·exact h4 hv
    ·exact h5 y hy hv
  ·rw [aq hb]
   obtain⟨h1,h2,h3,h4,h5⟩:=Nr (l:=r) (b:=b)
   have sx:bN w x≤bN w b∧(bN w x=bN w b→cB x b=false):=by
    unfold better at hb
    rw[ug,dB,dY,dY,not_or]at hb
    refine⟨by omega,fun hv=>?_⟩
    cases hc:cB x b with
    |false=>rfl
    |true=>exact absurd ⟨hv,hc⟩ hb.2
   refine⟨?_,h2,fun y hy=>?_,h4,fun y hy hv=>?_⟩
   ·rcases h1 with h1|h1
    ·exact .inl h1
    ·right;exact jf _ h1
   ·rcases eB.1 hy with rfl|hy
    ·omega
    ·exact h3 y hy
   ·rcases eB.1 hy with rfl|hy
    ·have hx:=sx.2 (by omega)
     have jA:=h4 (by omega)
     cases hc:cB y (kW w b r)with
     |false=>rfl
     | true =>
      cases WS:cB (kW w b r) b with
      |true=>rw[DB hc WS]at hx;exact absurd hx (by decide)
      |false=>
       have hk:=Np jA WS
       rw[ac3 (sR hk),hx]at hc
       exact absurd hc (by decide)
    ·exact h5 y hy hv
end
section
variable{s:ae} {w:W}
theorem ZS (hs:Ok s) (hw:w.Ok) (hf:w.kn):aw AP (.fn 7) [w.v] s=some (I (jb w),s):=by
 have jR:∀r,aw AP (.fn 24) [w.v] (s.push r)=some (I (dp w).2.2,s.push r):=fun r=>ZT (hs.push r) hw hf
 simp only[W.v,c8,Sl.v]at jR
 unfold jb
 by_cases h0:(dp w).2.2=0
 ·rw [ak h0]
  have cz:Wk w:=⟨hw,hf,rm h0⟩
  have er:=cz.v.rl
  have h6:decide ((6:Int)<(w.rs.l.length:Int))=!decide (w.rs.l.length≤6):=nT (by omega)
  have key:∀(k:Nat) ρ m,k≤w.rs.l.length→(ρ 1=.ptr s.ag.length 0 0∧ρ 4=I k∧∃bx,m=s.push ⟨c8 w::bx,[]⟩)→
    go AP afF (.c (.loop C3)::am0) ⟨ρ,m⟩=some (I (cond ((w.rs.l.drop k).any fun r=>decide (8<r.hi-r.lo+2-r.len)) 8 0),s):=by
   refine ck _ _ _ ?_ ?_
   ·rintro k ρ m hk ⟨g1,g4,bx,rfl⟩ ih
    obtain⟨q,hq⟩:=get_some hk
    have cr:=Sl.ix (f:=bU) hw.rs hq
    have zg:=cz.v.r q (bQ hq)
    have a1:=zg.qW
    have a2:=zg.bH
    have a3:=zg.BI
    have a4:=zg.p9
    have a5:=zg.pn
    have a6:=cz.v.n2
    have w1:IntKind.i64.wrap (IntKind.i64.wrap (IntKind.i64.wrap (IntKind.i64.wrap (q.hi-q.lo)+1)-q.len)+1)=q.hi-q.lo+2-q.len:=by
     rw[bW (x:=q.hi-q.lo) (by omega) (by omega),bW (x:=q.hi-q.lo+1) (by omega) (by omega),bW (x:=q.hi-q.lo+1-q.len) (by omega) (by omega),bW (by omega) (by omega)];omega
    simp only[bU,Sl.v]at cr
    rw[eP hq,oz]
    cases hd:decide (8<q.hi-q.lo+2-q.len)with
    |true=>simp(maxSteps:=1000000) only[go_sem,C3,g1,g4,hs,aS hk,cr,w1,hd,xJ,Nat.reduceEqDiff,Nat.reduceAdd,↓reduceIte]
    |false=>
     simp(maxSteps:=1000000) only[go_sem,C3,g1,g4,hs,aS hk,cr,w1,hd,bK hk (show(w.rs.l.length:Int)<_ by omega),Nat.reduceEqDiff,Nat.reduceAdd,↓reduceIte]
     rw[mV]
     refine ih _ _ ?_
     exact⟨g1,rfl,_,rfl⟩
   ·rintro ρ m ⟨g1,g4,bx,rfl⟩
    simp(maxSteps:=1000000) only[go_sem,C3,MA,g1,g4,bM,Nat.reduceEqDiff,Nat.reduceAdd,↓reduceIte]
    rw[eR];rfl
  rw[aL (show AP 7=some Ao from rfl) rfl]
  unfold zI
  cases hd:decide (w.rs.l.length≤6)with
  |false=>simp(maxSteps:=1000000) only[go_sem,Ik,jR,h0,h6,hd,aY,eA,mW,jL,Nat.reduceEqDiff,Nat.reduceAdd,↓reduceIte]
  | true =>
   simp(maxSteps:=1000000) only[go_sem,Ik,jR,h0,h6,hd,aY,eA,kL,Nat.reduceEqDiff,Nat.reduceAdd,↓reduceIte]
   refine ui (key 0 _ _ (bg _) ?_) ?_
   ·exact⟨rfl,rfl,[],rfl⟩
   ·rw[kt]
    cases(w.rs.l.any fun r=>decide (8<r.hi-r.lo+2-r.len))<;>rfl
 ·rw[aq h0]
  rw[aL (show AP 7=some Ao from rfl) rfl]
  simp(maxSteps:=1000000) only[go_sem,Ik,jR,h0,aY,ig,Nat.reduceEqDiff,Nat.reduceAdd,↓reduceIte]
end
section
variable{s:ae} {w:W}
end
section
variable{s:ae} {w:W}
def Ce (w:W) (most:Int):Nat→Nat→Int→Int
 |_,0,n=>n
 |i,k+1,n=>if n≤most then Ce w most (i+1) k (n*(1+(dS w (i:Int)).length))else n
theorem arv (hs:Ok s) (hw:Wk w):aw AP (.fn 23) [w.v,I 2000] s=some (I (Ce w 2000 0 w.rs.l.length 1),s):=by
 have er:=hw.v.rl
 have key:∀(k:Nat) (i:Nat) (n:Int) ρ m,i+k=w.rs.l.length→(ρ 1=I 2000∧ρ 2=.ptr s.ag.length 0 0∧ρ 5=I n∧ρ 6=I i∧1≤n∧m=s.push ⟨[c8 w],[]⟩)→
   go AP afG (.c (.loop C4)::am1) ⟨ρ,m⟩=some (I (Ce w 2000 i k n),s):=by
  intro k
  induction k with
  |zero=>
   rintro i n ρ m hk ⟨g1,g2,g5,g6,hn,rfl⟩
   have hi:i=w.rs.l.length:=by omega
   subst hi
   rw[go_loop]
   simp only[go_sem,C4,Il,g2,g5,g6,bM,simprocAttr]
   rfl
  | succ k ih =>
   rintro i n ρ m hk ⟨g1,g2,g5,g6,hn,rfl⟩
   have r8:=BT hw (i:=(i:Int)) (by omega) (by omega)
   have dI:∀r,aw AP (.fn 49) [w.v,I i] (s.push r)=some (bG 3 (((dS w i).map (zG (w.rq i).need.toNat)).map aj),s.push r):=fun r=>arp (hs.push r) hw (by omega) (by omega)
   have w5:mN false (bG 3 (((dS w i).map (zG (w.rq i).need.toNat)).map aj))=some (I (dS w i).length):=by rw[Qi,bY,bY]
   simp only[W.v,c8,Sl.v]at dI
   rw[go_loop]
   simp only[Ce]
   by_cases hle:n≤2000
   ·rw[ak hle]
    have hb:n*(1+((dS w i).length:Int))≤2000*13001:=by
     refine Int.le_trans (RZ hle (by omega)) ?_
     omega
    have jz:1≤n*(1+((dS w i).length:Int)):=by
     have:=Int.mul_pos (show(0:Int)<n by omega) (show(0:Int)<1+((dS w i).length:Int)by omega)
     omega
    have w1:IntKind.i64.wrap (1+((dS w i).length:Int))=1+((dS w i).length:Int):=bW (by omega) (by omega)
    have w2:IntKind.i64.wrap (n*(1+((dS w i).length:Int)))=n*(1+((dS w i).length:Int)):=bW (by omega) (by omega)
    have d1:decide ((i:Int)<(w.rs.l.length:Int))=true:=by simp;omega
    have d2:decide (n≤2000)=true:=by simpa using hle
    have w3:IntKind.i64.wrap ((i:Int)+1)=((i+1:Nat):Int):=by rw[bW (by omega) (by omega)];omega
    simp only[go_sem,C4,g1,g2,g5,g6,d1,d2,dI,w5,w1,w2,w3,simprocAttr]
    refine ih (i+1) _ _ _ (by omega) ?_
    exact⟨g1,g2,rfl,rfl,jz,rfl⟩
   ·rw[aq hle]
    have d1:decide ((i:Int)<(w.rs.l.length:Int))=true:=by simp;omega
    have d2:decide (n≤2000)=false:=by simp;omega
    simp only[go_sem,C4,Il,g1,g2,g5,g6,d1,d2,simprocAttr]
 rw[aL (show AP 23=some D6 from rfl) rfl]
 simp only[go_sem,TA,simprocAttr]
 refine key w.rs.l.length 0 1 _ _ (by omega) ?_
 exact⟨rfl,rfl,rfl,rfl,by omega,rfl⟩
end
section
variable{s:ae} {w:W}
def GH (w:W):Bool:=yC w&&(decide (¬jb w=0)||decide (Ce w 2000 0 w.rs.l.length 1≤2000))
theorem Rx {w:W} (h:jb w=0):(dp w).2.2=0:=by
 unfold jb at h
 by_cases h0:(dp w).2.2=0
 ·exact h0
 ·rw[aq h0]at h;exact h
theorem anR (hs:Ok s) (hw:w.Ok) (hb:w.Hh):aw AP (.fn 5) [w.v] s=some (B (GH w),s):=by
 have mH:∀r,aw AP (.fn 22) [w.v] (s.push r)=some (B (yC w),s.push r):=fun r=>anQ (hs.push r) hw hb
 simp only[W.v,c8,Sl.v]at mH
 unfold GH
 cases hf:yC w with
 |false=>
  rw[aL (show AP 5=some yo from rfl) rfl]
  simp(maxSteps:=1000000) only[go_sem,Ib,mH,hf,jL,Nat.reduceEqDiff,Nat.reduceAdd,↓reduceIte]
 | true =>
  have hF:=VV hf
  have mM:∀r,aw AP (.fn 7) [w.v] (s.push r)=some (I (jb w),s.push r):=fun r=>ZS (hs.push r) hw hF
  simp only[W.v,c8,Sl.v]at mM
  by_cases h0:jb w=0
  ·have cz:Wk w:=⟨hw,hF,rm (Rx h0)⟩
   have nD:∀r,aw AP (.fn 23) [w.v,I 2000] (s.push r)=some (I (Ce w 2000 0 w.rs.l.length 1),s.push r):=fun r=>arv (hs.push r) cz
   simp only[W.v,c8,Sl.v]at nD
   rw[h0]at mM
   rw[aL (show AP 5=some yo from rfl) rfl]
   simp(maxSteps:=1000000) only[go_sem,Ib,mH,hf,mM,nD,h0,aY,eA,iq,mV,qs,Nat.reduceEqDiff,Nat.reduceAdd,↓reduceIte]
  ·have hd:decide (¬jb w=0)=true:=by simp[h0]
   rw[aL (show AP 5=some yo from rfl) rfl]
   simp(maxSteps:=1000000) only[go_sem,Ib,mH,hf,mM,hd,aY,iq,xJ,Nat.reduceEqDiff,Nat.reduceAdd,↓reduceIte]
end
section
variable{s:ae} {w:W}
def AG (d es:Nat) (xs:List (List AV)) (x:AV) (tk:List (Option Nat)):Prop:=
 x=.slice .full es xs∨∃g,x=.slice (.tok d g) es xs∧tk[g]? =some (some xs.length)
theorem AG.sl {d es:Nat} {xs:List (List AV)} {x:AV} {tk:List (Option Nat)} (h:AG d es xs x tk):∃o,x=.slice o es xs:=by
 rcases h with h|⟨g,h,_⟩
 ·exact⟨_,h⟩
 ·exact⟨_,h⟩
theorem AG.ext {d es:Nat} {xs:List (List AV)} {x:AV} {tk tk':List (Option Nat)} (h:AG d es xs x tk) (hx:∀(g:Nat) (n:Option Nat),tk[g]? =some n→tk'[g]? =some n):AG d es xs x tk':=by
 rcases h with h|⟨g,h,hg⟩
 ·exact .inl h
 ·exact .inr ⟨g,h,hx _ _ hg⟩
theorem AG.append {es:Nat} {xs:List (List AV)} {x:AV} {tk:List (Option Nat)} (h:AG s.ag.length es xs x tk) (hs:Ok s) (o:Own) {ys:List (List AV)} (hy:ys≠[]) (hl:xs.length+ys.length≤4294967296):
  ∃x' tk',(∀bx,eD (s.push ⟨bx,tk⟩) es x (.slice o es ys)=some (x',s.push ⟨bx,tk'⟩))∧AG s.ag.length es (xs++ys) x' tk':=by
 have sy:ys.isEmpty=false:=by cases ys<;>simp_all
 rcases h with rfl|⟨g,rfl,hg⟩
 ·refine⟨.slice (.tok s.ag.length tk.length) es (xs++ys),tk++[some (xs.length+ys.length)],fun bx=>?_,.inr ⟨tk.length,rfl,by simp⟩⟩
  simp[eD,sy,Own.isNil,most,hl,qb,oE,fD]
 ·refine⟨.slice (.tok s.ag.length g) es (xs++ys),tk.set g (some (xs.length+ys.length)),fun bx=>?_,.inr ⟨g,rfl,?_⟩⟩
  ·simp[eD,sy,most,hl,Ca,hg,Q8,hs.ro,K5]
  ·rw[mj (bd.1 hg).1];simp
end
section
variable{s:ae} {w:W}
theorem U7 {p:P}:∀{l:List P},dL w p (l.map cP)=dL w p l
 |[]=>rfl
 |x::r=>by
  have h:=U7 (p:=p) (l:=r)
  unfold dL at*
  rw[iM,oz,oz,h];rfl
theorem aqI {l:List P} {i:Int}:ct w (l.map cP) i=ct w l i:=by
 unfold ct
 simp only[U7]
structure SL (w:W) (y:Sl P):Prop where
 ok:y.ok 3
 pl:gG y.l
 iW:∀p∈y.l,ch w p
theorem aqk {Q:ae} {R:Rec} {es:Nat} {xs:List (List AV)}:kg (Q.push R) (.slice .full es xs)=some (.slice .full es xs,Q):=by
 show some (_,(Q.push R).pop)=_
 rw[pop_push]
theorem AG.own {Q:ae} {bx:List (List AV)} {tk:List (Option Nat)} {B:List (List AV)} {es:Nat} {xs:List (List AV)} {x:AV} {vD:List (Option Nat)} (hQ:Ok Q) (h:AG (Q.ag.length+1) es xs x vD):
  ∃x' tk',kg ((Q.push ⟨bx,tk⟩).push ⟨B,vD⟩) x=some (x',Q.push ⟨bx,tk'⟩)∧AG Q.ag.length es xs x' tk'∧(∀(g:Nat) (n:Option Nat),tk[g]? =some n→tk'[g]? =some n):=by
 rcases h with rfl|⟨g,rfl,hg⟩
 ·exact⟨_,_,aqk,.inl rfl,fun _ _ h=>h⟩
 ·refine⟨_,_,KQ hQ (R:=⟨bx,tk⟩) (r0:=⟨B,vD⟩) hg,.inr ⟨tk.length,rfl,by simp⟩,fun g n h=>?_⟩
  rw[dC (bd.1 h).1];exact h
end
section
variable{s:ae} {w:W}
theorem SL.sm {y:Sl P} (h:SL w y):HM y.l:=⟨by have:=h.pl.len;omega,fun p hp=>⟨(h.pl.ok p hp).1,by have:=(h.pl.ok p hp).2;omega⟩⟩
abbrev eH (n:Nat):List Int:=(List.range n).map fun i:Nat=>(i:Int)
theorem Wk.c (hw:Wk w) (h0:(dp w).2.2=0):Wk (cW w):=⟨Nx,Nw hw.rL,rm (by rw[RI];exact h0)⟩
theorem QO (hw:Wk w) {rq:List Int}:∀{k i:Nat} {l:List P},i+k=w.rs.l.length→(∀x∈l,0≤x.req∧x.req<w.rs.l.length)→qd (cW w) rq i k l=qd w rq i k l
 |0,_,_,_,_=>rfl
 | k + 1, i, l, hk, hl => by
  simp only[qd]
  rw[QO hw (k:=k) (i:=i+1) (by omega) hl,←aqI (w:=cW w),aqH hw (by omega) (by omega) hl]
  congr 1
  split
  ·have:∀L:List P,(∀p∈L,p∈ct w l (i:Int))→(L.flatMap fun p=>qd (cW w) rq (i+1) k (l++[p]))=L.flatMap fun p=>qd w rq (i+1) k (l++[p]):=by
    intro L
    induction L with
    |nil=>intro _;rfl
    | cons a L ih =>
     intro h
     have ha:=h a (by simp)
     obtain⟨dV,_⟩:=nF hw (show(0:Int)≤(i:Int)by omega) (by omega) (eS.1 ha).1
     rw[Hq,Hq,ih fun p hp=>h p (jf _ hp),QO hw (k:=k) (i:=i+1) (by omega) fun x hx=>by
      rw[dD,eJ]at hx
      rcases hx with hx|rfl
      ·exact hl x hx
      ·exact⟨dV.r0,dV.r1⟩]
   exact this _ fun _ h=>h
  ·rfl
theorem asU:jb (cW w)=jb w:=by
 unfold jb
 rw[RI]
 have:zI (cW w)=zI w:=by
  unfold zI
  rw[ym,wq,Hm];rfl
 rw[this]
end
section
variable{w:W} {all:List (Sl P×Bool)}
def cL (all:List (Sl P×Bool)) (i:Int):List P:=(all.getD i.toNat default).1.l
def cO (all:List (Sl P×Bool)) (i:Nat):Bool:=(all.getD i default).2
structure CA (w:W) (all:List (Sl P×Bool)):Prop where
 len:all.length=w.rs.l.length
 iW:∀i:Int,0≤i→i<w.rs.l.length→∀p∈cL all i,ch w p∧p.req=i
 srt:∀i:Int,0≤i→i<w.rs.l.length→(cL all i).Pairwise fun a b=>lexB (kP a) (kP b)=true
theorem V8 (hw:Wk w) (hA:CA w all) {pl:List P} {m:Nat} (hm:m<2^w.rs.l.length):
  gO w all pl m=true↔∃f:Int→P,(∀i∈ij pl m,f i∈cL all i∧∀p∈pl,dE w (f i) p=false)∧(∀i∈ij pl m,∀j∈ij pl m,i≠j→dE w (f i) (f j)=false):=by
 have er:=hw.v.rl
 have qJ:m<2^62:=mZ hm (jh (by decide) (by omega))
 have bH:∀i∈ij pl m,0≤i∧i<w.rs.l.length:=by
  intro i hi
  obtain⟨h0,h1⟩:=(zu qJ).1 (eS.1 hi).1
  refine⟨h0,?_⟩
  apply qh
  intro h
  have:m<2^i.toNat:=mZ hm (jh (by decide) (by omega))
  rw[HJ this]at h1
  exact absurd h1 (by decide)
 have pT:(ij pl m).Pairwise (· <·):=Cj _ BL
 have O5:(l6 w all pl (de m)).map (·.l)=(ij pl m).map fun i=>(ju w pl (all.getD i.toNat default).1).l:=by
  unfold l6 ij
  rw[vO];rfl
 unfold gO
 rw[O5]
 have dR:∀i∈ij pl m,∀q,q∈(ju w pl (all.getD i.toNat default).1).l↔q∈cL all i∧∀p∈pl,dE w q p=false:=by
  intro i hi q
  obtain⟨h0,h1⟩:=bH i hi
  exact RM
 generalize ij pl m=L at*
 have hP:∀x∈L.map (fun i=>(ju w pl (all.getD i.toNat default).1).l),∀p∈x,ch w p:=by
  intro x hx p hp
  obtain⟨i,hi,rfl⟩:=cC.1 hx
  obtain⟨h0,h1⟩:=bH i hi
  exact(hA.iW i h0 h1 p ((dR i hi p).1 hp).1).1
 rw[V5 hw hP]
 constructor
 ·rintro⟨c,dT,gg⟩
  refine⟨fun i=>c (L.idxOf i),fun i hi=>?_,fun i hi j hj eo=>?_⟩
  ·have hk:L[L.idxOf i]? =some i:=by
    rw[cM (uq.2 hi),Cl]
   have:=dT (L.idxOf i) _ (by rw[je,hk];rfl)
   exact(dR i hi _).1 this
  ·refine gg _ _ ?_ ?_ ?_
   ·rw[bY];exact uq.2 hi
   ·rw[bY];exact uq.2 hj
   ·intro e
    apply eo
    have h1:L[L.idxOf i]? =some i:=by rw[cM (uq.2 hi),Cl]
    have h2:L[L.idxOf j]? =some j:=by rw[cM (uq.2 hj),Cl]
    rw[e,h2]at h1;injection h1 with h1;exact sR h1
 ·rintro⟨f,jP,gK⟩
  refine⟨fun k=>f (L.getD k 0),fun k x hx=>?_,fun j k hj hk u3=>?_⟩
  ·rw[je]at hx
   obtain⟨i,hi,rfl⟩:=aU.1 hx
   have gS:=bQ hi
   show f (L.getD k 0)∈_
   have e0:L.getD k 0=i:=by rw[List.getD,hi];rfl
   rw[e0]
   exact(dR i gS _).2 (jP i gS)
  ·rw[bY]at hj hk
   obtain⟨a,ha⟩:=get_some hj
   obtain⟨b,hb⟩:=get_some hk
   show dE w (f (L.getD j 0)) (f (L.getD k 0))=false
   rw[List.getD,List.getD,ha,hb,kQ,kQ]
   refine gK a (bQ ha) b (bQ hb) ?_
   intro e
   subst e
   have lU:=Cn.1 pT
   obtain⟨_,ea⟩:=bd.1 ha
   obtain⟨_,eb⟩:=bd.1 hb
   rcases Sz u3 with h|h
   ·have:=lU j k hj hk h;omega
   ·have:=lU k j hk hj h;omega
structure VC (w:W) (all:List (Sl P×Bool)) (R:List P):Prop where
 mem:∀p∈R,0≤p.req∧p.req<w.rs.l.length∧p∈cL all p.req
 kV:R.Pairwise fun a b=>a.req<b.req
 nc:R.Pairwise fun a b=>dE w a b=false
theorem VC.nil:VC w all []:=⟨fun _ h=>absurd h (by simp),List.Pairwise.nil,List.Pairwise.nil⟩
theorem VC.iW (hA:CA w all) {R:List P} (h:VC w all R):∀p∈R,ch w p:=fun p hp=>by
 obtain⟨h0,h1,h2⟩:=h.mem p hp
 exact(hA.iW _ h0 h1 p h2).1
theorem VC.pre {a b:List P} (h:VC w all (a++b)):VC w all a:=
 ⟨fun p hp=>h.mem p (pF _ hp),(jW.1 h.kV).1,(jW.1 h.nc).1⟩
theorem VC.q9 {R:List P} (h:VC w all R):df R<2^w.rs.l.length:=Zt fun p hp=>by have:=(h.mem p hp).1;have:=(h.mem p hp).2.1;omega
theorem VC.reqs (hw:Wk w) {R:List P} (h:VC w all R):de (df R)=R.map (·.req):=by
 have er:=hw.v.rl
 have aC:df R<2^62:=mZ h.q9 (jh (by decide) (by omega))
 refine z6 BL (by rw[ru];exact h.kV) fun x=>?_
 rw[zu aC,tP,fK]
 simp only[cC,dY]
 constructor
 ·rintro⟨h0,p,hp,he⟩
  have:=(h.mem p hp).1
  exact⟨p,hp,by omega⟩
 ·rintro⟨p,hp,rfl⟩
  exact⟨(h.mem p hp).1,p,hp,rfl⟩
theorem VC.val (hw:Wk w) {R:List P} (h:VC w all R):jc w (df R)=bN w R:=by
 unfold jc
 rw[h.reqs hw,RB]
theorem VC.sep (hw:Wk w) (hA:CA w all) {R:List P} (h:VC w all R) {p q:P} (hp:p∈R) (hq:q∈R) (aB:p.req≠q.req):dE w p q=false:=by
 obtain⟨i,hi⟩:=mY hp
 obtain⟨j,hj⟩:=mY hq
 obtain⟨sf,wX⟩:=bd.1 hi
 obtain⟨gR,wY⟩:=bd.1 hj
 have lU:=Cn.1 h.nc
 rcases LI i j with eo|eo|eo
 ·have:=lU i j sf gR eo
  rwa [wX,wY]at this
 ·subst eo
  rw[hi]at hj;injection hj with hj
  exact absurd (by rw[hj]) aB
 ·have:=lU j i gR sf eo
  rw[wX,wY]at this
  rw[Fi hw (h.iW hA p hp) (h.iW hA q hq)];exact this
theorem Wa (hw:Wk w) (hA:CA w all) {pl rest:List P} (h:VC w all (pl++rest)):gO w all pl (df (pl++rest))=true:=by
 have er:=hw.v.rl
 rw[V8 hw hA h.q9]
 have cd:∀i∈ij pl (df (pl++rest)),∃p,aM (pl++rest) i=some p∧p∈pl++rest∧p.req=i∧∀q∈pl,q.req≠i:=by
  intro i hi
  obtain⟨h1,h2⟩:=eS.1 hi
  rw[h.reqs hw,cC]at h1
  obtain⟨p,hp⟩:=KR h1
  exact⟨p,hp,(ot hp).1,(ot hp).2,QK h2⟩
 refine⟨fun i=>(aM (pl++rest) i).getD bV,fun i hi=>?_,fun i hi j hj eo=>?_⟩
 ·obtain⟨p,hp,hm,hr,gU⟩:=cd i hi
  show(aM (pl++rest) i).getD bV∈_∧∀q∈pl,dE w ((aM (pl++rest) i).getD bV) q=false
  rw[hp,kQ]
  refine⟨by rw[←hr];exact(h.mem p hm).2.2,fun q hq=>?_⟩
  exact h.sep hw hA hm (pF _ hq) (by rw[hr];exact fun e=>gU q hq (sR e))
 ·obtain⟨p,hp,hm,hr,_⟩:=cd i hi
  obtain⟨q,hq,gS,gA,_⟩:=cd j hj
  show dE w ((aM (pl++rest) i).getD bV) ((aM (pl++rest) j).getD bV)=false
  rw[hp,hq,kQ,kQ]
  exact h.sep hw hA hm gS (by rw[hr,gA];exact eo)
theorem ZF (hw:Wk w) (hA:CA w all) {pl:List P} {m k:Nat} (h:VC w all pl) (hk:∀p∈pl,p.req<k) (hm:m<2^w.rs.l.length) (J3:∀i,i<k→m.testBit i=(df pl).testBit i) (hf:gO w all pl m=true):
  ∃rest,VC w all (pl++rest)∧df (pl++rest)=m∧∀p∈rest,(k:Int)≤p.req:=by
 have er:=hw.v.rl
 have qJ:m<2^62:=mZ hm (jh (by decide) (by omega))
 obtain⟨f,jP,gK⟩:=(V8 hw hA hm).1 hf
 have cd:∀i∈ij pl m,0≤i∧i<w.rs.l.length∧m.testBit i.toNat=true∧(k:Int)≤i∧∀q∈pl,q.req≠i:=by
  intro i hi
  obtain⟨h1,h2⟩:=eS.1 hi
  obtain⟨h3,h4⟩:=(zu qJ).1 h1
  have gU:=QK h2
  refine⟨h3,(BM hm h1).2,h4,?_,gU⟩
  apply qh
  intro aC
  rw[J3 i.toNat (by omega),tP,fK]at h4
  obtain⟨p,hp,he⟩:=h4
  have:=(h.mem p hp).1
  exact gU p hp (by simp at he;omega)
 have pT:(ij pl m).Pairwise (· <·):=Cj _ BL
 have qM:∀i∈ij pl m,(f i).req=i:=fun i hi=>by
  obtain⟨h0,h1,_⟩:=cd i hi
  exact(hA.iW i h0 h1 _ (jP i hi).1).2
 have dV:∀i∈ij pl m,ch w (f i):=fun i hi=>by
  obtain⟨h0,h1,_⟩:=cd i hi
  exact(hA.iW i h0 h1 _ (jP i hi).1).1
 have hR:VC w all (pl++(ij pl m).map f):=by
  refine⟨fun p hp=>?_,?_,?_⟩
  ·rcases dD.1 hp with hp|hp
   ·exact h.mem p hp
   ·obtain⟨i,hi,rfl⟩:=cC.1 hp
    obtain⟨h0,h1,_⟩:=cd i hi
    rw[qM i hi]
    exact⟨h0,h1,(jP i hi).1⟩
  ·rw[jW]
   refine⟨h.kV,?_,fun a ha b hb=>?_⟩
   ·rw[ru]
    refine pT.imp_of_mem fun{a b} ha hb gJ=>?_
    rw[qM a ha,qM b hb];exact gJ
   ·obtain⟨i,hi,rfl⟩:=cC.1 hb
    have:=hk a ha
    have:=(cd i hi).2.2.2.1
    rw[qM i hi];omega
  ·rw[jW]
   refine⟨h.nc,?_,fun a ha b hb=>?_⟩
   ·rw[ru]
    refine pT.imp_of_mem fun{a b} ha hb gJ=>?_
    exact gK a ha b hb (by omega)
   ·obtain⟨i,hi,rfl⟩:=cC.1 hb
    rw[Fi hw (h.iW hA a ha) (dV i hi)]
    exact(jP i hi).2 a ha
 refine⟨(ij pl m).map f,hR,?_,fun p hp=>?_⟩
 ·apply Nat.eq_of_testBit_eq
  intro i
  rw[tP,vL,vI,ug,fK,fK]
  constructor
  ·rintro(⟨p,hp,he⟩|⟨p,hp,he⟩)
   ·have h0:=(h.mem p hp).1
    have h1:=hk p hp
    have j6:p.req.toNat=i:=by simpa using he
    rw[J3 i (by omega),tP,fK]
    exact⟨p,hp,he⟩
   ·obtain⟨j,hj,rfl⟩:=cC.1 hp
    have j6:(f j).req.toNat=i:=by simpa using he
    rw[qM j hj]at j6
    rw[←j6];exact(cd j hj).2.2.1
  ·intro hb
   by_cases hex:∃p∈pl,p.req.toNat=i
   ·obtain⟨p,hp,he⟩:=hex
    exact .inl ⟨p,hp,by simpa using he⟩
   ·right
    have hi:(i:Int)∈ij pl m:=by
     refine eS.2 ⟨(zu qJ).2 ⟨by omega,by simpa using hb⟩,?_⟩
     rw[abQ]
     unfold aM
     rw[Hp]
     intro p hp he
     have:p.req=(i:Int):=by simpa using he
     exact hex ⟨p,hp,by omega⟩
    refine⟨f i,cC.2 ⟨i,hi,rfl⟩,?_⟩
    rw[qM _ hi];simp
 ·obtain⟨i,hi,rfl⟩:=cC.1 hp
  rw[qM i hi];exact(cd i hi).2.2.2.1
end
def xy (w:W) (all:List (Sl P×Bool)) (m:Nat):Bool:=pt all m&&gO w all [] m
theorem ZC {m:Nat}:∀{all:List (Sl P×Bool)} {k:Nat},tQ m k all=true↔∀i c,all[i]? =some c→c.2=false→m.testBit (k+i)=true
 |[],k=>by simp[tQ]
 | c :: r, k => by
  simp only[tQ,dB,ug,ZC (all:=r)]
  constructor
  ·rintro⟨h1,h2⟩ i d hd hf
   cases i with
   |zero=>
    simp only[Hr,fl]at hd
    subst hd
    rcases h1 with h1|h1
    ·rw[h1]at hf;exact absurd hf (by decide)
    ·exact h1
   |succ i=>
    have:=h2 i d (by simpa using hd) hf
    rwa [show k+(i+1)=k+1+i by omega]
  ·intro h
   refine⟨?_,fun i d hd hf=>?_⟩
   ·by_cases hc:c.2=true
    ·exact .inl hc
    ·exact .inr (h 0 c rfl (by simpa using hc))
   ·have:=h (i+1) d (by simpa using hd) hf
    rwa [show k+1+i=k+(i+1)by omega]
theorem KT {all:List (Sl P×Bool)} {m:Nat}:pt all m=true↔∀i,i<all.length→cO all i=false→m.testBit i=true:=by
 unfold pt
 rw[ZC]
 constructor
 ·intro h i hi hc
  have:=h i all[i] (cM hi) (by simpa[cO,List.getD,hi]using hc)
  rwa [fB]at this
 ·intro h i c hc hf
  obtain⟨hi,he⟩:=bd.1 hc
  rw[fB]
  exact h i hi (by simp[cO,List.getD,hi,he,hf])
theorem G0 {w:W} {all:List (Sl P×Bool)}:∀{N:Nat},(∀m,m∈(dm w all N).2↔m<N∧xy w all m=true∧jc w m=(dm w all N).1)∧(∀m,m<N→xy w all m=true→jc w m≤(dm w all N).1)
 |0=>⟨fun m=>by simp[dm],fun m h=>by omega⟩
 | N + 1 => by
  obtain⟨h1,h2⟩:=G0 (N:=N)
  rw[B5]
  unfold sN
  rw[show(pt all N&&gO w all [] N)=xy w all N from rfl]
  cases hf:xy w all N with
  | false =>
   rw[nI,aq (by decide)]
   refine⟨fun m=>?_,fun m hm lg=>?_⟩
   ·rw[h1]
    constructor
    ·rintro⟨a,b,c⟩;exact⟨by omega,b,c⟩
    ·rintro⟨a,b,c⟩
     have:m≠N:=by intro e;rw[e,hf]at b;exact absurd b (by decide)
     exact⟨by omega,b,c⟩
   ·have:m≠N:=by intro e;rw[e,hf]at lg;exact absurd lg (by decide)
    exact h2 m (by omega) lg
  | true =>
   rw[sQ]
   by_cases hle:(dm w all N).1≤jc w N
   ·rw [ak (by simpa using hle)]
    by_cases aC:(dm w all N).1<jc w N
    ·rw[ak aC]
     refine⟨fun m=>?_,fun m hm lg=>?_⟩
     ·simp only[eJ]
      constructor
      ·rintro rfl;exact⟨by omega,hf,rfl⟩
      ·rintro⟨a,b,c⟩
       apply qh
       intro aB
       have:=h2 m (by omega) b
       omega
     ·show jc w m≤jc w N
      by_cases e:m=N
      ·rw[e];exact zL _
      ·have:=h2 m (by omega) lg;omega
    ·rw[aq aC]
     refine⟨fun m=>?_,fun m hm lg=>?_⟩
     ·simp only[dD,eJ]
      rw[h1]
      constructor
      ·rintro(⟨a,b,c⟩|rfl)
       ·exact⟨by omega,b,c⟩
       ·exact⟨by omega,hf,by omega⟩
      ·rintro⟨a,b,c⟩
       by_cases e:m=N
       ·exact .inr e
       ·exact .inl ⟨by omega,b,c⟩
     ·show jc w m≤(dm w all N).1
      by_cases e:m=N
      ·rw[e];omega
      ·exact h2 m (by omega) lg
   ·rw[aq (by simpa using hle)]
    refine⟨fun m=>?_,fun m hm lg=>?_⟩
    ·rw[h1]
     constructor
     ·rintro⟨a,b,c⟩;exact⟨by omega,b,c⟩
     ·rintro⟨a,b,c⟩
      by_cases e:m=N
      ·subst e;omega
      ·exact⟨by omega,b,c⟩
    ·by_cases e:m=N
     ·subst e;omega
     ·exact h2 m (by omega) lg
section
variable{w:W} {all:List (Sl P×Bool)}
def po (w:W) (all:List (Sl P×Bool)):Int:=(dm w all (2^w.rs.l.length)).1
def xv (w:W) (all:List (Sl P×Bool)):List Nat:=(dm w all (2^w.rs.l.length)).2
structure VF (w:W) (all:List (Sl P×Bool)) (R:List P):Prop where
 vc:VC w all R
 full:∀i:Nat,i<w.rs.l.length→cO all i=false→∃p∈R,p.req=(i:Int)
theorem VF.perm (hA:CA w all) {R:List P} (h:VF w all R):pt all (df R)=true:=by
 rw[KT,hA.len]
 intro i hi hc
 obtain⟨p,hp,he⟩:=h.full i hi hc
 rw[tP,fK]
 exact⟨p,hp,by simp;omega⟩
theorem VF.Qy (hA:CA w all) {R:List P} (h:VC w all R) (hp:pt all (df R)=true):VF w all R:=by
 refine⟨h,fun i hi hc=>?_⟩
 have:=KT.1 hp i (by rw[hA.len];exact hi) hc
 rw[tP,fK]at this
 obtain⟨p,hp,he⟩:=this
 have:=(h.mem p hp).1
 exact⟨p,hp,by simp at he;omega⟩
theorem VF.ok (hw:Wk w) (hA:CA w all) {R:List P} (h:VF w all R):xy w all (df R)=true:=by
 have:=Wa hw hA (pl:=[]) (rest:=R) (by simpa using h.vc)
 rw[kN]at this
 unfold xy
 rw[h.perm hA,this];rfl
theorem VF.le_max (hw:Wk w) (hA:CA w all) {R:List P} (h:VF w all R):bN w R≤po w all:=by
 have h2:=(G0 (w:=w) (all:=all) (N:=2^w.rs.l.length)).2 (df R) h.vc.q9 (h.ok hw hA)
 rwa [h.vc.val hw]at h2
theorem VF.Kt (hw:Wk w) (hA:CA w all) {R:List P} (h:VF w all R):df R∈xv w all↔bN w R=po w all:=by
 rw[show xv w all=(dm w all (2^w.rs.l.length)).2 from rfl,(G0 (w:=w) (all:=all) (N:=2^w.rs.l.length)).1]
 rw[h.vc.val hw]
 exact⟨fun h=>h.2.2,fun hv=>⟨h.vc.q9,h.ok hw hA,hv⟩⟩
theorem Qp (hw:Wk w) (hA:CA w all) {m:Nat} (hm:m∈xv w all):∃R,VF w all R∧df R=m∧bN w R=po w all:=by
 obtain⟨h1,h2,h3⟩:=(G0 (w:=w) (all:=all) (N:=2^w.rs.l.length)).1 m |>.1 hm
 unfold xy at h2
 rw[dB]at h2
 obtain⟨R,hR,ho,_⟩:=ZF hw hA (pl:=[]) (k:=0) VC.nil (fun p hp=>absurd hp (by simp)) h1 (fun i hi=>by omega) h2.2
 rw[kN]at hR ho
 exact⟨R,VF.Qy hA hR (by rw[ho];exact h2.1),ho,by rw[←hR.val hw,ho];exact h3⟩
theorem aaz:∀N,(dm w all N).1=-1∧(dm w all N).2=[]∨∃m,m∈(dm w all N).2:=by
 intro N
 induction N with
 |zero=>left;exact⟨rfl,rfl⟩
 | succ N ih =>
  rw[B5];unfold sN
  split
  ·split
   ·right;exact⟨N,by simp⟩
   ·right;exact⟨N,by simp⟩
  ·exact ih
theorem agw {pl:List P} {w:W} {all:List (Sl P×Bool)} (h:VC w all pl) {i:Int}:((mw pl:Nat):Int)≤i→∀p∈pl,p.req<i:=by
 intro hi p hp
 unfold mw at hi
 cases hl:pl.getLast? with
 |none=>rw[Sg]at hl;subst hl;exact absurd hp (by simp)
 | some z =>
  rw[hl]at hi
  simp only at hi
  have hz:=(h.mem z (Sj hl)).1
  have XA:p.req≤z.req:=by
   obtain⟨a,ha⟩:=List.getLast?_eq_some_iff.1 hl
   rw[ha,dD,eJ]at hp
   rcases hp with hp|rfl
   ·have:=h.kV
    rw[ha,jW]at this
    exact Int.le_of_lt (this.2.2 p hp z (by simp))
   ·exact zL _
  omega
theorem agv {pl t:List P} {q:P} {w:W} {all:List (Sl P×Bool)} (h:VC w all (pl++q::t)):mw pl≤q.req.toNat:=by
 unfold mw
 cases hl:pl.getLast? with
 |none=>exact bg _
 |some z=>
  have X7:=Sj hl
  have hz:=(h.mem z (pF _ X7)).1
  have:=h.kV
  rw[jW]at this
  have:=this.2.2 z X7 q (by simp)
  show z.req.toNat+1≤q.req.toNat
  omega
theorem YY (hw:Wk w) (hA:CA w all) {pl:List P} (h:VC w all pl) {i:Nat} (hi:mw pl≤i) (bH:i<w.rs.l.length) {p:P} (hp:p∈cL all (i:Int)) (ho:l5 w all pl (df pl) (xv w all) i p=true):
  ∃rest,VF w all (pl++p::rest)∧bN w (pl++p::rest)=po w all:=by
 unfold l5 at ho
 rw[dB]at ho
 obtain⟨hc,hs⟩:=ho
 have hc:dL w p pl=false:=by simpa using hc
 obtain⟨m,hm,gS⟩:=fK.1 hs
 rw[dB,dY]at gS
 obtain⟨J3,lS⟩:=gS
 obtain⟨dV,hr⟩:=hA.iW (i:Int) (by omega) (by omega) p hp
 have qM:=agw h (i:=(i:Int)) (by omega)
 have h1:VC w all (pl++[p]):=by
  refine⟨fun q hq=>?_,?_,?_⟩
  ·rw[dD,eJ]at hq
   rcases hq with hq|rfl
   ·exact h.mem q hq
   ·rw[hr];exact⟨by omega,by omega,hp⟩
  ·rw[jW]
   refine⟨h.kV,LB _ _,fun a ha b hb=>?_⟩
   rw[eJ]at hb;subst hb
   rw[hr];exact qM a ha
  ·rw[jW]
   refine⟨h.nc,LB _ _,fun a ha b hb=>?_⟩
   rw[eJ]at hb;subst hb
   exact AJ.1 hc a ha
 obtain⟨ajj,O9,hmv⟩:=(G0 (w:=w) (all:=all) (N:=2^w.rs.l.length)).1 m |>.1 hm
 unfold xy at O9
 rw[dB]at O9
 have hb:=Up.1 J3
 obtain⟨rest,hR,lr,_⟩:=ZF hw hA (pl:=pl++[p]) (m:=m) (k:=i+1) h1 (fun q hq=>by
  rw[dD,eJ]at hq
  rcases hq with hq|rfl
  ·have:=qM q hq;omega
  ·rw[hr];omega) ajj (fun j hj=>by
  have:=hb j
  rw[bP hj,sQ]at this
  rw[this,Zr,Cs,hr,LM];simp) lS
 rw[gW,List.singleton_append]at hR lr
 exact⟨rest,VF.Qy hA hR (by rw[lr];exact O9.1),by rw[←hR.val hw,lr];exact hmv⟩
theorem Ww (hw : Wk w) (hA : CA w all) {Q : List P} (hQ : VF w all Q) (hv : bN w Q = po w all) (qK : ∀ R, VF w all R → bN w R = po w all → cB R Q = false) :
  ∀(fuel:Nat) (pl t:List P),Q=pl++t→t.length<fuel→nk w all (xv w all) fuel pl=Q
 |0,_,_,_,h=>absurd h (da _)
 | fuel + 1, pl, t, hq, hl => by
  simp only[nk]
  have cD:VC w all pl:=by have:=hQ.vc;rw[hq]at this;exact this.pre
  cases t with
  |nil=>
   rw[jd]at hq
   subst hq
   rw[ak (fK.2 ⟨df Q,(hQ.Kt hw hA).2 hv,by simp⟩)]
  | cons q t =>
   rw[aq (by
    intro h
    obtain⟨m,hm,he⟩:=fK.1 h
    have he:df pl=m:=by simpa using he
    rw[←he]at hm
    obtain⟨R,hR,FB,FC⟩:=Qp hw hA hm
    have Xx:VF w all pl:=VF.Qy hA cD (by rw[←FB];exact hR.perm hA)
    have:=qK pl Xx ((Xx.Kt hw hA).1 hm)
    rw[hq,ac5 (by simp)]at this
    exact absurd this (by decide))]
   have Ba:=hQ.vc
   rw[hq]at Ba
   obtain⟨q0,q1,qp⟩:=Ba.mem q (by simp)
   have hjq:((q.req.toNat:Nat):Int)=q.req:=by omega
   have pV:=agv Ba
   have ajp : sG w all pl (df pl) (xv w all) = some q := by
    unfold sG
    rw[hA.len]
    refine YX (j:=q.req.toNat) ?_ pV (by omega) ?_
    ·rw [show (all.getD q.req.toNat default).1.l = cL all q.req from rfl]
     rw[List.find?_eq_some_iff_append]
     have XI:=hA.srt q.req q0 q1
     obtain⟨as,bs,gJ⟩:=List.append_of_mem qp
     refine⟨?_,as,bs,gJ,fun p hp=>?_⟩
     · -- q itself may come next
      unfold l5
      rw[dB]
      refine⟨?_,fK.2 ⟨df Q,(hQ.Kt hw hA).2 hv,?_⟩⟩
      ·have:dL w q pl=false:=AJ.2 fun a ha=>by
        have:=Ba.nc
        rw[jW]at this
        exact this.2.2 a ha q (by simp)
       rw[this];rfl
      ·rw [dB, dY]
       constructor
       ·rw[Up]
        intro j
        rw[hq,tP,tP,vL,oz]
        have pT:=Ba.kV
        rw[jW,uu]at pT
        have ht:∀x∈t,q.req<x.req:=pT.2.1.1
        have pd:∀x∈pl,x.req<q.req:=fun x hx=>pT.2.2 x hx q (by simp)
        have h0:∀x∈pl,0≤x.req:=fun x hx=>(cD.mem x hx).1
        by_cases hj:j<q.req.toNat+1
        ·rw[bP hj,sQ]
         have:(t.any fun p=>decide (p.req.toNat=j))=false:=by
          rw[zM];intro x hx;have:=ht x hx;simp;omega
         rw[this,Cg]
        ·rw[bS hj,nI]
         have h1:(pl.any fun p=>decide (p.req.toNat=j))=false:=by
          rw[zM];intro x hx;have:=pd x hx;have:=h0 x hx;simp;omega
         rw[h1,bS (by omega)];rfl
       ·rw[hq,show pl++q::t=(pl++[q])++t by simp]
        exact Wa hw hA (by rw[gW];exact Ba)
     · -- an earlier one would give an earlier plan
      rw[xI]
      cases ho:l5 w all pl (df pl) (xv w all) q.req.toNat p with
      |false=>rfl
      | true =>
       have pY:p∈cL all q.req:=by rw[gJ];simp[hp]
       obtain⟨rest,hR,FC⟩:=YY hw hA cD pV (by omega) (by rw[hjq];exact pY) ho
       have:=qK _ hR FC
       rw[hq,IZ]at this
       have aC:lexB (kP p) (kP q)=true:=by
        rw[gJ,jW]at XI
        exact XI.2.2 p hp q (by simp)
       simp only[cB]at this
       rw[aq (by intro e;rw[e,GG]at aC;exact absurd aC (by decide)),aC]at this
       exact absurd this (by decide)
    ·intro i' h1 h2
     rw[show(all.getD i' default).1.l=cL all (i':Int)from rfl,Hp]
     intro p hp ho
     obtain⟨rest,hR,FC⟩:=YY hw hA cD h1 (by omega) hp ho
     have:=qK _ hR FC
     rw[hq,IZ]at this
     have hr:=(hA.iW (i':Int) (by omega) (by omega) p hp).2
     have aC:lexB (kP p) (kP q)=true:=by
      unfold kP
      simp only[lexB]
      rw[aq (by omega)];simp;omega
     simp only[cB]at this
     rw[aq (by intro e;rw[e,GG]at aC;exact absurd aC (by decide)),aC]at this
     exact absurd this (by decide)
   rw[ajp]
   exact Ww hw hA hQ hv qK fuel (pl++[q]) t (by rw[hq];simp) (by simp at hl;omega)
theorem ac9 (hw:Wk w) (hA:CA w all) {Q:List P} (hQ:VF w all Q) (hv:bN w Q=po w all) (qK:∀R,VF w all R→bN w R=po w all→cB R Q=false):gZ w all=(Q,po w all,true):=by
 have w9:0≤po w all:=by
  rw[←hv,←hQ.vc.val hw]
  exact(G9 hw fun i hi=>by
   have qJ:df Q<2^w.rs.l.length:=hQ.vc.q9
   exact BM qJ hi).1
 unfold gZ
 rw[hA.len]
 rw[aq (show¬(dm w all (2^w.rs.l.length)).1<0 from by show¬po w all<0;omega)]
 have Pt:Q.length<w.rs.l.length+1:=by
  have:∀(l:List P) (k:Int),0≤k→l.Pairwise (fun a b=>a.req<b.req)→(∀p∈l,k≤p.req∧p.req<w.rs.l.length)→(l.length:Int)≤w.rs.l.length-k∨l=[]:=by
   intro l
   induction l with
   |nil=>intro _ _ _ _;right;rfl
   |cons x r ih=>
    intro k hk hp hm
    left
    have hx:=hm x (by simp)
    have u6:=uu.1 hp
    rcases ih (x.req+1) (by omega) u6.2 (fun p J7=>⟨by have:=u6.1 p J7;omega,(hm p (jf _ J7)).2⟩)with h|h
    ·simp only[dO];omega
    ·subst h;simp;omega
  rcases this Q 0 (by omega) hQ.vc.kV (fun p hp=>⟨(hQ.vc.mem p hp).1,(hQ.vc.mem p hp).2.1⟩)with h|h
  ·omega
  ·subst h;simp
 have:=Ww hw hA hQ hv qK (w.rs.l.length+1) [] Q rfl Pt
 rw[show(dm w all (2^w.rs.l.length)).2=xv w all from rfl,this]
 rfl
theorem ada (hw:Wk w) (hA:CA w all) (h:∀R,¬VF w all R):gZ w all=([],0,false):=by
 unfold gZ
 rw[hA.len]
 rcases aaz (w:=w) (all:=all) (2^w.rs.l.length)with⟨h1,_⟩|⟨m,hm⟩
 ·rw[ak (by rw[h1];decide)]
 ·obtain⟨R,hR,_⟩:=Qp hw hA hm
  exact absurd hR (h R)
theorem aoN (hw:Wk w) (hA:CA w all) (h:∃R,VF w all R):∃R,VF w all R∧bN w R=po w all:=by
 obtain⟨R0,h0⟩:=h
 rcases aaz (w:=w) (all:=all) (2^w.rs.l.length)with⟨h1,h2⟩|⟨m,hm⟩
 ·have:=h0.le_max hw hA
  have w9:0≤bN w R0:=by
   rw[←h0.vc.val hw]
   exact(G9 hw fun i hi=>BM h0.vc.q9 hi).1
  have:po w all=-1:=h1
  omega
 ·obtain⟨R,hR,_,hv⟩:=Qp hw hA hm
  exact⟨R,hR,hv⟩
end
def cmpL:List P→List P→Int
 |[],[]=>0
 |[],_::_=>-1
 |_::_,[]=>1
 |x::r,y::t=>if kA x y=0 then cmpL r t else kA x y
theorem YG:∀{a b:List Int},kH a b<0↔lexB a b=true
 |[],[]=>by simp[kH,lexB]
 |[],_::_=>by simp[kH,lexB]
 |_::_,[]=>by simp[kH,lexB]
 | x :: a, y :: b => by
  simp only[kH,lexB]
  by_cases h:x=y
  ·rw[ak (Jd.2 h),ak h];exact YG
  ·rw[aq (fun e=>h (Jd.1 e)),aq h,dY]
   unfold tj
   split
   ·rename_i h1;exact⟨fun _=>h1,fun _=>by decide⟩
   ·rename_i h1
    split
    ·exact⟨fun q=>absurd q (by decide),fun q=>absurd q h1⟩
    ·exact⟨fun q=>absurd q (by decide),fun q=>absurd q h1⟩
theorem aey {p q:P}:kA p q<0↔lexB (kP p) (kP q)=true:=by
 unfold kA kP
 simp only[lexB]
 by_cases h1:p.req=q.req
 ·rw[ak h1,ak h1]
  by_cases h2:p.start=q.start
  ·rw[ak h2,ak h2];exact YG
  ·rw[aq h2,aq h2,dY];omega
 ·rw[aq h1,aq h1,dY];omega
theorem U0:∀{a b:List P},cmpL a b<0↔cB a b=true
 |[],[]=>by simp[cmpL,cB]
 |[],_::_=>by simp[cmpL,cB]
 |_::_,[]=>by simp[cmpL,cB]
 |x::a,y::b=>by
  simp only[cmpL,cB]
  by_cases h:kA x y=0
  ·rw[ak h,ak (AB.1 h)];exact U0
  ·rw[aq h,aq (fun e=>h (AB.2 e))];exact aey
section
variable{s:ae} {w:W}
theorem atL {a b:List P} {o1 o2:Own} {e1 e2:Nat} (hs:Ok s) (h1:a=[]∨e1=3) (h2:b=[]∨e2=3) (ha:oD a) (hb:oD b):
  aw AP (.fn 35) [.slice o1 e1 (a.map aj),.slice o2 e2 (b.map aj),.fn 36 [] []] s=some (I (cmpL a b),s):=by
 have la:=ha.len
 have lb:=hb.len
 have key:∀k ρ m,k≤a.length→(ρ 0=.slice o1 e1 (a.map aj)∧ρ 1=.slice o2 e2 (b.map aj)∧ρ 2=.fn 36 [] []∧ρ 11=.slice o1 e1 (a.map aj)∧ρ 12=I a.length∧ρ 13=I k∧k≤b.length∧cmpL a b=cmpL (a.drop k) (b.drop k)∧∃bx,m=s.push ⟨bx,[]⟩)→
   go AP afT (.c (.loop yd)::anA) ⟨ρ,m⟩=some (I (cmpL a b),s):=by
  refine ck a.length _ _ ?_ ?_
  ·rintro k ρ m hk ⟨g0,g1,g2,g11,g12,g13,OZ,hc,bx,rfl⟩ ih
   obtain⟨x,hx⟩:=get_some hk
   have dU:e1=3:=by rcases h1 with h|h;(rw[h]at hx;simp at hx);exact h
   subst dU
   have Gj:=cq (f:=aj) (o:=o1) (es:=3) hx
   have xm:=ha.ok x (bQ hx)
   have sx:=ha.b x (bQ hx)
   have cz:=bK hk (show(a.length:Int)<_ by omega)
   rw[eP hx]at hc
   by_cases tF:k<b.length
   ·obtain⟨y,hy⟩:=get_some tF
    have dU:e2=3:=by rcases h2 with h|h;(rw[h]at hy;simp at hy);exact h
    subst dU
    have Pz:=cq (f:=aj) (o:=o2) (es:=3) hy
    have qS:=hb.ok y (bQ hy)
    have X0:=hb.b y (bQ hy)
    rw[eP hy]at hc
    have dw:∀r,aw AP (.fn 36) [.agg (aj x),.agg (aj y)] (s.push r)=some (I (kA x y),s.push r):=fun r=>Rk (hs.push r) xm.1 qS.1 xm.2 qS.2 sx.1 X0.1 sx.2 X0.2
    have nw:decide ((b.length:Int)≤(k:Int))=false:=by simp;omega
    simp only[aj,Sl.v]at Gj Pz dw
    simp only[cmpL]at hc
    by_cases h0:kA x y=0
    ·rw[ak h0]at hc
     rw[h0]at dw
     have hz:decide (¬(0:Int)=0)=false:=by decide
     simp only[go_sem,yd,g0,g1,g2,g11,g12,g13,hs,aS hk,nw,Gj,Pz,dw,cz,aY,hz,at_len,rD,qV,BH,mT,ri,gW,aP,simprocAttr]
     refine ih _ _ ?_
     exact⟨g0,g1,g2,g11,g12,rfl,by omega,hc,_,rfl⟩
    ·rw[aq h0]at hc
     have hz:decide (¬kA x y=0)=true:=by simp[h0]
     rw[hc]
     simp only[go_sem,yd,g0,g1,g2,g11,g12,g13,hs,aS hk,nw,Gj,Pz,dw,cz,aY,hz,at_len,rD,qV,BH,mT,ri,gW,aP,simprocAttr]
   ·obtain rfl:k=b.length:=by omega
    have nw:decide ((b.length:Int)≤(b.length:Int))=true:=by simp
    rw[eR]at hc
    simp only[cmpL]at hc
    rw[hc]
    simp only[aj,Sl.v]at Gj
    simp only[go_sem,yd,g0,g1,g2,g11,g12,g13,hs,aS hk,nw,Gj,cz,at_len,rD,qV,BH,mT,ri,gW,aP,simprocAttr]
  ·rintro ρ m ⟨g0,g1,g2,g11,g12,g13,OZ,hc,bx,rfl⟩
   rw[eR]at hc
   by_cases hl:a.length<b.length
   ·have hd:decide ((a.length:Int)<(b.length:Int))=true:=by simp;omega
    obtain⟨y,hy⟩:=get_some hl
    rw[eP hy]at hc
    simp only[cmpL]at hc
    rw[hc]
    simp only[go_sem,yd,IL,g0,g1,g2,g11,g12,g13,hs,bM,hd,aP,simprocAttr]
   ·have hd:decide ((a.length:Int)<(b.length:Int))=false:=by simp;omega
    obtain e:b.length=a.length:=by omega
    rw[←e,eR]at hc
    simp only[cmpL]at hc
    rw[hc]
    simp only[go_sem,yd,IL,g0,g1,g2,g11,g12,g13,hs,bM,hd,aP,simprocAttr]
 rw[aL (show AP 35=some ES from rfl) rfl]
 simp only[go_sem,T8,hs,aP,simprocAttr]
 refine key 0 _ _ (bg _) ?_
 exact⟨rfl,rfl,rfl,rfl,rfl,rfl,bg _,rfl,_,rfl⟩
end
section
variable{w:W} {a b:List (Sl P×Bool)}
theorem atC {plan:List P} {x:Sl P}:(ju w plan x).l=plan.foldl (fun l p=>wo w p l) x.l:=by
 unfold ju
 induction plan generalizing x with
 |nil=>rfl
 |cons p r ih=>rw[xO,xO,ih,kS]
theorem V7 (hL:∀i,cL a i=cL b i) {plan:List P} {m:Nat}:gO w a plan m=gO w b plan m:=by
 unfold gO l6
 rw[vO,vO]
 congr 1
 refine zP fun i _=>?_
 simp only[Function.comp,atC]
 rw[show(a.getD i.toNat default).1.l=cL a i from rfl,hL];rfl
theorem aqy (hl:a.length=b.length) (hO:∀i,cO a i=cO b i) {m:Nat}:pt a m=pt b m:=by
 rw[vI,KT,KT,hl]
 simp only[hO]
theorem ac7 (hl:a.length=b.length) (hL:∀i,cL a i=cL b i) (hO:∀i,cO a i=cO b i):gZ w a=gZ w b:=by
 have cp:∀st m,sN w a st m=sN w b st m:=fun st m=>by unfold sN;rw[aqy hl hO,V7 hL]
 have mM:∀n,dm w a n=dm w b n:=fun n=>by
  unfold dm
  congr 1
  funext st m;exact cp st m
 have gU:∀plan own sets i,l5 w a plan own sets i=l5 w b plan own sets i:=fun plan own sets i=>by
  funext p
  unfold l5
  congr 2
  funext m
  rw[V7 hL]
 have Pd:∀n plan own sets i,mP w a plan own sets i n=mP w b plan own sets i n:=by
  intro n
  induction n with
  |zero=>intros;rfl
  |succ n ih=>
   intro plan own sets i
   simp only[mP]
   rw[show(a.getD i default).1.l=cL a (i:Int)from rfl,hL,gU,ih];rfl
 have JX:∀sets n plan,nk w a sets n plan=nk w b sets n plan:=by
  intro sets n
  induction n with
  |zero=>intro plan;rfl
  |succ n ih=>
   intro plan
   simp only[nk,sG]
   rw[hl,Pd]
   simp only[ih]
 unfold gZ
 rw[hl,mM,JX]
end
section
variable{s:ae} {w:W}
theorem agx {a b:Int}:dk [a,b]=if a=0 then b else a:=by
 unfold dk
 by_cases h:a=0
 ·subst h
  unfold dk
  by_cases h2:b=0
  ·subst h2;rfl
  ·simp[h2]
 ·simp[h]
end
section
variable{s:ae} {w:W}
theorem Rg {n:Nat}:(eH n).Pairwise (· <·):=by
 rw[ru]
 exact abJ.imp fun h=>by omega
theorem Rh {n:Nat}:∀i∈eH n,0≤i∧i<n:=fun i hi=>by
 obtain⟨k,hk,rfl⟩:=cC.1 hi
 have:=nP.1 hk
 omega
theorem Ri {n:Nat}:(eH n).length=n:=by rw[bY,pE]
theorem aoO {n:Nat} (hn:n≤60):de (2^n-1)=eH n:=by
 have aC:2^n-1<2^62:=by
  have:(2:Nat)^n≤2^60:=jh (by decide) hn
  omega
 refine z6 BL Rg fun x=>?_
 rw[zu aC,SF]
 constructor
 ·rintro⟨h0,h1⟩
  have h1:=KM h1
  exact cC.2 ⟨x.toNat,nP.2 h1,by omega⟩
 ·intro hx
  have:=Rh x hx
  exact⟨this.1,by simp;omega⟩
theorem ahu {n c:Nat} {g:List Int} (h:g∈bf c (eH n)):g.Pairwise (· <·)∧∀i∈g,0≤i∧i<n:=by
 have hs:=A3 h
 exact⟨Rg.sublist hs,fun i hi=>Rh i (hs.subset hi)⟩
end
def ej (w:W) (pl:List P) (g:List Int) (req:Int):List (Sl P×Bool):=(List.range w.rs.l.length).map fun i:Nat=>(eC 3 (hH w pl g (i:Int)),lM pl g req (i:Int))
def ph (w:W) (pl:List P) (req:Int) (st:List P×Int) (g:List Int):List P×Int:=
 if((gZ w (ej w pl g req)).2.2&&(decide (st.2<(gZ w (ej w pl g req)).2.1)||(decide ((gZ w (ej w pl g req)).2.1=st.2)&&cB (gZ w (ej w pl g req)).1 st.1)))=true then((gZ w (ej w pl g req)).1,(gZ w (ej w pl g req)).2.1)else st
def sA (w:W) (pl:List P) (req:Int) (c:Nat):List P×Int:=(bf c (eH w.rs.l.length)).foldl (ph w pl req) ([],-1)
def pj (w:W) (pl:List P) (req:Int):Nat→Nat→Option (List P)
 |_,0=>none
 |c,d+1=>if 0≤(sA w pl req c).2 then some (sA w pl req c).1 else pj w pl req (c+1) d
section
variable{s:ae} {w:W}
theorem Az {pl:List P} {g:List Int} {req:Int}:(ej w pl g req).length=w.rs.l.length:=by simp[ej]
theorem I9 {pl:List P} {g:List Int} {req:Int} {i:Nat} (h:i<w.rs.l.length):(ej w pl g req).getD i default=(eC 3 (hH w pl g (i:Int)),lM pl g req (i:Int)):=by
 unfold ej
 rw[List.getD,je,Hs h];rfl
theorem Fb {pl:List P} {g:List Int} {req:Int} {i:Int} (h0:0≤i) (h1:i<w.rs.l.length):cL (ej w pl g req) i=hH w pl g i:=by
 unfold cL
 rw[I9 (by omega),kS,show((i.toNat:Nat):Int)=i by omega]
theorem UM {pl:List P} {g:List Int} {req:Int} {i:Nat} (h:i<w.rs.l.length):cO (ej w pl g req) i=lM pl g req (i:Int):=by
 unfold cO
 rw[I9 h]
theorem xK.ac6 {pl:List P} {g:List Int} {req:Int} {all:List (Sl P×Bool)} (h:xK w pl g req all):gZ w all=gZ w (ej w pl g req):=by
 refine ac7 (by rw[h.len,Az]) (fun i=>?_) (fun i=>?_)
 ·by_cases hi:i.toNat<w.rs.l.length
  ·obtain⟨c,h1,h2,_⟩:=h.get i.toNat hi
   unfold cL
   rw[I9 hi,List.getD,h1,kS,kQ]
   exact h2
  ·unfold cL
   rw[List.getD,List.getD,nL (by rw[h.len];omega),nL (by rw[Az];omega)]
 ·by_cases hi:i<w.rs.l.length
  ·obtain⟨c,h1,h2,_⟩:=h.get i hi
   unfold cO
   rw[I9 hi,List.getD,h1,kQ]
  ·unfold cO
   rw[List.getD,List.getD,nL (by rw[h.len];omega),nL (by rw[Az];omega)]
theorem Ja (hw:Wk w) {pl:List P} (hp:gG pl) (dV:∀p∈pl,ch w p) {g:List Int} {i:Nat} (hi:i<w.rs.l.length) {p:P} (h:p∈hH w pl g (i:Int)):
  ch w p∧p.req=i∧p.an.l.length≤1000:=by
 unfold hH at h
 split at h
 ·have hm:=(eS.1 h).1
  obtain⟨h1,h2,_⟩:=nF hw (i:=(i:Int)) (by omega) (by omega) (eS.1 hm).1
  exact⟨h1,h2,(QQ hw hi hm).2.1⟩
 ·rw[Option.mem_toList]at h
  have hm:=QJ (l:=pl) (i:=(i:Int)) h
  exact⟨dV p hm.1,hm.2,by have:=(hp.ok p hm.1).2;omega⟩
theorem aee (hw:Wk w) {pl:List P} {g:List Int} {i:Nat} (hi:i<w.rs.l.length):(hH w pl g (i:Int)).length≤13000:=by
 unfold hH
 split
 ·have h1:=BT hw (i:=(i:Int)) (by omega) (by omega)
  have h2:(ct w [] (i:Int)).length≤(dS w (i:Int)).length:=nN _ _
  have h3:=nN (fun x=>!B3 pl (i:Int) x) (ct w [] (i:Int))
  omega
 ·cases aM pl (i:Int)<;>simp
theorem xK.ok (hw:Wk w) {pl:List P} (hp:gG pl) (dV:∀p∈pl,ch w p) {g:List Int} {req:Int} {all:List (Sl P×Bool)} (h:xK w pl g req all):sP w 2 all:=by
 have hm:∀c∈all,∃(i:Nat) (d:Sl P),i<w.rs.l.length∧c.1=d∧d.l=hH w pl g (i:Int)∧d.ok 3:=by
  intro c hc
  obtain⟨i,hi⟩:=mY hc
  have hl:=(bd.1 hi).1
  rw[h.len]at hl
  obtain⟨d,h1,h2,h3⟩:=h.get i hl
  rw[hi]at h1
  injection h1 with h1
  exact⟨i,d,hl,by rw[h1],h2,h3⟩
 refine⟨.inr rfl,h.len,fun c hc=>?_,fun c hc=>?_,fun c hc p jE=>?_,fun i c hc p jE=>?_⟩
 ·obtain⟨i,d,h1,h2,h3,h4⟩:=hm c hc
  rw[h2];exact h4
 ·obtain⟨i,d,h1,h2,h3,h4⟩:=hm c hc
  rw[h2,h3];exact aee hw h1
 ·obtain⟨i,d,h1,h2,h3,h4⟩:=hm c hc
  rw[h2,h3]at jE
  exact(Ja hw hp dV h1 jE).1
 ·have hl:=(bd.1 hc).1
  rw[h.len]at hl
  obtain⟨d,h1,h2,h3⟩:=h.get i hl
  rw[hc]at h1
  injection h1 with h1
  rw[h1,h2]at jE
  exact(Ja hw hp dV hl jE).2.1
theorem Wy {all:List (Sl P×Bool)} {sets:List Nat}:∀{n:Nat} {plan:List P},∀p∈nk w all sets n plan,p∈plan∨∃j:Nat,j<all.length∧p∈cL all (j:Int)
 |0,plan,p,h=>.inl h
 | n + 1, plan, p, h => by
  simp only[nk]at h
  split at h
  ·exact .inl h
  ·split at h
   ·rename_i q hq
    rcases Wy p h with h1|h1
    ·rcases dD.1 h1 with h1|h1
     ·exact .inl h1
     ·rw[eJ]at h1
      subst h1
      unfold sG at hq
      obtain⟨j,j1,j2,j3,_⟩:=Qw hq
      exact .inr ⟨j,by omega,j3⟩
    ·exact .inr h1
   ·exact .inl h
theorem Wx {all:List (Sl P×Bool)} {sets:List Nat}:∀{n:Nat} {plan:List P},(nk w all sets n plan).length≤plan.length+n
 |0,plan=>aH _
 | n + 1, plan => by
  simp only[nk]
  split
  ·omega
  ·split
   ·rename_i q hq
    have:=Wx (all:=all) (sets:=sets) (n:=n) (plan:=plan++[q])
    rw[cj]at this
    simp at this;omega
   ·omega
theorem adb (hw:Wk w) {pl:List P} (hp:gG pl) (dV:∀p∈pl,ch w p) {g:List Int} {req:Int}:oD (gZ w (ej w pl g req)).1:=by
 have er:=hw.v.rl
 have hm:∀p∈(gZ w (ej w pl g req)).1,ch w p∧p.an.l.length≤1000:=by
  intro p h
  unfold gZ at h
  split at h
  ·exact absurd h (by simp)
  ·rcases Wy p h with h|⟨j,h1,h2⟩
   ·exact absurd h (by simp)
   ·rw[Az]at h1
    rw[Fb (by omega) (by omega)]at h2
    have:=Ja hw hp dV h1 h2
    exact⟨this.1,this.2.2⟩
 refine⟨?_,fun p h=>⟨(hm p h).1.ok,(hm p h).2⟩,fun p h=>?_⟩
 ·unfold gZ
  split
  ·simp
  ·have:=Wx (w:=w) (all:=ej w pl g req) (sets:=(dm w (ej w pl g req) (2^(ej w pl g req).length)).2) (n:=(ej w pl g req).length+1) (plan:=[])
   rw[Az]at this⊢
   simp at this
   show(nk _ _ _ _ _).length≤1000
   omega
 ·have h:=(hm p h).1
  have:=h.r0;have:=h.r1;have:=h.s0;have:=h.s1
  exact⟨by omega,by omega⟩
end
section
variable{s:ae} {w:W}
abbrev Gw (ρ:Nat→AV):dx:=⟨true,none,ρ,[56],Df,uA⟩
structure vJ (w:W) (pl:List P) (op:Own) (ep:Nat) (req:Int) (kb:Nat) (done:List (List Int)) (r:Rec):Prop where
 b1:r.boxes[1]? =some [.slice op ep (pl.map aj)]
 b2:r.boxes[2]? =some [I req]
 b3:r.boxes[3]? =some [OW w]
 kv:r.boxes[kb]? =some [bG 3 ((done.foldl (ph w pl req) ([],-1)).1.map aj)]
 km:r.boxes[kb+1]? =some [I (done.foldl (ph w pl req) ([],-1)).2]
 k3:3<kb
 tok:oD (done.foldl (ph w pl req) ([],-1)).1
theorem akG {X T:Rec→ae} {l d:Nat} {ρ:Nat→AV} {r:Rec} {g:List Int} {pl:List P} {op:Own} {ep:Nat} {req:Int} {kb:Nat} {done:List (List Int)} (hM:gE X d) (hX:∀r,busy l (T r)=X r) (hR:∀r,ml l (Gw ρ) (T r)) (bE:∀r,Ok (T r)) (hw:Wk w) (hN:0<w.rs.l.length)
  (hp:gG pl) (dV:∀p∈pl,ch w p) (qG:pl=[]∨ep=3) (nx:g.length≤100) (h4:ρ 4=.ptr d 1 0) (h5:ρ 5=.ptr d 2 0) (h8:ρ 8=.ptr d 3 0) (cG:ρ 12=.ptr d kb 0) (oO:ρ 13=.ptr d (kb+1) 0) (hI:vJ w pl op ep req kb done r):
  ∃r',aw AP (.yield l) [bG 1 (g.map aD)] (T r)=some (.v (.bool true),T r')∧vJ w pl op ep req kb (done++[g]) r':=by
 have er:=hw.v.rl
 have y7:∀r,Ok (X r):=fun r=>by rw[←hX];exact(bE r).busy
 have Ox:∀r,(T r).ag.length=(X r).ag.length:=fun r=>by rw[←hX];rfl
 have n8:∀r ρ' q,qv l .normal ⟨ρ',(X r).push q⟩=some (.v (.bool true),T r):=fun r ρ' q=>by rw[←hX];exact N3 (hR r)
 obtain⟨b1,b2,b3,bk,bm,k3,pZ⟩:=hI
 have k1:∀q,((X r).push q).box d 1=some [.slice op ep (pl.map aj)]:=fun q=>by rw[hM.box,b1]
 have k2:∀q,((X r).push q).box d 2=some [I req]:=fun q=>by rw[hM.box,b2]
 have BE:∀q,((X r).push q).box d 3=some [OW w]:=fun q=>by rw[hM.box,b3]
 generalize cp:done.foldl (ph w pl req) ([],-1)=st at*
 have kk:∀q,((X r).push q).box d kb=some [bG 3 (st.1.map aj)]:=fun q=>by rw[hM.box,bk]
 have km:∀q,((X r).push q).box d (kb+1)=some [I st.2]:=fun q=>by rw[hM.box,bm]
 have OX:∃o e,bG 1 (g.map aD)=.slice o e (g.map aD)∧(g=[]∨e=1):=by
  cases g with
  |nil=>exact⟨.aA,0,rfl,.inl rfl⟩
  |cons a t=>exact⟨.any,1,rfl,.inr rfl⟩
 obtain⟨og,eg,OX,nw⟩:=OX
 have hTp:=oD.of hw hp dV
 have fj:∀q,∃all,aw AP (.fn 33) [OW w,.slice op ep (pl.map aj),.slice og eg (g.map aD),I req] ((X r).push q)=some (CH w .any 2 all,(X r).push q)∧xK w pl g req all:=fun q=>ato ((y7 r).push q) hw hN hTp qG nw (by omega)
 obtain⟨all,dT,gg⟩:=fj ⟨[],[]⟩
 have qE:aw AP (.fn 34) [CH w .any 2 all] ((X r).push ⟨[],[]⟩)=some (Aj (gZ w (ej w pl g req)),(X r).push ⟨[],[]⟩):=by
  rw[←gg.ac6]
  exact Uy ((y7 r).push _) hw (gg.ok hw hp dV)
 have OE:=adb hw hp dV (g:=g) (req:=req)
 have gy:(done++[g]).foldl (ph w pl req) ([],-1)=ph w pl req st g:=by rw[Lv,cp];rfl
 unfold ph at gy
 generalize JH:gZ w (ej w pl g req)=R at*
 obtain⟨B1,V1,O1⟩:=R
 obtain⟨B0,V0⟩:=st
 simp only at gy OE pZ kk km bk bm
 have W3:∀q,aw AP (.fn 35) [bG 3 (B1.map aj),bG 3 (B0.map aj),.fn 36 [] []] ((X r).push q)=some (I (cmpL B1 B0),(X r).push q):=fun q=>by
  rw[uw,uw]
  simp only[Sl.v,kS]
  refine atL ((y7 r).push q) ?_ ?_ OE pZ
  ·cases B1<;>first|exact .inl rfl|exact .inr rfl
  ·cases B0<;>first|exact .inl rfl|exact .inr rfl
 have aC:decide (cmpL B1 B0<0)=cB B1 B0:=by
  rw[vI,dY];exact U0
 have aip:(bG 3 (B1.map aj)).isClosed=true:=by cases B1<;>rfl
 have zj:∀q,((X r).push q).store 1 (.ptr d kb 0) (bG 3 (B1.map aj))=some ((X ⟨r.boxes.set kb [bG 3 (B1.map aj)],r.toks⟩).push q):=fun q=>hM.store (by rw[I7];simp[aip]) (by rw[I7];simp[kB,Yd]) bk (by rw[I7];rfl)
 have Gn:∀q,((X ⟨r.boxes.set kb [bG 3 (B1.map aj)],r.toks⟩).push q).store 1 (.ptr d (kb+1) 0) (I V1)=some ((X ⟨(r.boxes.set kb [bG 3 (B1.map aj)]).set (kb+1) [I V1],r.toks⟩).push q):=fun q=>hM.store (by rfl) (by rfl) (row:=[I V0]) (by show(r.boxes.set kb _)[kb+1]? =_;rw[eI (by omega),bm]) (by rfl)
 have hlk:=(bd.1 bk).1
 have Xk:=(bd.1 bm).1
 have take:∀c:Bool,c=true→(if c=true then(B1,V1)else(B0,V0))=(done++[g]).foldl (ph w pl req) ([],-1)→vJ w pl op ep req kb (done++[g]) ⟨(r.boxes.set kb [bG 3 (B1.map aj)]).set (kb+1) [I V1],r.toks⟩:=by
  rintro c hc he
  rw[ak hc]at he
  refine⟨?_,?_,?_,?_,?_,k3,?_⟩<;>(try rw[←he])
  ·show((r.boxes.set kb _).set (kb+1) _)[1]? =_
   rw[eI (by omega),eI (by omega)];exact b1
  ·show((r.boxes.set kb _).set (kb+1) _)[2]? =_
   rw[eI (by omega),eI (by omega)];exact b2
  ·show((r.boxes.set kb _).set (kb+1) _)[3]? =_
   rw[eI (by omega),eI (by omega)];exact b3
  ·show((r.boxes.set kb _).set (kb+1) _)[kb]? =_
   rw[eI (by omega),mj hlk]
  ·show((r.boxes.set kb _).set (kb+1) _)[kb+1]? =_
   rw[mj (by rw[zO];exact Xk)]
  ·exact OE
 have leave:∀c:Bool,c=false→(if c=true then(B1,V1)else(B0,V0))=(done++[g]).foldl (ph w pl req) ([],-1)→vJ w pl op ep req kb (done++[g]) r:=by
  rintro c hc he
  rw[aq (by rw[hc];decide)]at he
  exact⟨b1,b2,b3,by rw[←he];exact bk,by rw[←he];exact bm,k3,by rw[←he];exact pZ⟩
 have PI:=fun h=>take _ h gy.symm
 have hle:=fun h=>leave _ h gy.symm
 rw[Ny (hR _) rfl,OX]
 simp only[go_sem,Df,Ju (hR _),GY,simprocAttr]
 simp only[OW,CH,Aj]at dT qE BE
 generalize hZ1:bG 3 (B1.map aj)=z1 at*
 generalize hZ0:bG 3 (B0.map aj)=z0 at*
 cases O1 with
 |false=>
  refine⟨r,?_,hle (by rfl)⟩
  simp only[go_sem,uA,hX,h4,h5,h8,k1,k2,BE,dT,qE,n8,simprocAttr]
 | true =>
  cases h1:decide (V0<V1)with
  |true=>
   refine⟨_,?_,PI (by simp[h1])⟩
   simp only[go_sem,uA,hX,h4,h5,h8,cG,oO,k1,k2,BE,km,dT,qE,n8,h1,zj,Gn,simprocAttr]
  | false =>
   cases h2:decide (V1=V0)with
   |false=>
    refine⟨r,?_,hle (by simp[h1,h2])⟩
    simp only[go_sem,uA,hX,h4,h5,h8,oO,k1,k2,BE,km,dT,qE,n8,h1,h2,simprocAttr]
   | true =>
    cases h3:cB B1 B0 with
    |false=>
     rw[h3]at aC
     refine⟨r,?_,hle (by simp[h1,h2,h3])⟩
     simp only[go_sem,uA,hX,h4,h5,h8,cG,oO,k1,k2,BE,kk,km,dT,qE,n8,h1,h2,W3,aC,simprocAttr]
    |true=>
     rw[h3]at aC
     refine⟨_,?_,PI (by simp[h1,h2,h3])⟩
     simp only[go_sem,uA,hX,h4,h5,h8,cG,oO,k1,k2,BE,kk,km,dT,qE,n8,h1,h2,W3,aC,zj,Gn,simprocAttr]
end
section
variable{s:ae} {w:W}
abbrev Gv (s:ae) (ρ:Nat→AV) (r:Rec):ae:=enterLoop (s.push r) (Gw ρ)
theorem akE {ρ:Nat→AV} {pl:List P} {op:Own} {ep:Nat} {req:Int} {kb:Nat} (hs:Ok s) (hw:Wk w) (hN:0<w.rs.l.length) (hp:gG pl) (dV:∀p∈pl,ch w p) (qG:pl=[]∨ep=3)
  (h4:ρ 4=.ptr s.ag.length 1 0) (h5:ρ 5=.ptr s.ag.length 2 0) (h8:ρ 8=.ptr s.ag.length 3 0) (cG:ρ 12=.ptr s.ag.length kb 0) (oO:ρ 13=.ptr s.ag.length (kb+1) 0):
  Hand AP s.loops.length (fun g=>bG 1 (g.map aD)) (Gv s ρ) (fun done r=>vJ w pl op ep req kb done r) (fun _ _=>false) (fun _ _ _=>False) (fun g=>g.length≤100) (s.ag.length+1) (s.loops.length+1) 100000:=by
 refine⟨fun r=>(hs.push _).enter,fun r=>by simp[Gv,enterLoop,ae.push],fun r=>by simp[Gv,enterLoop,ae.push],?_,fun _ _ _ _ _ _ _ _ h=>by cases h⟩
 intro done g r B ls hd hI hg _
 have hM:gE (fun r=>up (busy s.loops.length (enterLoop (s.push r) (Gw ρ))) B ls) s.ag.length:=YS hs
 have hX:∀r,busy s.loops.length (up (Gv s ρ r) B ls)=(fun r=>up (busy s.loops.length (enterLoop (s.push r) (Gw ρ))) B ls) r:=fun r=>aa9 (by simp[enterLoop,ae.push])
 exact akG (T:=fun r=>up (Gv s ρ r) B ls) hM hX (fun r=>abd (Vs (hs.push r))) (fun r=>((hs.push _).enter).up) hw hN hp dV qG hg h4 h5 h8 cG oO hI
theorem akF {F:cV→St→Option (AV×ae)} {ks:List K} {ρ:Nat→AV} {pl:List P} {op:Own} {ep:Nat} {req:Int} {kb c:Nat} {r:Rec} (hs:Ok s) (hw:Wk w) (hN:0<w.rs.l.length) (hp:gG pl) (dV:∀p∈pl,ch w p) (qG:pl=[]∨ep=3) (gg:c≤100)
  (h4:ρ 4=.ptr s.ag.length 1 0) (h5:ρ 5=.ptr s.ag.length 2 0) (h8:ρ 8=.ptr s.ag.length 3 0) (cG:ρ 12=.ptr s.ag.length kb 0) (oO:ρ 13=.ptr s.ag.length (kb+1) 0)
  (h55:ρ 55=.fn 58 [] [.bq [I c] 0,.bq [(eC 1 (eH w.rs.l.length)).v aD] 0]) (hI:vJ w pl op ep req kb [] r):
  ∃r',vJ w pl op ep req kb (bf c (eH w.rs.l.length)) r'∧go AP F (.c (.rangeFunc (.tmp 55) [56] Df uA)::ks) ⟨ρ,s.push r⟩=go AP F ks ⟨ρ,s.push r'⟩:=by
 have er:=hw.v.rl
 have xe:(eH w.rs.l.length)=[]∨(eC 1 (eH w.rs.l.length)).e=1:=by
  cases eH w.rs.l.length with
  |nil=>exact .inl rfl
  |cons _ _=>exact .inr rfl
 have nu:=yJ (k:=c) (l:=eH w.rs.l.length)
 have avj:(bf c (eH w.rs.l.length)).length≤2^12:=by
  refine kO nu ?_
  rw[Ri]
  exact jh (by decide) (by omega)
 obtain⟨b,r',aT,hE⟩:=Wu (akE hs hw hN hp dV qG h4 h5 h8 cG oO) (cnt:=c) (by omega) (l:=eH w.rs.l.length) (o:=(eC 1 (eH w.rs.l.length)).o) (e:=(eC 1 (eH w.rs.l.length)).e) (i:=r) (done:=[]) xe (by rw[Ri];omega) (by simp;omega) hI (fun g hg=>by
  have hl:=tz hg
  omega)
 obtain⟨rfl,A9⟩:=hE.never (fun _ _=>rfl)
 have hv:(eC 1 (eH w.rs.l.length)).v aD=.slice (eC 1 (eH w.rs.l.length)).o (eC 1 (eH w.rs.l.length)).e ((eH w.rs.l.length).map aD):=by simp only[Sl.v,kS]
 refine⟨r',A9,?_⟩
 rw[Ob (x:=.tmp 55) h55,hv]
 refine(hU (Option.bind · _) aT).trans ?_
 simp only[eK]
 exact Oa (m:=s.push r') (lp:=Gw ρ) rfl rfl rfl
def vl (w:W) (pl:List P) (req:Int):Int:=if jb w=0 then(if(dP w pl).2=0 then cond (wi req 0 (w.rs.l.length-1)) 0 6 else(dP w pl).2)else jb w
def Ku (w:W) (pl:List P) (req:Int):Option (List P):=pj w pl req 0 (w.rs.l.length+1)
def Kv (w:W) (pl:List P) (req:Int):AV:=.tuple [bG 3 ((if vl w pl req=0 then(Ku w pl req).getD []else[]).map aj),I (if vl w pl req=0 then(if(Ku w pl req).isSome=true then 0 else 12)else vl w pl req)]
theorem asa {pl:List P} {op:Own} {ep:Nat} {req:Int} (hs:Ok s) (hw:w.Ok) (hf:w.kn) (hp:gG pl) (qG:pl=[]∨ep=3):aw AP (.fn 10) [w.v,.slice op ep (pl.map aj),I req] s=some (Kv w pl req,s):=by
 have ho:∀r,aw AP (.fn 27) [w.v] (s.push r)=some (.tuple [if(dp w).2.2=0 then OW w else NP,I (jb w)],s.push r):=fun r=>aam (hs.push r) hw hf
 simp only[W.v,c8,Sl.v]at ho
 have n7:∀(m:ae) (a b:Int),aw AP (.fn 29) [.slice .full 1 [[I a],[I b]]] m=some (I (if a=0 then b else a),m):=fun m a b=>by rw[mS,agx]
 unfold Kv
 by_cases h0:jb w=0
 ·have jR := Rx h0
  have cz:Wk w:=⟨hw,hf,rm jR⟩
  have er:=cz.v.rl
  rw[ak jR,h0]at ho
  have FH:∀r,aw AP (.fn 28) [OW w,.slice op ep (pl.map aj)] (s.push r)=some (.tuple [I (dP w pl).1,I (dP w pl).2],s.push r):=fun r=>RG (hs.push r) cz hp qG
  have ft:∀r,aw AP (.fn 30) [OW w,I req] (s.push r)=some (I (cond (wi req 0 (w.rs.l.length-1)) 0 6),s.push r):=fun r=>abj cz
  have hE:vl w pl req=if(dP w pl).2=0 then cond (wi req 0 (w.rs.l.length-1)) 0 6 else(dP w pl).2:=by unfold vl;rw[ak h0]
  generalize he:(if(dP w pl).2=0 then cond (wi req 0 (w.rs.l.length-1)) 0 6 else(dP w pl).2)=e at*
  have W7:∀m:ae,aw AP (.fn 29) [.slice .full 1 [[I (dP w pl).2],[I (cond (wi req 0 (w.rs.l.length-1)) 0 6)]]] m=some (I e,m):=fun m=>by rw[n7,he]
  rw[hE]
  by_cases hz:e=0
  ·subst hz
   have W0:(dP w pl).2=0:=by
    apply qh
    intro h
    rw[aq h]at he;exact h he
   rw[ak W0]at he
   have qM:wi req 0 (w.rs.l.length-1)=true:=by
    cases hq:wi req 0 (w.rs.l.length-1)with
    |true=>rfl
    |false=>rw[hq]at he;exact absurd he (by decide)
   have XF:=iJ.1 qM
   have hN:0<w.rs.l.length:=by omega
   have bH:=ND cz hp W0
   have dV:∀p∈pl,ch w p:=fun p pY=>by
    obtain⟨j,hj⟩:=mY pY
    exact(BS cz (hp.ok p pY).1 (by have:=(hp.ok p pY).2;omega) (bH j p hj)).1
   have Xo:∀r,aw AP (.fn 31) [I ((2^w.rs.l.length-1:Nat):Int)] (s.push r)=some ((eC 1 (eH w.rs.l.length)).v aD,s.push r):=fun r=>by
    rw[Rm (by have:(2:Nat)^w.rs.l.length≤2^12:=jh (by decide) er;omega) (hs.push r),aoO (by omega),uw]
   have ke:=CJ (k:=w.rs.l.length) (by omega)
   have jQ:IntKind.i64.wrap (((2^w.rs.l.length:Nat):Int)-1)=((2^w.rs.l.length-1:Nat):Int):=by
    have h1:(2:Nat)^w.rs.l.length≤2^12:=jh (by decide) er
    have h2:1≤(2:Nat)^w.rs.l.length:=SD
    generalize(2:Nat)^w.rs.l.length=q at*
    rw[bW (by omega) (by omega)];omega
   have hl:(eC 1 (eH w.rs.l.length)).l.length=w.rs.l.length:=by rw[kS,Ri]
   have outer:∀(d c:Nat) ρ bx tk,c+d=w.rs.l.length+1→(ρ 4=.ptr s.ag.length 1 0∧ρ 5=.ptr s.ag.length 2 0∧ρ 8=.ptr s.ag.length 3 0∧ρ 10=(eC 1 (eH w.rs.l.length)).v aD∧ρ 11=I c∧bx[1]? =some [.slice op ep (pl.map aj)]∧bx[2]? =some [I req]∧bx[3]? =some [OW w])→
     go AP NW (.c (.loop Dg)::ang) ⟨ρ,s.push ⟨bx,tk⟩⟩=some (.tuple [bG 3 (((pj w pl req c d).getD []).map aj),I (if(pj w pl req c d).isSome=true then 0 else 12)],s):=by
    intro d
    induction d with
    |zero=>
     rintro c ρ bx tk hc ⟨g4,g5,g8,g10,g11,e1,e2,e3⟩
     have d1:decide ((c:Int)≤(w.rs.l.length:Int))=false:=by simp;omega
     rw[go_loop]
     simp only[Sl.v]at g10
     simp(maxSteps:=1000000) only[go_sem,Dg,Ix,g4,g5,g8,g10,g11,hs,hl,d1,Nat.reduceEqDiff,reduceCtorEq,Nat.reduceAdd,Nat.reduceMul,Nat.reduceSub,Int.reduceLT,Int.reduceLE,Int.reduceEq,Int.reduceAdd,Int.reduceSub,Int.reduceNeg,Int.reduceToNat,aP,↓reduceIte]
     rfl
    | succ d ih =>
     rintro c ρ bx tk hc ⟨g4,g5,g8,g10,g11,e1,e2,e3⟩
     have d1:decide ((c:Int)≤(w.rs.l.length:Int))=true:=by simp;omega
     have w1:IntKind.i64.wrap ((c:Int)+1)=((c+1:Nat):Int):=by rw[bW (by omega) (by omega)];omega
     have Kh:∀r,aw AP (.fn 32) [(eC 1 (eH w.rs.l.length)).v aD,I (c:Int)] (s.push r)=some (.fn 58 [] [.bq [I c] 0,.bq [(eC 1 (eH w.rs.l.length)).v aD] 0],s.push r):=fun r=>aai (Sl.close (n:=1) x4) (hs.push r)
     have O0:=(bd.1 e3).1
     have Ot:vJ w pl op ep req bx.length [] ⟨bx++[[.slice .aA 0 []],[I (-1)]],tk⟩:=
      ⟨uE e1,uE e2,uE e3,by simp;rfl,by simp,by omega,⟨by simp,fun p h=>absurd h (by simp),fun p h=>absurd h (by simp)⟩⟩
     have gV:∀ρ':Nat→AV,ρ' 4=.ptr s.ag.length 1 0→ρ' 5=.ptr s.ag.length 2 0→ρ' 8=.ptr s.ag.length 3 0→ρ' 10=(eC 1 (eH w.rs.l.length)).v aD→ρ' 11=I c→ρ' 12=.ptr s.ag.length bx.length 0→ρ' 13=.ptr s.ag.length (bx.length+1) 0→ρ' 55=.fn 58 [] [.bq [I c] 0,.bq [(eC 1 (eH w.rs.l.length)).v aD] 0]→
       go AP NW (.c (.rangeFunc (.tmp 55) [56] Df uA)::Yg) ⟨ρ',s.push ⟨bx++[[.slice .aA 0 []],[I (-1)]],tk⟩⟩=some (.tuple [bG 3 (((pj w pl req c (d+1)).getD []).map aj),I (if(pj w pl req c (d+1)).isSome=true then 0 else 12)],s):=by
      intro ρ' g4 g5 g8 g10 g11 g12 g13 g55
      obtain⟨⟨Ut,tk'⟩,A9,pW⟩:=akF (F:=NW) (ks:=Yg) hs cz hN hp dV qG (show c≤100 by omega) g4 g5 g8 g12 g13 g55 Ot
      rw[pW]
      obtain⟨i1,i2,i3,ik,im,_,_⟩:=A9
      simp only at i1 i2 i3 ik im
      have hF:(bf c (eH w.rs.l.length)).foldl (ph w pl req) ([],-1)=sA w pl req c:=rfl
      rw[hF]at ik im
      by_cases hm:0≤(sA w pl req c).2
      ·have OP:decide ((0:Int)≤(sA w pl req c).2)=true:=by simpa using hm
       have hW:pj w pl req c (d+1)=some (sA w pl req c).1:=by simp only[pj,ak hm]
       rw[hW]
       simp only[kQ,xW]
       have dc:=fun m:ae=>YC (es:=3) (xs:=(sA w pl req c).1.map aj) (m:=m)
       have Xn:=fun m:ae=>YA (es:=3) (xs:=(sA w pl req c).1.map aj) (m:=m)
       obtain⟨z,hz⟩:∃z,bG 3 ((sA w pl req c).1.map aj)=z:=⟨_,rfl⟩
       simp only[hz]at dc Xn ik⊢
       simp(maxSteps:=1000000) only[go_sem,Iy,g12,g13,ik,im,OP,dc,Xn,Nat.reduceEqDiff,reduceCtorEq,Nat.reduceAdd,Nat.reduceMul,Nat.reduceSub,Int.reduceLT,Int.reduceLE,Int.reduceEq,Int.reduceAdd,Int.reduceSub,Int.reduceNeg,Int.reduceToNat,aP,↓reduceIte]
      ·have OP:decide ((0:Int)≤(sA w pl req c).2)=false:=by simpa using hm
       have hW:pj w pl req c (d+1)=pj w pl req (c+1) d:=by simp only[pj,aq hm]
       rw[hW]
       simp(maxSteps:=1000000) only[go_sem,Iy,MP,g11,g12,g13,ik,im,OP,w1,Nat.reduceEqDiff,reduceCtorEq,Nat.reduceAdd,Nat.reduceMul,Nat.reduceSub,Int.reduceLT,Int.reduceLE,Int.reduceEq,Int.reduceAdd,Int.reduceSub,Int.reduceNeg,Int.reduceToNat,aP,↓reduceIte]
       refine ih (c+1) _ _ _ (by omega) ?_
       exact⟨g4,g5,g8,g10,rfl,i1,i2,i3⟩
     rw[go_loop]
     simp only[Sl.v]at g10 Kh gV
     simp(maxSteps:=1000000) only[go_sem,Dg,g4,g5,g8,g10,g11,hs,hl,d1,Kh,at_len,rD,qV,BH,mT,ri,gW,Nat.reduceEqDiff,reduceCtorEq,Nat.reduceAdd,Nat.reduceMul,Nat.reduceSub,Int.reduceLT,Int.reduceLE,Int.reduceEq,Int.reduceAdd,Int.reduceSub,Int.reduceNeg,Int.reduceToNat,aP,↓reduceIte]
     exact gV _ g4 g5 g8 g10 g11 rfl rfl rfl
   have d0:decide (¬(0:Int)=0)=false:=by decide
   have Xu:=outer (w.rs.l.length+1) 0
   simp only[bB]
   rw[aL (show AP 10=some yq from rfl) rfl]
   simp only[OW,W.v,c8,Sl.v]at ho FH ft Xo Xu⊢
   simp(maxSteps:=1000000) only[go_sem,De,hs,ho,FH,ft,W7,aY,eA,d0,ke,jQ,Xo,Nat.reduceEqDiff,reduceCtorEq,Nat.reduceAdd,Nat.reduceMul,Nat.reduceSub,Int.reduceLT,Int.reduceLE,Int.reduceEq,Int.reduceAdd,Int.reduceSub,Int.reduceNeg,Int.reduceToNat,aP,↓reduceIte]
   refine Xu _ _ _ (by omega) ?_
   exact⟨rfl,rfl,rfl,rfl,rfl,rfl,rfl,rfl⟩
  ·have hd:decide (¬e=0)=true:=by simp[hz]
   simp only[hz,cE]
   rw[aL (show AP 10=some yq from rfl) rfl]
   simp only[OW,W.v,c8,Sl.v]at ho FH ft⊢
   simp(maxSteps:=1000000) only[go_sem,De,hs,ho,FH,ft,W7,aY,eA,hd,Nat.reduceEqDiff,reduceCtorEq,Nat.reduceAdd,Nat.reduceMul,Nat.reduceSub,Int.reduceLT,Int.reduceLE,Int.reduceEq,Int.reduceAdd,Int.reduceSub,Int.reduceNeg,Int.reduceToNat,aP,↓reduceIte]
   rfl
 ·have hE:vl w pl req=jb w:=by unfold vl;rw[aq h0]
  rw[hE]
  simp only[h0,cE]
  rw[aL (show AP 10=some yq from rfl) rfl]
  simp only[W.v,c8,Sl.v]
  by_cases jR:(dp w).2.2=0
  ·rw[ak jR]at ho
   simp only[OW,W.v,c8,Sl.v]at ho
   simp(maxSteps:=1000000) only[go_sem,De,hs,ho,aY,h0,ig,Nat.reduceEqDiff,reduceCtorEq,Nat.reduceAdd,Nat.reduceMul,Nat.reduceSub,Int.reduceLT,Int.reduceLE,Int.reduceEq,Int.reduceAdd,Int.reduceSub,Int.reduceNeg,Int.reduceToNat,aP,↓reduceIte]
   rfl
  ·rw[aq jR]at ho
   simp(maxSteps:=1000000) only[go_sem,De,hs,ho,aY,h0,ig,Nat.reduceEqDiff,reduceCtorEq,Nat.reduceAdd,Nat.reduceMul,Nat.reduceSub,Int.reduceLT,Int.reduceLE,Int.reduceEq,Int.reduceAdd,Int.reduceSub,Int.reduceNeg,Int.reduceToNat,aP,↓reduceIte]
   rfl
end
section
variable{s:ae} {w:W}
theorem Ends.find {α ι:Type} {I:List α→ι→Prop} {st:α→Bool} {O:List α→α→ι→Prop} {i:ι}:∀{xs done:List α},Ends I (fun _ x=>st x) O done xs false i→∃x dn,xs.find? st=some x∧O dn x i
 |[],_,h=>absurd h.1 (by decide)
 | x :: r, done, h => by
  simp only[Ends]at h
  cases hs:st x with
  |true=>rw[ak hs]at h;exact⟨x,done,by rw[Lt,hs],h.2⟩
  |false=>
   rw[aq (by rw[hs];decide)]at h
   rw[Lt,hs]
   exact Ends.find h
end
section
variable{s:ae} {w:W}
end
section
variable{s:ae} {w:W}
theorem aaf {n:Nat}:∀i:Nat,i<n→(i:Int)∈eH n:=fun i hi=>cC.2 ⟨i,nP.2 hi,rfl⟩
theorem anX {l:List P}:ie l=-1∨∃p∈l,ie l=p.req:=by
 unfold ie
 cases h:l.getLast? with
 |none=>exact .inl rfl
 |some p=>exact .inr ⟨p,Sj h,rfl⟩
theorem VP.UP (hw:Wk w) {R:List P} (h:VP w R):dP w R=(0,0)∧gG R:=by
 have hz:zs w [] R:=abx fun j x hj=>by
  rw[kN]
  obtain⟨a,b,gJ⟩:∃a b,R=a++x::b∧a=R.take j:=⟨R.take j,R.drop (j+1),by rw[←eP hj,HB],rfl⟩
  rw[←gJ.2]
  have hR:=gJ.1
  have fH:x∈R:=bQ hj
  obtain⟨h0,h1,hx⟩:=h.mem x fH
  have pT:=h.kV
  have J4:=h.nc
  rw[hR,jW]at pT J4
  refine aqx hw h0 h1 hx ?_ ?_
  ·rcases anX (l:=a)with e|⟨p,hp,e⟩
   ·rw[e];omega
   ·rw[e];exact pT.2.2 p hp x (by simp)
  ·exact AJ.2 fun p hp=>J4.2.2 p hp x (by simp)
 refine⟨aeg hz,by have:=at6 hw hz;omega,fun p hp=>?_⟩
 obtain⟨h0,h1,hx⟩:=h.mem p hp
 obtain⟨dV,_,_,_,_,_,jQ,_⟩:=nF hw h0 h1 hx
 have hq:=hw.rL.an _ (W.qg h0 h1)
 have:=jQ.length_le
 exact⟨dV.ok,by omega⟩
theorem JC:∀{l g:List Int},g.Sublist l→g∈bf g.length l
 |_,_,.slnil=>by simp[bf]
 |_,_,.cons (l₁:=g) (l₂:=l) a h=>by
  have ih:=JC h
  cases g with
  |nil=>simp[bf]
  |cons b g=>simp only[dO,bf,dD];exact .inr ih
 |_,_,.cons_cons (l₁:=g) (l₂:=l) a h=>by
  have ih:=JC h
  simp only[dO,bf,dD,cC]
  exact .inl ⟨g,ih,rfl⟩
end
def dr (a b:List P) (n:Nat):Nat:=((List.range n).filter fun i:Nat=>ev a b (i:Int)).length
theorem UL {a b:List P} {n:Nat}:dr a b (n+1)=dr a b n+if ev a b (n:Int)=true then 1 else 0:=by
 unfold dr
 rw[Cp,oA,cj]
 congr 1
 cases h:ev a b (n:Int)<;>simp[h]
theorem NA {a b:List P} {n:Nat}:dr a b n≤n:=by
 unfold dr
 have:=nN (fun i:Nat=>ev a b (i:Int)) (List.range n)
 rwa [pE]at this
def I0 (w:W) (l:List P) (x b:List P):Bool:=
 decide (dr l x w.rs.l.length<dr l b w.rs.l.length)||(decide (dr l x w.rs.l.length=dr l b w.rs.l.length)&&(decide (bN w b<bN w x)||(decide (bN w x=bN w b)&&cB x b)))
section
variable{s:ae} {w:W}
theorem ZR {a b:List P} {o1 o2:Own} {e1 e2:Nat} (hs:Ok s) (er:w.rs.l.length≤1000) (h1:a=[]∨e1=3) (h2:b=[]∨e2=3) (la:a.length≤1000) (lb:b.length≤1000) (oa:∀p∈a,p.an.ok 1∧p.an.l.length≤1000) (ob:∀p∈b,p.an.ok 1∧p.an.l.length≤1000):
  aw AP (.fn 15) [w.v,.slice o1 e1 (a.map aj),.slice o2 e2 (b.map aj)] s=some (I (dr a b w.rs.l.length),s):=by
 have key:∀(j:Nat) ρ m,j≤w.rs.l.length→(ρ 1=.slice o1 e1 (a.map aj)∧ρ 2=.slice o2 e2 (b.map aj)∧ρ 3=.ptr s.ag.length 0 0∧ρ 7=I (dr a b j)∧ρ 8=I j∧m=s.push ⟨[c8 w],[]⟩)→
   go AP afy (.c (.loop CT)::amN) ⟨ρ,m⟩=some (I (dr a b w.rs.l.length),s):=by
  refine ck w.rs.l.length _ _ ?_ ?_
  ·rintro j ρ m hj ⟨g1,g2,g3,g7,g8,rfl⟩ ih
   have hc:∀r,aw AP (.fn 40) [.slice o1 e1 (a.map aj),.slice o2 e2 (b.map aj),I j] (s.push r)=some (B (ev a b (j:Int)),s.push r):=fun r=>arx (hs.push r) h1 h2 la lb oa ob
   have cz:=bK hj (show(w.rs.l.length:Int)<_ by omega)
   have hle:=NA (a:=a) (b:=b) (n:=j)
   have hw7:IntKind.i64.wrap ((dr a b j:Int)+1)=((dr a b j+1:Nat):Int):=by rw[bW (by omega) (by omega)];omega
   have Ki:=UL (a:=a) (b:=b) (n:=j)
   simp only[c8,Sl.v]
   cases hg:ev a b (j:Int)with
   |true=>
    rw[hg]at hc Ki
    simp only[go_sem,CT,g1,g2,g3,g7,g8,aS hj,hc,cz,hw7,simprocAttr]
    refine ih _ _ ?_
    exact⟨g1,g2,g3,by rw[Ki];rfl,rfl,rfl⟩
   |false=>
    rw[hg]at hc Ki
    simp only[go_sem,CT,g1,g2,g3,g8,aS hj,hc,cz,simprocAttr]
    refine ih _ _ ?_
    exact⟨g1,g2,g3,by rw[Ki];exact g7,rfl,rfl⟩
  ·rintro ρ m ⟨g1,g2,g3,g7,g8,rfl⟩
   simp only[c8,Sl.v]
   simp only[go_sem,CT,Ml,g3,g7,g8,bM,simprocAttr]
 rw[aL (show AP 15=some DV from rfl) rfl]
 simp only[W.v,c8,Sl.v]at key⊢
 simp only[go_sem,Tr,simprocAttr]
 refine key 0 _ _ (bg _) ?_
 exact⟨rfl,rfl,rfl,rfl,rfl,rfl⟩
end
theorem Uv {p:P} (h:p.an=fh p.an.l):cP p=p:=by unfold cP;rw[←h]
theorem aoK {l:List P} (h:∀p∈l,cP p=p):l.map cP=l:=by
 rw[zP h,List.map_id']
section
variable{w:W}
theorem Ry:∀{L g:List Int},L.Pairwise (· <·)→g.Pairwise (· <·)→(∀a∈g,a∈L)→g.Sublist L
 |[],[],_,_,_=>List.Sublist.refl _
 |[],a::g,_,_,h=>absurd (h a (by simp)) (by simp)
 |x::L,[],_,_,_=>List.nil_sublist _
 | x :: L, a :: g, hL, hg, h => by
  obtain⟨l1,l2⟩:=uu.1 hL
  obtain⟨g1,g2⟩:=uu.1 hg
  by_cases Bg:a=x
  ·subst Bg
   refine List.Sublist.cons_cons _ (Ry l2 g2 fun b hb=>?_)
   rcases eB.1 (h b (jf _ hb))with e|hm
   ·have:=g1 b hb;omega
   ·exact hm
  ·refine List.Sublist.cons _ (Ry l2 hg fun b hb=>?_)
   rcases eB.1 (h b hb)with e|hm
   ·rcases eB.1 (h a (by simp))with e2|gS
    ·exact absurd e2 Bg
    ·have h1:=l1 a gS
     rcases eB.1 hb with e3|hb
     ·omega
     ·have:=g1 b hb;omega
   ·exact hm
theorem SR {r:R}:∀{l:List Int} {last:Int},eN r last l=0→l.Pairwise (· <·)∧∀a∈l,last<a
 |[],_,_=>by simp
 | a :: l, last, h => by
  have h0:=(HR (w:=⟨0,⟨.aA,0,[]⟩,⟨.aA,0,[]⟩⟩) (st:=0) (len:=0) h).2
  have h2:eN r a l=0:=by
   simp only[eN]at h
   split at h
   ·split at h
    ·exact h
    ·exact absurd h (by decide)
   ·exact absurd h (by decide)
  obtain⟨i1,i2⟩:=SR h2
  exact⟨uu.2 ⟨i2,i1⟩,h0⟩
theorem ZM {i:Int} {p:P}:∀{n:Nat} {st t:Int},st≤t→t<st+n→p∈l8 w i t→p∈jJ w i st n
 |0,st,t,h1,h2,_=>by omega
 |n+1,st,t,h1,h2,hp=>by
  simp only[jJ,dD]
  by_cases e:t=st
  ·subst e;exact .inl hp
  ·exact .inr (ZM (by omega) (by omega) hp)
theorem aqQ (hw:Wk w) {p:P} {l:List P} (dI:p.an.ok 1) (cD:(p.an.l.length:Int)<1000000) (h:dN w p l=0):cP p∈dS w p.req:=by
 obtain⟨Gb,_,_,ew,ia,hn,Bd,cd⟩:=BS hw dI cD h
 have hq:=hw.rq Gb.r0 Gb.r1
 unfold dS
 refine ZM (t:=p.start) ew (by omega) ?_
 unfold l8
 refine cC.2 ⟨p.an.l,?_,rfl⟩
 rw[show(w.rq p.req).need.toNat=p.an.l.length by omega]
 refine JC (Ry (hq.CI.sublist Ls) (SR Bd).1 fun a ha=>?_)
 refine eS.2 ⟨?_,?_⟩
 ·have:=(HR (w:=w) (st:=0) (len:=0) Bd).1 a ha
  obtain⟨b,hb,e⟩:=fK.1 this
  rw[dY]at e
  rw[e];exact hb
 ·have:=zM.1 cd a ha
  simpa using this
theorem VP.Y7 (hw:Wk w) {l:List P} (hl:gG l) (h:(dP w l).2=0):VP w (l.map cP):=by
 have bH:=ND hw hl h
 have hf:∀(j:Nat) x,l[j]? =some x→_:=fun j x hj=>BS hw (hl.ok x (bQ hj)).1 (by have:=(hl.ok x (bQ hj)).2;omega) (bH j x hj)
 have key:∀n,n≤l.length→(l.take n).Pairwise (fun a b=>a.req<b.req∧dE w a b=false)∧∀p∈l.take n,p.req≤ie (l.take n):=by
  intro n
  induction n with
  |zero=>intro _;simp
  | succ n ih =>
   intro hn
   obtain⟨x,hx⟩:=get_some (l:=l) (k:=n) (by omega)
   obtain⟨i1,i2⟩:=ih (by omega)
   obtain⟨_,f1,f2,_⟩:=hf n x hx
   rw[Yn hx,fT hx]
   refine⟨?_,fun p hp=>?_⟩
   ·rw[jW]
    refine⟨i1,by simp,fun a ha b hb=>?_⟩
    rw[eJ]at hb;subst hb
    exact⟨by have:=i2 a ha;omega,AJ.1 f2 a ha⟩
   ·rcases dD.1 hp with hp|hp
    ·have:=i2 p hp;omega
    ·rw[eJ]at hp;rw[hp];exact zL _
 obtain⟨k1,_⟩:=key l.length (aH _)
 rw[jg]at k1
 refine⟨fun p hp=>?_,?_,?_⟩
 ·obtain⟨q,hq,rfl⟩:=cC.1 hp
  obtain⟨j,hj⟩:=mY hq
  have Gb:=(hf j q hj).1
  exact⟨Gb.r0,Gb.r1,aqQ (p:=q) hw (hl.ok q hq).1 (by have:=(hl.ok q hq).2;omega) (bH j q hj)⟩
 ·rw[ru];exact k1.imp fun h=>h.1
 ·rw[ru];exact k1.imp fun h=>h.2
theorem VP.Uw (hw:Wk w) {l:List P} (h:VP w l):l.map cP=l:=aoK fun p hp=>by
 obtain⟨h0,h1,h2⟩:=h.mem p hp
 exact Uv (nF hw h0 h1 h2).2.2.2.2.2.1
end
section
variable{w:W}
theorem Ux {p q:P} (h:kP p=kP q):cP p=cP q:=by
 unfold kP at h
 injection h with h1 h2
 injection h2 with h2 h3
 unfold cP
 rw[h3]
 cases p;cases q
 simp only at h1 h2⊢
 rw[h1,h2]
theorem VP.can (hw:Wk w) {R:List P} (h:VP w R):∀p∈R,cP p=p:=fun p hp=>by
 obtain⟨h0,h1,h2⟩:=h.mem p hp
 exact Uv (nF hw h0 h1 h2).2.2.2.2.2.1
theorem acO {R:List P} (h:R.Pairwise fun a b=>a.req<b.req) {p q:P} (hp:p∈R) (hq:q∈R) (he:p.req=q.req):p=q:=by
 obtain⟨i,hi⟩:=mY hp
 obtain⟨j,hj⟩:=mY hq
 obtain⟨sf,wX⟩:=bd.1 hi
 obtain⟨gR,wY⟩:=bd.1 hj
 have lU:=Cn.1 h
 rcases LI i j with eo|eo|eo
 ·have:=lU i j sf gR eo
  rw[wX,wY]at this;omega
 ·subst eo
  rw[hi]at hj;injection hj
 ·have:=lU j i gR sf eo
  rw[wX,wY]at this;omega
theorem VP.aM (hw:Wk w) {R:List P} (h:VP w R) {p:P} (hp:p∈R):aM R p.req=some p:=by
 obtain⟨q,hq⟩:=KR (l:=R) (i:=p.req) ⟨p,hp,rfl⟩
 obtain⟨q1,q2⟩:=ot hq
 rw[hq,acO h.kV q1 hp q2]
theorem aqo {R:List P} {i:Int} (h:∀p∈R,p.req≠i):Sc.aM R i=none:=by
 unfold Sc.aM
 rw[Hp]
 intro p hp he
 exact h p hp (by simpa using he)
theorem aed (hw:Wk w) {pl:List P} (cD:VP w pl) {g:List Int} {req:Int}:CA w (ej w pl g req):=by
 have bE:=(cD.UP hw).2
 refine⟨Az,fun i h0 h1 p hp=>?_,fun i h0 h1=>?_⟩
 ·rw[Fb h0 h1]at hp
  obtain⟨k,rfl⟩:=Int.eq_ofNat_of_zero_le h0
  have:=Ja hw bE (cD.iW hw) (i:=k) (by omega) hp
  exact⟨this.1,this.2.1⟩
 ·rw[Fb h0 h1]
  unfold hH
  split
  ·refine Cj _ ?_
   rw[KU]
   exact aqT hw h0 h1
  ·cases Sc.aM pl i<;>simp
theorem LR (hw:Wk w) {pl:List P} (cD:VP w pl) {g:List Int} {req:Int} (h0:0≤req) (h1:req<w.rs.l.length) {R:List P}:
  VF w (ej w pl g req) R↔VP w R∧(∀i:Nat,i<w.rs.l.length→ev pl R (i:Int)=vk g (i:Int))∧∃p∈R,p.req=req:=by
 constructor
 ·rintro⟨⟨m,a,n⟩,f⟩
  have hm:∀p∈R,0≤p.req∧p.req<w.rs.l.length∧p∈hH w pl g p.req:=fun p hp=>by
   obtain⟨q0,q1,q2⟩:=m p hp
   rw[Fb q0 q1]at q2
   exact⟨q0,q1,q2⟩
  have hR:VP w R:=by
   refine⟨fun p hp=>?_,a,n⟩
   obtain⟨q0,q1,q2⟩:=hm p hp
   refine⟨q0,q1,?_⟩
   unfold hH at q2
   split at q2
   ·have:=(eS.1 q2).1
    rwa [KU]at this
   ·rw[Option.mem_toList]at q2
    have hq:=(ot q2).1
    exact(cD.mem p hq).2.2
  have hf:∀i:Nat,i<w.rs.l.length→lM pl g req (i:Int)=false→∃p∈R,p.req=(i:Int):=fun i hi hc=>f i hi (by rw[UM hi];exact hc)
  refine⟨hR,fun i hi=>?_,?_⟩
  · -- which are changed
   cases bH:vk g (i:Int)with
   | true =>
    unfold ev
    rw[xI,rJ]
    intro he
    cases hp:Sc.aM pl (i:Int)with
    |none=>
     obtain⟨p,tG,sj⟩:=hf i hi (by unfold lM;rw[bH,ak rfl,hp];rfl)
     have:=hR.aM hw tG
     rw[sj]at this
     rw[hp,this]at he
     simp at he
    | some q =>
     rw[hp]at he
     cases hr:Sc.aM R (i:Int)with
     |none=>rw[hr]at he;simp at he
     |some p=>
      rw[hr]at he
      simp only[dK,fl]at he
      obtain⟨p1,p2⟩:=ot hr
      have:=(hm p p1).2.2
      unfold hH at this
      rw[p2,ak bH]at this
      have:=(eS.1 this).2
      unfold B3 at this
      rw[hp]at this
      simp only[xW,kQ,iq,xI,rJ]at this
      exact this (AB.2 he.symm)
   | false =>
    unfold ev
    rw[Bool.not_eq_false',dY]
    cases hp:Sc.aM pl (i:Int)with
    | none =>
     have:Sc.aM R (i:Int)=none:=aqo fun p tG sj=>by
      have:=(hm p tG).2.2
      unfold hH at this
      rw[sj,aq (by rw[bH];decide),hp]at this
      simp at this
     rw[this]
    |some q=>
     obtain⟨p,tG,sj⟩:=hf i hi (by unfold lM;rw[bH,aq (by decide),hp];rfl)
     have h2:=hR.aM hw tG
     rw[sj]at h2
     have:=(hm p tG).2.2
     unfold hH at this
     rw[sj,aq (by rw[bH];decide),hp]at this
     simp only[Option.toList_some,eJ]at this
     rw[h2,this]
  ·obtain⟨p,hp,he⟩:=hf req.toNat (by omega) (by
    have e:((req.toNat:Nat):Int)=req:=by omega
    unfold lM
    rw[e,bP rfl]
    split<;>simp)
   exact⟨p,hp,by omega⟩
 ·rintro⟨hR,hc,p0,y9,jl⟩
  have dI:∀p∈R,Sc.aM R p.req=some p:=fun p hp=>hR.aM hw hp
  refine⟨⟨fun p hp=>?_,hR.kV,hR.nc⟩,fun i hi eV=>?_⟩
  ·obtain⟨q0,q1,q2⟩:=hR.mem p hp
   refine⟨q0,q1,?_⟩
   rw[Fb q0 q1]
   have ld:=hc p.req.toNat (by omega)
   rw[show((p.req.toNat:Nat):Int)=p.req by omega]at ld
   unfold ev at ld
   rw[dI p hp]at ld
   unfold hH
   cases bH:vk g p.req with
   | true =>
    rw[ak rfl]
    rw[bH,xI,rJ]at ld
    refine eS.2 ⟨by rw[KU];exact q2,?_⟩
    unfold B3
    cases hq:Sc.aM pl p.req with
    |none=>rfl
    |some q=>
     rw[hq]at ld
     simp only[xW,kQ,iq,xI,rJ]
     intro e
     exact ld (by rw[dK,dK,AB.1 e])
   | false =>
    rw[aq (by decide)]
    rw[bH,Bool.not_eq_false',dY]at ld
    cases hq:Sc.aM pl p.req with
    |none=>rw[hq]at ld;simp at ld
    |some q=>
     rw[hq]at ld
     simp only[dK,fl]at ld
     obtain⟨k1,k2⟩:=ot hq
     have:=Ux ld
     rw[cD.can hw q k1,hR.can hw p hp]at this
     rw[this];simp
  ·rw [UM hi] at eV
   by_cases Xe:(i:Int)=req
   ·exact⟨p0,y9,by omega⟩
   ·have ld:=hc i hi
    unfold lM at eV
    unfold ev at ld
    have hex:Sc.aM R (i:Int)≠none:=by
     intro hn
     rw[hn]at ld
     cases bH:vk g (i:Int)with
     | true =>
      rw[bH,ak rfl,bS Xe,mW,sQ]at eV
      have:Sc.aM pl (i:Int)=none:=by
       cases hq:Sc.aM pl (i:Int)with
       |none=>rfl
       |some q=>rw[hq]at eV;simp at eV
      rw[bH,this]at ld
      simp at ld
     | false =>
      rw[bH,aq (by decide),bS Xe,mW,sQ]at eV
      cases hq:Sc.aM pl (i:Int)with
      |none=>rw[hq]at eV;simp at eV
      |some q=>
       rw[bH,hq]at ld
       simp at ld
    obtain⟨p,hp⟩:=Option.ne_none_iff_exists'.1 hex
    obtain⟨k1,k2⟩:=ot hp
    exact⟨p,k1,k2⟩
end
theorem ac4 {y:List P}:∀{a b:List P},a.map kP=b.map kP→cB a y=cB b y:=by
 induction y with
 | nil =>
  intro a b h
  cases a with
  |nil=>cases b with
   |nil=>rfl
   |cons=>simp at h
  |cons=>cases b with
   |nil=>simp at h
   |cons=>rfl
 | cons z t ih =>
  intro a b h
  cases a with
  |nil=>cases b with
   |nil=>rfl
   |cons=>simp at h
  | cons x r => cases b with
   |nil=>simp at h
   |cons x' r'=>
    simp only[iM,vM]at h
    simp only[cB,h.1,ih h.2]
theorem Un {a b c:List P} (h1:cB a b=false) (h2:cB b c=false):cB a c=false:=by
 cases h:cB a c with
 |false=>rfl
 |true=>
  cases hb:cB b a with
  |true=>rw[DB hb h]at h2;exact absurd h2 (by decide)
  |false=>rw[ac4 (Np h1 hb),h2]at h;exact absurd h (by decide)
section
variable{w:W}
def wR (R:List P) (req:Int):Prop:=∃p∈R,p.req=req
theorem Be {R:List P} {req:Int}:(aM R req).isSome=true↔wR R req:=by
 constructor
 ·intro h
  obtain⟨p,hp⟩:=oC.1 h
  exact⟨p,(ot hp).1,(ot hp).2⟩
 ·intro h
  obtain⟨p,hp⟩:=KR h
  rw[hp];rfl
structure zV (w:W) (pl:List P) (req:Int) (Q:List P):Prop where
 vp:VP w Q
 has:wR Q req
 min:∀R,VP w R→wR R req→I0 w pl R Q=false
theorem Ns {pl a b:List P}:I0 w pl a b=false↔¬dr pl a w.rs.l.length<dr pl b w.rs.l.length∧(dr pl a w.rs.l.length=dr pl b w.rs.l.length→¬bN w b<bN w a∧(bN w a=bN w b→cB a b=false)):=by
 unfold I0
 rw[Ll,rJ]
 refine and_congr_right fun _=>?_
 constructor
 ·intro h he
  rw[bP he,iq,Ll,rJ]at h
  refine⟨h.1,fun hv=>?_⟩
  have:=h.2
  rw[bP hv,iq]at this
  exact this
 ·intro h
  by_cases he:dr pl a w.rs.l.length=dr pl b w.rs.l.length
  ·obtain⟨h1,h2⟩:=h he
   rw[bP he,iq,Ll,rJ]
   refine⟨h1,?_⟩
   by_cases hv:bN w a=bN w b
   ·rw[bP hv,h2 hv];rfl
   ·rw[bS hv];rfl
  ·rw[bS he];rfl
theorem LY (hw:Wk w) {X:List P}:X∈qd w (eH w.rs.l.length) 0 w.rs.l.length []↔VP w X:=by
 rw[KX hw (by omega) VP.nil (fun p hp=>absurd hp (by simp))]
 constructor
 ·exact fun h=>h.1
 ·intro h
  refine⟨h,X,rfl,fun p hp=>?_⟩
  obtain⟨h0,h1,_⟩:=h.mem p hp
  exact⟨by omega,cC.2 ⟨p.req.toNat,nP.2 (by omega),by omega⟩⟩
theorem VF.nn (hw:Wk w) {all:List (Sl P×Bool)} {R:List P} (h:VF w all R):0≤bN w R:=by
 rw[←h.vc.val hw]
 exact(G9 hw fun i hi=>BM h.vc.q9 hi).1
theorem ac8 (hw:Wk w) {pl:List P} (cD:VP w pl) {g:List Int} {req:Int} (h0:0≤req) (h1:req<w.rs.l.length):
  ((∀R,¬VF w (ej w pl g req) R)∧gZ w (ej w pl g req)=([],0,false))∨
  ∃Q,VF w (ej w pl g req) Q∧gZ w (ej w pl g req)=(Q,bN w Q,true)∧∀R,VF w (ej w pl g req) R→bN w R≤bN w Q∧(bN w R=bN w Q→cB R Q=false):=by
 have hA:=aed hw cD (g:=g) (req:=req)
 by_cases hex:∃R,VF w (ej w pl g req) R
 ·right
  obtain⟨M,hM,hMv⟩:=aoN hw hA hex
  classical
  have iU:∀X,X∈(qd w (eH w.rs.l.length) 0 w.rs.l.length []).filter (fun R=>decide (VF w (ej w pl g req) R))↔VF w (ej w pl g req) X:=fun X=>by
   rw[eS,dY,LY hw]
   exact⟨fun h=>h.2,fun h=>⟨((LR hw cD h0 h1).1 h).1,h⟩⟩
  cases hL:(qd w (eH w.rs.l.length) 0 w.rs.l.length []).filter (fun R=>decide (VF w (ej w pl g req) R))with
  |nil=>
   have:=(iU M).2 hM
   rw[hL]at this;exact absurd this (by simp)
  | cons b r =>
   rw[hL]at iU
   obtain⟨s1,s2,s3,s4,s5⟩:=Nr (w:=w) (l:=r) (b:=b)
   have hQ:VF w (ej w pl g req) (kW w b r):=(iU _).1 (by
    rcases s1 with h|h
    ·rw[h];simp
    ·exact jf _ h)
   have fm:∀R,VF w (ej w pl g req) R→bN w R≤bN w (kW w b r)∧(bN w R=bN w (kW w b r)→cB R (kW w b r)=false):=fun R hR=>by
    rcases eB.1 ((iU R).2 hR)with e|e
    ·rw[e];exact⟨s2,s4⟩
    ·exact⟨s3 R e,s5 R e⟩
   have hv:bN w (kW w b r)=po w (ej w pl g req):=by
    have h1:=(fm M hM).1
    have h2:=hQ.le_max hw hA
    omega
   refine⟨kW w b r,hQ,?_,fm⟩
   rw[ac9 hw hA hQ hv fun R hR FC=>(fm R hR).2 (by omega),hv]
 ·left
  have gU:∀R,¬VF w (ej w pl g req) R:=fun R h=>hex ⟨R,h⟩
  exact⟨gU,ada hw hA gU⟩
def Ch (w:W) (pl:List P) (req:Int) (done:List (List Int)) (st:List P×Int):Prop:=
 (st=([],-1)∧∀g∈done,∀R,¬VF w (ej w pl g req) R)∨
 ((∃g∈done,VF w (ej w pl g req) st.1)∧st.2=bN w st.1∧0≤st.2∧∀g∈done,∀R,VF w (ej w pl g req) R→bN w R≤bN w st.1∧(bN w R=bN w st.1→cB R st.1=false))
theorem akC (hw : Wk w) {pl : List P} (cD : VP w pl) {req : Int} (h0 : 0 ≤ req) (h1 : req < w.rs.l.length) {done : List (List Int)} {st : List P × Int} {g : List Int} (h : Ch w pl req done st) : Ch w pl req (done ++ [g]) (ph w pl req st g) := by
 unfold ph
 rcases ac8 hw cD (g:=g) h0 h1 with⟨gU,hb⟩|⟨Q,hQ,hb,fm⟩
 ·rw[hb]
  simp only[jL,ef,cE]
  rcases h with⟨h1,h2⟩|⟨⟨g0,uZ,hv⟩,h2,h3,h4⟩
  ·left
   refine⟨h1,fun g' bu=>?_⟩
   rcases dD.1 bu with bu|bu
   ·exact h2 g' bu
   ·rw[eJ.1 bu];exact gU
  ·right
   refine⟨⟨g0,pF _ uZ,hv⟩,h2,h3,fun g' bu R hR=>?_⟩
   rcases dD.1 bu with bu|bu
   ·exact h4 g' bu R hR
   ·rw[eJ.1 bu]at hR;exact absurd hR (gU R)
 ·rw [hb]
  have w9:=hQ.nn hw
  simp only[iq]
  rcases h with⟨e,h2⟩|⟨⟨g0,uZ,hv⟩,h2,h3,h4⟩
  ·rw[e,ak (by simp;left;omega)]
   right
   refine⟨⟨g,by simp,hQ⟩,rfl,w9,fun g' bu R hR=>?_⟩
   rcases dD.1 bu with bu|bu
   ·exact absurd hR (h2 g' bu R)
   ·rw[eJ.1 bu]at hR;exact fm R hR
  ·by_cases hc:(decide (st.2<bN w Q)||(decide (bN w Q=st.2)&&cB Q st.1))=true
   ·rw [ak hc]
    right
    simp only[ug,dB,dY]at hc
    refine⟨⟨g,by simp,hQ⟩,rfl,w9,fun g' bu R hR=>?_⟩
    rcases dD.1 bu with bu|bu
    ·obtain⟨k1,k2⟩:=h4 g' bu R hR
     rcases hc with hc|⟨hc,lQ⟩
     ·exact⟨by show bN w R≤bN w Q;omega,fun hv=>by have:bN w R=bN w Q:=hv;omega⟩
     ·refine⟨by show bN w R≤bN w Q;omega,fun hv=>?_⟩
      have hv:bN w R=bN w Q:=hv
      show cB R Q=false
      have aie:cB st.1 Q=false:=by
       cases hx:cB st.1 Q with
       |false=>rfl
       |true=>
        have:=DB lQ hx
        rw[Nn]at this;exact absurd this (by decide)
      exact Un (k2 (by omega)) aie
    ·rw[eJ.1 bu]at hR;exact fm R hR
   ·rw[aq hc]
    right
    have oS:¬st.2<bN w Q∧(bN w Q=st.2→cB Q st.1=false):=by
     simp only[ug,dB,dY,not_or,not_and]at hc
     exact⟨hc.1,fun e=>by simpa using hc.2 e⟩
    refine⟨⟨g0,pF _ uZ,hv⟩,h2,h3,fun g' bu R hR=>?_⟩
    rcases dD.1 bu with bu|bu
    ·exact h4 g' bu R hR
    ·rw[eJ.1 bu]at hR
     obtain⟨k1,k2⟩:=fm R hR
     exact⟨by omega,fun hv=>Un (k2 (by omega)) (oS.2 (by omega))⟩
theorem akB (hw:Wk w) {pl:List P} (cD:VP w pl) {req:Int} (h0:0≤req) (h1:req<w.rs.l.length) (c:Nat):Ch w pl req (bf c (eH w.rs.l.length)) (sA w pl req c):=by
 have key:∀(r done:List (List Int)) st,Ch w pl req done st→Ch w pl req (done++r) (r.foldl (ph w pl req) st):=by
  intro r
  induction r with
  |nil=>intro done st h;simpa using h
  |cons g r ih=>
   intro done st h
   have:=ih (done++[g]) _ (akC hw cD h0 h1 (g:=g) h)
   rw[gW,List.singleton_append]at this
   exact this
 have:=key (bf c (eH w.rs.l.length)) [] ([],-1) (.inl ⟨rfl,fun g hg=>absurd hg (by simp)⟩)
 rw[kN]at this
 exact this
end
section
variable{w:W}
theorem UK {pl R:List P} {n:Nat}:((eH n).filter fun i=>ev pl R i).length=dr pl R n:=by
 unfold dr eH
 rw[List.filter_map,bY];rfl
theorem UO (hw:Wk w) {pl:List P} (cD:VP w pl) {req:Int} (h0:0≤req) (h1:req<w.rs.l.length) {R:List P} (hR:VP w R) (hr:wR R req):∃g∈bf (dr pl R w.rs.l.length) (eH w.rs.l.length),VF w (ej w pl g req) R:=by
 refine⟨(eH w.rs.l.length).filter fun i=>ev pl R i,?_,?_⟩
 ·rw[←UK]
  exact JC Ls
 ·rw[LR hw cD h0 h1]
  refine⟨hR,fun i hi=>?_,hr⟩
  unfold vk
  rw[vI,fK]
  constructor
  ·intro h
   exact⟨(i:Int),eS.2 ⟨aaf i hi,h⟩,by simp⟩
  ·rintro⟨a,ha,e⟩
   rw[dY]at e
   rw[e];exact(eS.1 ha).2
theorem abT (hw:Wk w) {pl:List P} (cD:VP w pl) {req:Int} (h0:0≤req) (h1:req<w.rs.l.length) {c:Nat} {g:List Int} (hg:g∈bf c (eH w.rs.l.length)) {R:List P} (h:VF w (ej w pl g req) R):VP w R∧wR R req∧dr pl R w.rs.l.length=c:=by
 obtain⟨hR,hc,hr⟩:=(LR hw cD h0 h1).1 h
 refine⟨hR,hr,?_⟩
 obtain⟨ga,gi⟩:=ahu hg
 rw[←UK,←tz hg]
 congr 1
 refine z6 (Cj _ Rg) ga fun x=>?_
 rw[eS]
 constructor
 ·rintro⟨hx,mG⟩
  obtain⟨x0,x1⟩:=Rh x hx
  have:=hc x.toNat (by omega)
  rw[show((x.toNat:Nat):Int)=x by omega,mG]at this
  obtain⟨a,ha,e⟩:=fK.1 this.symm
  rw[dY]at e
  rw[e];exact ha
 ·intro hx
  obtain⟨x0,x1⟩:=gi x hx
  have:=hc x.toNat (by omega)
  rw[show((x.toNat:Nat):Int)=x by omega]at this
  refine⟨by have:=aaf (n:=w.rs.l.length) x.toNat (by omega);rwa [show((x.toNat:Nat):Int)=x by omega]at this,?_⟩
  rw[this]
  exact fK.2 ⟨x,hx,by simp⟩
theorem X8 (hw:Wk w) {pl:List P} (cD:VP w pl) {req:Int} (h0:0≤req) (h1:req<w.rs.l.length):∀(d c:Nat),c+d=w.rs.l.length+1→(∀R,VP w R→wR R req→c≤dr pl R w.rs.l.length)→
  (∃Q,pj w pl req c d=some Q∧zV w pl req Q)∨(pj w pl req c d=none∧∀R,VP w R→¬wR R req)
 |0,c,hc,ew=>by
  right
  refine⟨rfl,fun R hR hr=>?_⟩
  have:=ew R hR hr
  have:=NA (a:=pl) (b:=R) (n:=w.rs.l.length)
  omega
 | d + 1, c, hc, ew => by
  have hJ:=akB hw cD h0 h1 c
  simp only[pj]
  rcases hJ with⟨e,gU⟩|⟨⟨g,hg,hv⟩,h2,h3,h4⟩
  ·rw[aq (by rw[e];decide)]
   refine X8 hw cD h0 h1 d (c+1) (by omega) fun R hR hr=>?_
   have hle:=ew R hR hr
   by_cases eV:dr pl R w.rs.l.length=c
   ·obtain⟨g,hg,hv⟩:=UO hw cD h0 h1 hR hr
    rw[eV]at hg
    exact absurd hv (gU g hg R)
   ·omega
  ·rw[ak h3]
   left
   refine⟨_,rfl,?_⟩
   obtain⟨k1,k2,k3⟩:=abT hw cD h0 h1 hg hv
   refine⟨k1,k2,fun R hR hr=>?_⟩
   rw[Ns]
   have hle:=ew R hR hr
   refine⟨by omega,fun he=>?_⟩
   obtain⟨g',bu,nC⟩:=UO hw cD h0 h1 hR hr
   rw[he,k3]at bu
   obtain⟨m1,m2⟩:=h4 g' bu R nC
   exact⟨by omega,m2⟩
theorem akD (hw:Wk w) {pl:List P} (cD:VP w pl) {req:Int} (h0:0≤req) (h1:req<w.rs.l.length):(∃Q,Ku w pl req=some Q∧zV w pl req Q)∨(Ku w pl req=none∧∀R,VP w R→¬wR R req):=
 X8 hw cD h0 h1 (w.rs.l.length+1) 0 (by omega) fun _ _ _=>bg _
theorem UJ {a b:List P} {n:Nat}:dr (a.map cP) (b.map cP) n=dr a b n:=by
 unfold dr
 congr 2
 funext i
 exact UN
theorem GN {l:List P} {i:Int}:(aM (l.map cP) i).isSome=(aM l i).isSome:=by
 unfold aM
 rw[List.find?_map,Option.isSome_map];rfl
theorem Cw (hw:Wk w) (h0:(dp w).2.2=0) {R:List P}:VP (cW w) R↔VP w R:=by
 rw[←LY hw,←LY (hw.c h0),ym]
 rw[QO hw (by omega) (fun x hx=>absurd hx (by simp))]
theorem abP (hw:Wk w) (h0:(dp w).2.2=0) {pl:List P} {req:Int} {Q:List P} (h:zV (cW w) pl req Q):zV w pl req Q:=by
 have hv:∀R,VP w R→bN (cW w) R=bN w R:=fun R hR=>by
  have:=abe (w:=w) (l:=R) fun x hx=>⟨(hR.mem x hx).1,(hR.mem x hx).2.1⟩
  rwa [hR.Uw hw]at this
 have hQ:=(Cw hw h0).1 h.vp
 refine⟨hQ,h.has,fun R hR hr=>?_⟩
 have:=h.min R ((Cw hw h0).2 hR) hr
 unfold I0 at this⊢
 rw[ym,hv R hR,hv Q hQ]at this
 exact this
end
section
variable{w:W}
theorem VP.Z3 (hw:Wk w) {R:List P} (h:VP w R):(R.map (·.req)).map (fun i=>(Sc.aM R i).getD bV)=R:=by
 rw[vO]
 refine(zP fun p hp=>?_).trans (List.map_id' R)
 show(Sc.aM R p.req).getD bV=p
 rw[h.aM hw hp];rfl
theorem I8 {a b:List P} {n:Nat}:dr a b n=0↔∀i:Nat,i<n→ev a b (i:Int)=false:=by
 unfold dr
 rw[abH,R9]
 constructor
 ·intro h i hi
  have:=h i (nP.2 hi)
  simpa using this
 ·intro h i hi
  rw[h i (nP.1 hi)];decide
theorem Nz (hw:Wk w) {a b:List P} (ha:VP w a) (hb:VP w b):dr a b w.rs.l.length=0↔a=b:=by
 constructor
 ·intro h
  have hc:=I8.1 h
  have hk:∀i:Int,0≤i→i<w.rs.l.length→(aM a i).map kP=(aM b i).map kP:=fun i h0 h1=>by
   have:=hc i.toNat (by omega)
   rw[show((i.toNat:Nat):Int)=i by omega]at this
   unfold ev at this
   simpa using this
  have jk:∀i:Int,0≤i→i<w.rs.l.length→aM a i=aM b i:=fun i h0 h1=>by
   have:=hk i h0 h1
   cases hp:aM a i with
   |none=>rw[hp]at this;cases hq:aM b i with
    |none=>rfl
    |some q=>rw[hq]at this;simp at this
   | some p => rw [hp] at this; cases hq : aM b i with
    |none=>rw[hq]at this;simp at this
    |some q=>
     rw[hq]at this
     simp only[dK,fl]at this
     have h2:=Ux this
     rw[ha.can hw p (ot hp).1,hb.can hw q (ot hq).1]at h2
     rw[h2]
  have ft:a.map (·.req)=b.map (·.req):=by
   refine z6 (by rw[ru];exact ha.kV) (by rw[ru];exact hb.kV) fun x=>?_
   rw[cC,cC]
   constructor
   ·rintro⟨p,hp,rfl⟩
    obtain⟨h0,h1,_⟩:=ha.mem p hp
    have:=jk p.req h0 h1
    rw[ha.aM hw hp]at this
    exact⟨p,(ot this.symm).1,rfl⟩
   ·rintro⟨p,hp,rfl⟩
    obtain⟨h0,h1,_⟩:=hb.mem p hp
    have:=jk p.req h0 h1
    rw[hb.aM hw hp]at this
    exact⟨p,(ot this).1,rfl⟩
  rw[←ha.Z3 hw,←hb.Z3 hw,ft]
  refine zP fun i hi=>?_
  obtain⟨p,hp,rfl⟩:=cC.1 hi
  obtain⟨h0,h1,_⟩:=hb.mem p hp
  rw[jk p.req h0 h1]
 ·rintro rfl
  rw[I8]
  intro i _
  unfold ev;simp
theorem Rn:∀{a b:List P},pw a b=true↔a.map kP=b.map kP
 |[],[]=>by simp[pw]
 |[],_::_=>by simp[pw]
 |_::_,[]=>by simp[pw]
 |x::a,y::b=>by
  simp only[pw,dB,dY,iM,vM,Rn (a:=a),U1]
theorem RD {a b:List P}:∀{k:Nat},(gn w a b k).length≤dr a b k
 |0=>aH _
 | k + 1 => by
  have ih:=RD (a:=a) (b:=b) (k:=k)
  rw[UL]
  simp only[gn]
  cases hc:ev a b (k:Int)with
  |false=>simpa using ih
  |true=>
   split
   ·rw[cj,xR,ak rfl];omega
   ·rw[ak rfl];omega
theorem aaW {a b:List P}:∀{k i:Nat},i<k→ev a b (i:Int)=true→tA (gn w a b k) (w.rq (i:Int)).bw=true
 |0,i,h,_=>by omega
 | k + 1, i, h, hc => by
  simp only[gn]
  by_cases hik:i=k
  ·subst hik
   rw[hc,iq]
   cases hh:tA (gn w a b i) (w.rq (i:Int)).bw with
   |true=>simpa using hh
   |false=>
    simp only[mW,bB]
    unfold tA
    rw[vL]
    simp
  ·have ih:=aaW (a:=a) (b:=b) (k:=k) (i:=i) (by omega) hc
   split
   ·unfold tA at ih⊢
    rw[vL,ih];rfl
   ·exact ih
theorem RE {a b:List P}:∀{k:Nat} {m:ByteArray},m∈gn w a b k→∃i:Nat,i<k∧ev a b (i:Int)=true∧(w.rq (i:Int)).bw=m
 |0,m,h=>by simp[gn]at h
 | k + 1, m, h => by
  simp only[gn]at h
  split at h
  ·rename_i hc
   rw[dB]at hc
   rcases dD.1 h with h|h
   ·obtain⟨i,h1,h2,h3⟩:=RE h
    exact⟨i,by omega,h2,h3⟩
   ·rw[eJ]at h
    exact⟨k,by omega,hc.1,h.symm⟩
  ·obtain⟨i,h1,h2,h3⟩:=RE h
   exact⟨i,by omega,h2,h3⟩
theorem as8 {a b:List P} {k:Nat}:gn w a b k=[]↔dr a b k=0:=by
 constructor
 ·intro h
  rw[I8]
  intro i hi
  cases hc:ev a b (i:Int)with
  |false=>rfl
  |true=>
   have:=aaW (w:=w) hi hc
   rw[h]at this
   simp[tA]at this
 ·intro h
  have:=RD (w:=w) (a:=a) (b:=b) (k:=k)
  exact sU (by omega)
theorem QM {l:List P} {i:Int}:decide (0≤du (fun p:P=>decide (p.req=i)) l)=(aM l i).isSome:=by
 unfold aM
 rcases AW (p:=fun p:P=>decide (p.req=i)) (l:=l)with⟨h1,h2⟩|⟨k,x,h1,_,h2⟩
 ·rw[h1,h2];rfl
 ·rw[h1,h2]
  exact bP (by omega)
theorem QN {l:List P} {i:Int}:decide (du (fun p:P=>decide (p.req=i)) l<0)=!(aM l i).isSome:=by
 rw[←QM]
 cases h:decide (0≤du (fun p:P=>decide (p.req=i)) l)with
 |true=>exact bS (by have:=KM h;omega)
 |false=>exact bP (by have:=of_decide_eq_false h;omega)
theorem gG.sm {l:List P} (h:gG l):HM l:=⟨by have:=h.len;omega,fun p hp=>⟨(h.ok p hp).1,by have:=(h.ok p hp).2;omega⟩⟩
theorem zV.rL (hw : Wk w) {a b Q : List P} {i : Int} (ha : VP w (a.map cP)) (hQ : zV w (a.map cP) i Q) :
  (pw Q a=(aM a i).isSome)∧(dr a Q w.rs.l.length=0↔(aM a i).isSome=true)∧(VP w (b.map cP)→(aM b i).isSome=true→¬dr a b w.rs.l.length<dr a Q w.rs.l.length):=by
 have hQc:=hQ.vp.Uw hw
 have hc:dr (a.map cP) Q w.rs.l.length=dr a Q w.rs.l.length:=by
  have:=UJ (a:=a) (b:=Q) (n:=w.rs.l.length)
  rwa [hQc]at this
 have hk:(a.map cP).map kP=a.map kP:=by rw[vO];rfl
 have hn:dr a Q w.rs.l.length=0↔(aM a i).isSome=true:=by
  constructor
  ·intro h
   have:=(Nz hw ha hQ.vp).1 (by rw[hc];exact h)
   have h2:=Be.2 hQ.has
   rw[←this,GN]at h2
   exact h2
  ·intro h
   have hm:=hQ.min (a.map cP) ha (Be.1 (by rw[GN];exact h))
   rw[Ns,(Nz hw ha ha).2 rfl,hc]at hm
   omega
 refine⟨?_,hn,fun hb hi=>?_⟩
 ·cases hp : (aM a i).isSome with
  |true=>
   have:=(Nz hw ha hQ.vp).1 (by rw[hc];exact hn.2 hp)
   rw[Rn,←this,hk]
  | false =>
   cases hs:pw Q a with
   |false=>rfl
   | true =>
    have h1:=Rn.1 hs
    have:(aM a i).isSome=true:=hn.1 (by
     rw[I8]
     intro j _
     have jk:∀(x y:List P),x.map kP=y.map kP→(aM x (j:Int)).map kP=(aM y (j:Int)).map kP:=fun x=>by
      induction x with
      |nil=>intro y h;cases y with
       |nil=>rfl
       |cons=>simp at h
      | cons p r ih => intro y h; cases y with
       |nil=>simp at h
       |cons q t=>
        simp only[iM,vM]at h
        have hr:p.req=q.req:=(List.cons.inj h.1).1
        have:=ih t h.2
        unfold aM at this⊢
        simp only[Lt,hr]
        cases decide (q.req=(j:Int))with
        |true=>simp[h.1]
        |false=>exact this
     unfold ev
     rw[jk a Q h1.symm];simp)
    rw[this]at hp;exact absurd hp (by decide)
 ·have hm:=hQ.min (b.map cP) hb (Be.1 (by rw[GN];exact hi))
  rw[Ns,UJ,hc]at hm
  exact hm.1
end
section
variable{s:ae} {w:W}
theorem anS {a b:List P} {o1 o2:Own} {e1 e2:Nat} {i:Int} (hs:Ok s) (hw:w.Ok) (hb:w.Hh) (ha:xX a) (rY:xX b) (h1:a=[]∨e1=3) (h2:b=[]∨e2=3) (hi:P1 i):
  aw AP (.fn 3) [w.v,.agg [.slice o1 e1 (a.map aj),.slice o2 e2 (b.map aj)],I i] s=some (B true,s):=by
 have rX:∀r,aw AP (.fn 4) [] (s.push r)=some (B true,s.push r):=fun r=>anU (hs.push r)
 have mH:∀r,aw AP (.fn 5) [w.v] (s.push r)=some (B (GH w),s.push r):=fun r=>anR (hs.push r) hw hb
 have tJ:∀m:ae,aw AP (.fn 6) [.slice o1 e1 (a.map aj)] m=some (B (xB a),m):=fun m=>Ym ha h1
 have ss:∀m:ae,aw AP (.fn 6) [.slice o2 e2 (b.map aj)] m=some (B (xB b),m):=fun m=>Ym rY h2
 simp only[W.v,c8,Sl.v]at mH
 cases hf:GH w with
 |false=>
  rw[aL (show AP 3=some nR from rfl) rfl]
  simp(maxSteps:=1000000) only[go_sem,qm,rX,mH,hf,Nat.reduceEqDiff,Nat.reduceAdd,↓reduceIte]
 |true=>
 cases gK:xB a with
 |false=>
  rw[aL (show AP 3=some nR from rfl) rfl]
  simp(maxSteps:=1000000) only[go_sem,qm,rX,mH,hf,tJ,gK,Nat.reduceEqDiff,Nat.reduceAdd,↓reduceIte]
 |true=>
 cases oU:xB b with
 |false=>
  rw[aL (show AP 3=some nR from rfl) rfl]
  simp(maxSteps:=1000000) only[go_sem,qm,rX,mH,hf,tJ,gK,ss,oU,Nat.reduceEqDiff,Nat.reduceAdd,↓reduceIte]
 |true=>
 have hF:w.kn:=VV (by unfold GH at hf;rw[dB]at hf;exact hf.1)
 have rO:=aaA ha gK
 have FA:=aaA rY oU
 have mM:∀r,aw AP (.fn 7) [w.v] (s.push r)=some (I (jb w),s.push r):=fun r=>ZS (hs.push r) hw hF
 simp only[W.v,c8,Sl.v]at mM
 by_cases h0:jb w=0
 rotate_left
 ·rw[aL (show AP 3=some nR from rfl) rfl]
  simp(maxSteps:=1000000) only[go_sem,qm,rX,mH,hf,tJ,gK,ss,oU,mM,h0,aY,ig,oJ,Nat.reduceEqDiff,Nat.reduceAdd,↓reduceIte]
 have xj:=Rx h0
 have cz:Wk w:=⟨hw,hF,rm xj⟩
 have cD:∀(m:ae) {l:List P} {o:Own} {e:Nat},Ok m→gG l→(l=[]∨e=3)→aw AP (.fn 8) [w.v,.slice o e (l.map aj)] m=some (I (dP w l).2,m):=fun m l o e hm hl he=>by
  rw[aro hm hw hF hl he];unfold kJ;rw[ak xj]
 have dq:∀r,aw AP (.fn 8) [w.v,.slice o1 e1 (a.map aj)] (s.push r)=some (I (dP w a).2,s.push r):=fun r=>cD _ (hs.push r) rO h1
 have jD:∀r,aw AP (.fn 8) [w.v,.slice o2 e2 (b.map aj)] (s.push r)=some (I (dP w b).2,s.push r):=fun r=>cD _ (hs.push r) FA h2
 rw[h0]at mM
 simp only[W.v,c8,Sl.v]at dq jD
 by_cases nZ:(dP w a).2=0
 rotate_left
 ·rw[aL (show AP 3=some nR from rfl) rfl]
  simp(maxSteps:=1000000) only[go_sem,qm,rX,mH,hf,tJ,gK,ss,oU,mM,dq,nZ,aY,eA,ig,oJ,kL,Nat.reduceEqDiff,Nat.reduceAdd,↓reduceIte]
 rw[nZ]at dq
 have ft:∀r,aw AP (.fn 9) [w.v,.slice .full 1 [[I i]]] (s.push r)=some (I (vz w.rs.l.length (-1) [i]),s.push r):=fun r=>arq (l:=[i]) (hs.push r) hF.rs (.inr rfl) (by simp)
 simp only[W.v,c8,Sl.v]at ft
 cases tL:wi i 0 (w.rs.l.length-1)with
 |false=>
  have fG:vz w.rs.l.length (-1) [i]=6:=by simp only[vz];rw[aq (by rw[tL];decide)]
  rw[fG]at ft
  rw[aL (show AP 3=some nR from rfl) rfl]
  simp(maxSteps:=1000000) only[go_sem,qm,rX,mH,hf,tJ,gK,ss,oU,mM,dq,ft,aY,eA,ig,oJ,kL,Nat.reduceEqDiff,Nat.reduceAdd,Int.reduceEq,↓reduceIte]
 |true=>
 obtain⟨J1,sd⟩:=iJ.1 tL
 have aiU:i<w.rs.l.length:=by omega
 have fG:vz w.rs.l.length (-1) [i]=0:=by simp only[vz];rw[ak tL,ak (by omega)]
 rw[fG]at ft
 have n5:∀m:ae,Ok m→aw AP (.fn 11) [w.v] m=some ((cW w).v,m):=fun m hm=>arn hm hw hF
 have W4:∀r,aw AP (.fn 11) [w.v] (s.push r)=some ((cW w).v,s.push r):=fun r=>n5 _ (hs.push r)
 have tD:∀m:ae,aw AP (.fn 11) [w.v] (cT m)=some ((cW w).v,cT m):=fun m=>n5 _ vu
 obtain⟨x1,g1,mU,dT,uR,_⟩:=QV (o:=o1) (e:=e1) (Q:=s) (tk:=[]) hs rO h1
 obtain⟨p1,q1,rfl,xe⟩:=CB uR
 have hm:∀{k:List P} {e:Nat},((k.map cP).map aj=[]∨e=3)→(k.map cP=[]∨e=3):=fun h=>by rcases h with h|h;exact .inl (by simpa using h);exact .inr h
 have bH:∀r,aw AP (.fn 10) [(cW w).v,.slice p1 q1 ((a.map cP).map aj),I i] (s.push r)=some (Kv (cW w) (a.map cP) i,s.push r):=fun r=>asa (hs.push r) Nx (Nw hF) (Nv rO) (hm xe)
 have hE:vl (cW w) (a.map cP) i=0:=by
  unfold vl;rw[asU,NC,ym,ak h0,ak nZ,tL];rfl
 unfold Kv at bH
 rw[hE,ak rfl,ak rfl]at bH
 have w8:mN false (bG 3 (([]:List P).map aj))=some (I 0):=rfl
 have Oz:VP w (a.map cP):=VP.Y7 cz rO nZ
 have hR:=akD (cz.c xj) ((Cw cz xj).2 Oz) J1 (by rw[ym];exact aiU)
 have dI:∀(m:ae) {l:List P} {o:Own} {e:Nat},gG l→(l=[]∨e=3)→aw AP (.fn 13) [.slice o e (l.map aj),I i] m=some (I (du (fun p:P=>decide (p.req=i)) l),m):=fun m l o e hl he=>QW he (by have:=hl.len;omega)
 have Ge:∀m:ae,aw AP (.fn 13) [.slice o1 e1 (a.map aj),I i] m=some (I (du (fun p:P=>decide (p.req=i)) a),m):=fun m=>dI m rO h1
 have Po:∀m:ae,aw AP (.fn 13) [.slice o2 e2 (b.map aj),I i] m=some (I (du (fun p:P=>decide (p.req=i)) b),m):=fun m=>dI m FA h2
 have ga:=QM (l:=a) (i:=i)
 have la:=QN (l:=a) (i:=i)
 have gb:=QM (l:=b) (i:=i)
 have lb:=QN (l:=b) (i:=i)
 generalize hva:du (fun p:P=>decide (p.req=i)) a=va at*
 generalize hvb:du (fun p:P=>decide (p.req=i)) b=vb at*
 have WL:(dP w b).2=0→VP w (b.map cP):=fun h=>VP.Y7 cz FA h
 rcases hR with⟨Q,Ou,JG⟩|⟨Ou,JG⟩
 ·have hQ := abP cz xj JG
  obtain⟨hfs,sb,hfb⟩:=hQ.rL cz (b:=b) Oz
  obtain⟨WH,yQ⟩:=hQ.vp.UP cz
  rw[Ou,kQ,xW,ak rfl]at bH
  obtain⟨qo,qe,zg,mK⟩:∃o e,bG 3 (Q.map aj)=.slice o e (Q.map aj)∧(Q=[]∨e=3):=by
   cases Q with
   |nil=>exact⟨_,_,rfl,.inl rfl⟩
   |cons _ _=>exact⟨_,_,rfl,.inr rfl⟩
  rw[zg]at bH
  have pd:∀r,aw AP (.fn 8) [w.v,.slice qo qe (Q.map aj)] (s.push r)=some (I 0,s.push r):=fun r=>by
   rw[cD _ (hs.push r) yQ mK,WH]
  have Pp:∀m:ae,aw AP (.fn 13) [.slice qo qe (Q.map aj),I i] m=some (I (du (fun p:P=>decide (p.req=i)) Q),m):=fun m=>dI m yQ mK
  have lq:=QN (l:=Q) (i:=i)
  rw[Be.2 hQ.has]at lq
  generalize hvq:du (fun p:P=>decide (p.req=i)) Q=vq at*
  have er:=hF.rs
  have lla:=rO.len
  have llb:=FA.len
  have llq:=yQ.len
  have fj:∀m:ae,Ok m→aw AP (.fn 15) [w.v,.slice o1 e1 (a.map aj),.slice qo qe (Q.map aj)] m=some (I (dr a Q w.rs.l.length),m):=fun m hm=>ZR hm (by omega) h1 mK (by omega) (by omega) rO.sm.ok yQ.sm.ok
  have lQ:∀m:ae,Ok m→aw AP (.fn 15) [w.v,.slice o1 e1 (a.map aj),.slice o2 e2 (b.map aj)] m=some (I (dr a b w.rs.l.length),m):=fun m hm=>ZR hm (by omega) h1 h2 (by omega) (by omega) rO.sm.ok FA.sm.ok
  have JQ:=fun r=>fj (s.push r) (hs.push r)
  have aio:=fun m:ae=>fj (cT m) vu
  have ain:=fun r=>lQ (s.push r) (hs.push r)
  have WY:=fun m:ae=>lQ (cT m) vu
  have qQ:∀r,aw AP (.fn 14) [.slice qo qe (Q.map aj),.slice o1 e1 (a.map aj)] (s.push r)=some (B (pw Q a),s.push r):=fun r=>aru (hs.push r) mK h1 yQ.sm rO.sm
  rw[hfs]at qQ
  obtain⟨x2,g2,mh,gg,uS,_⟩:=QV (o:=o1) (e:=e1) (Q:=s) (tk:=mU) hs rO h1
  obtain⟨x3,g3,RF,mF,Om,_⟩:=QV (o:=qo) (e:=qe) (Q:=s) (tk:=mh) hs yQ mK
  obtain⟨p2,q2,rfl,Pr⟩:=CB uS
  obtain⟨p3,q3,rfl,Ps⟩:=CB Om
  obtain⟨T,hT⟩:∃T,T=gn w a Q w.rs.l.length:=⟨_,rfl⟩
  obtain⟨p4,q4,ah4,hq4⟩:∃o e,bG 1 (T.map me)=.slice o e (T.map me)∧(T=[]∨e=1):=by
   cases T with
   |nil=>exact⟨_,_,rfl,.inl rfl⟩
   |cons _ _=>exact⟨_,_,rfl,.inr rfl⟩
  have hte:Hb (cW w) (a.map cP) (Q.map cP)=0:=by
   unfold Hb kJ;rw[RI,ak xj,NC,ak nZ,NC,WH]
  have Kj:∀r,aw AP (.fn 16) [(cW w).v,.agg [.slice p2 q2 ((a.map cP).map aj),.slice p3 q3 ((Q.map cP).map aj)]] (s.push r)=some (.tuple [.slice p4 q4 (T.map me),I 0],s.push r):=fun r=>by
   rw[asd (hs.push r) Nx (Nw hF) (Nv rO) (Nv yQ) (hm Pr) (hm Ps),hte,ak rfl,ym,aaV (aH _),←hT,ah4]
  have uU:T.length≤dr a Q w.rs.l.length:=hT ▸ RD
  have JI:decide ((T.length:Int)=0)=(aM a i).isSome:=by
   rw[vI,dY,←sb,←as8 (w:=w),←hT,←abH]
   omega
  have Oy:decide ((dr a Q w.rs.l.length:Int)<(T.length:Int))=false:=bS (by omega)
  have FD:mN false (.slice p4 q4 (T.map me))=some (I (T.length:Int)):=by
   show some (I ((T.map me).length:Int))=_
   rw[bY]
  have hTm:∀m∈T,(w.rs.l.any fun r=>decide (r.bw=m))=true:=fun m hm=>by
   rw[hT]at hm
   obtain⟨j,hj,_,FX⟩:=RE hm
   rw[fK]
   obtain⟨r,hr⟩:=get_some hj
   refine⟨r,bQ hr,?_⟩
   have:=w.Rf (i:=(j:Int)) (by omega) (by omega)
   rw[show((j:Int).toNat)=j by omega,hr]at this
   rw[Option.some.inj this,FX];simp
  have au6:T.length≤14:=by have:=NA (a:=a) (b:=Q) (n:=w.rs.l.length);have:=hF.rs;omega
  have k0 : ∀ (k : Nat) ρ m, k ≤ T.length → (ρ 3 = .ptr s.ag.length 0 0 ∧ ρ 10 = .slice p4 q4 (T.map me) ∧ ρ 12 = I k ∧ ∃ bx tk, m = s.push ⟨c8 w :: bx, tk⟩) →
    go AP VB (.c (.loop CQ)::amK) ⟨ρ,m⟩=some (B true,s):=by
   refine ck T.length _ _ ?_ ?_
   ·rintro k ρ m hk ⟨g3,g10,g12,bx,tk,rfl⟩ ih
    obtain⟨t,ht⟩:=get_some hk
    have ajO:q4=1:=by rcases hq4 with h|h;(rw[h]at ht;simp at ht);exact h
    subst ajO
    have hr:=cq (o:=p4) (es:=1) (f:=me) ht
    have vd:=bK hk (show(T.length:Int)<_ by omega)
    have ah8:=hTm t (bQ ht)
    have inner:∀(j:Nat) ρ m,j≤w.rs.l.length→(ρ 3=.ptr s.ag.length 0 0∧ρ 10=.slice p4 1 (T.map me)∧ρ 12=I k∧ρ 13=B ((w.rs.l.take j).any fun r=>decide (r.bw=t))∧ρ 14=I j∧m=s.push ⟨c8 w::bx,tk⟩)→
      go AP VB (.c (.loop CR)::amL) ⟨ρ,m⟩=some (B true,s):=by
     refine ck w.rs.l.length _ _ ?_ ?_
     ·rintro j ρ m hj ⟨g3,g10,g12,g13,g14,rfl⟩ fI
      obtain⟨q,hq⟩:=get_some hj
      have mG:=Sl.ix (f:=bU) hw.rs hq
      have ib:=bK hj (show(w.rs.l.length:Int)<_ by omega)
      have j9:((w.rs.l.take (j+1)).any fun r=>decide (r.bw=t))=(((w.rs.l.take j).any fun r=>decide (r.bw=t))||decide (q.bw=t)):=by rw[fT hq,vL];simp
      simp only[bU,Sl.v]at mG
      cases hd:(w.rs.l.take j).any fun r=>decide (r.bw=t)with
      |true=>
       rw[hd]at g13
       simp(maxSteps:=1000000) only[go_sem,CR,g3,g13,g14,aS hj,ib,Nat.reduceEqDiff,Nat.reduceAdd,↓reduceIte]
       refine fI _ _ ?_
       exact⟨g3,g10,g12,by rw[j9,hd];rfl,rfl,rfl⟩
      |false=>
       rw[hd]at g13
       simp(maxSteps:=1000000) only[go_sem,CR,g3,g10,g12,g13,g14,aS hj,ib,mG,hr,Nat.reduceEqDiff,Nat.reduceAdd,↓reduceIte]
       refine fI _ _ ?_
       exact⟨g3,g10,g12,by rw[j9,hd];rfl,rfl,rfl⟩
     ·rintro ρ m ⟨g3,g10,g12,g13,g14,rfl⟩
      rw[jg,ah8]at g13
      simp(maxSteps:=1000000) only[go_sem,CR,Mh,Mi,g3,g12,g13,g14,bM,vd,Nat.reduceEqDiff,Nat.reduceAdd,↓reduceIte]
      refine ih _ _ ?_
      exact⟨g3,g10,rfl,bx,tk,rfl⟩
    simp(maxSteps:=1000000) only[go_sem,CQ,g10,g12,FD,aS hk,Nat.reduceEqDiff,↓reduceIte]
    refine inner 0 _ _ (bg _) ?_
    exact⟨g3,g10,g12,rfl,rfl,rfl⟩
   ·rintro ρ m ⟨g3,g10,g12,bx,tk,rfl⟩
    simp(maxSteps:=1000000) only[go_sem,CQ,Ic,g10,g12,FD,bM,Nat.reduceEqDiff,↓reduceIte]
  simp only[W.v,c8,Sl.v]at W4 tD bH pd JQ aio ain WY Kj k0
  have aiF:(dP w b).2=0→(aM b i).isSome=true→decide ((dr a b w.rs.l.length:Int)<(dr a Q w.rs.l.length:Int))=false:=fun h hp=>bS (by have:=hfb (WL h) hp;omega)
  generalize(dP w b).2=eb at*
  generalize dr a b w.rs.l.length=Cb at*
  generalize dr a Q w.rs.l.length=Cq at*
  generalize(a.map cP).map aj=Za at*
  generalize(Q.map cP).map aj=Zq at*
  generalize a.map aj=Ya at*
  generalize b.map aj=Yb at*
  generalize Q.map aj=Yq at*
  cases ajH:(aM a i).isSome<;>rw[ajH]at ga la qQ JI
  all_goals
   by_cases hz:eb=0
   ·cases Pk:(aM b i).isSome with
    |true=>
     rw[Pk]at gb
     have aiG:=aiF hz Pk
     subst hz
     rw[aL (show AP 3=some nR from rfl) rfl]
     simp(maxSteps:=1000000) only[go_sem,qm,rX,mH,hf,tJ,gK,ss,oU,mM,dq,ft,tD,dT,bH,jD,Po,gb,pd,Pp,lq,Ge,ga,qQ,JQ,WY,aiG,gg,mF,Kj,FD,Oy,JI,aY,eA,oJ,kL,Nat.reduceEqDiff,Nat.reduceAdd,↓reduceIte]
     refine k0 0 _ _ (bg _) ?_
     exact⟨rfl,rfl,rfl,_,_,rfl⟩
    |false=>
     rw[Pk]at gb
     subst hz
     rw[aL (show AP 3=some nR from rfl) rfl]
     simp(maxSteps:=1000000) only[go_sem,qm,rX,mH,hf,tJ,gK,ss,oU,mM,dq,ft,tD,dT,bH,jD,Po,gb,pd,Pp,lq,Ge,ga,qQ,JQ,gg,mF,Kj,FD,Oy,JI,aY,eA,oJ,kL,Nat.reduceEqDiff,Nat.reduceAdd,↓reduceIte]
     refine k0 0 _ _ (bg _) ?_
     exact⟨rfl,rfl,rfl,_,_,rfl⟩
   ·rw[aL (show AP 3=some nR from rfl) rfl]
    simp(maxSteps:=1000000) only[go_sem,qm,rX,mH,hf,tJ,gK,ss,oU,mM,dq,ft,tD,dT,bH,jD,hz,pd,Pp,lq,Ge,ga,qQ,JQ,gg,mF,Kj,FD,Oy,JI,aY,eA,qs,kL,Nat.reduceEqDiff,Nat.reduceAdd,↓reduceIte]
    refine k0 0 _ _ (bg _) ?_
    exact⟨rfl,rfl,rfl,_,_,rfl⟩
 ·rw[Ou,Option.getD_none,s7,aq (by decide)]at bH
  have hna:(aM a i).isSome=false:=by
   cases h:(aM a i).isSome with
   |false=>rfl
   |true=>exact absurd (Be.1 (by rw[GN];exact h)) (JG _ ((Cw cz xj).2 Oz))
  rw[hna]at la
  simp only[W.v,c8,Sl.v]at W4 tD bH
  by_cases hz:(dP w b).2=0
  ·have mJ:(aM b i).isSome=false:=by
    cases h:(aM b i).isSome with
    |false=>rfl
    |true=>exact absurd (Be.1 (by rw[GN];exact h)) (JG _ ((Cw cz xj).2 (WL hz)))
   rw[mJ]at gb
   rw[hz]at jD
   rw[aL (show AP 3=some nR from rfl) rfl]
   simp(maxSteps:=1000000) only[go_sem,qm,rX,mH,hf,tJ,gK,ss,oU,mM,dq,ft,tD,dT,bH,jD,Po,gb,Ge,la,aY,eA,ig,oJ,kL,mW,Nat.reduceEqDiff,Nat.reduceAdd,Int.reduceEq,aP,↓reduceIte]
  ·rw[aL (show AP 3=some nR from rfl) rfl]
   simp(maxSteps:=1000000) only[go_sem,qm,rX,mH,hf,tJ,gK,ss,oU,mM,dq,ft,tD,dT,bH,jD,hz,Ge,la,aY,eA,ig,oJ,qs,kL,mW,Nat.reduceEqDiff,Nat.reduceAdd,Int.reduceEq,aP,↓reduceIte]
end
end Go.Ax.Sx.Sc
