/-
  The executor without its bound: what it gives with some bound. Equations to compute with.
-/
import Derived.Test.YtplkfafeoocmlaaGreatDoorT1
import Derived.Test.YtplkfafeoocmlaaGreatDoorT4
import Derived.Deep.Slices
import Derived.OpenShut
import Derived.SizedLaws
import Derived.Attr
set_option linter.unusedSimpArgs false
set_option linter.unusedVariables false
set_option maxRecDepth 100000
namespace Go.Ax
def kN (c c':aZ):Prop:=∀t a s r,c t a s=some r→c' t a s=some r
theorem kN.refl (c:aZ):kN c c:=fun _ _ _ _ h=>h
theorem kN.trans {a b c:aZ} (h:kN a b) (k:kN b c):kN a c:=fun t x s r e=>k t x s r (h t x s r e)
theorem wY {c c':aZ} (h:kN c c') {ro:Bool} {m:ae} {t:Target} {as:List AV} {r:AV×ae} (e:dN c ro m t as=some r):dN c' ro m t as=some r:=by
 unfold dN at e⊢
 split
 ·rw[ak (by assumption)]at e
  obtain⟨p,hp,rfl⟩:=aT.1 e
  rw[h _ _ _ _ hp]
  rfl
 ·rw[aq (by assumption)]at e
  exact h _ _ _ _ e
theorem aeF {c c':aZ} (h:kN c c') {m:ae} {f:FuncId} {as:List AV} {r:AV×ae} (e:nA c m f as=some r):nA c' m f as=some r:=by
 unfold nA at e⊢
 cases hc:c (.fn f) as {m.push ⟨[],[]⟩with ro:=m.ag.length,bt:=m.loops.length}with
 |none=>rw[hc]at e;cases e
 |some p=>rw[hc]at e;rw[h _ _ _ _ hc];exact e
theorem aeJ {c c':aZ} (h:kN c c') {ro:Bool} {m:ae} {x:AV} {as:List AV} {r:AV×ae} (e:mc c ro m x as=some r):mc c' ro m x as=some r:=by
 cases x<;>first
  |exact wY h e
  |(simp[mc]at e)
theorem JO {c:aZ} {ro:Bool} {m:ae} {zs:List (List AV)} {t:Target} {as:List AV} {r:AV×ae}:nB c ro m zs t as=some r↔
  dN c ro m t as=some r∧m.tail zs.length∈qP zs∧(∀bx,bx∈qP zs→dN c ro (m.jr zs.length bx) t as=some (r.1,r.2.jr zs.length bx))∧r.2.ag.length=m.ag.length∧r.2.bQ m.cur=m.bQ m.cur∧r.2.tail zs.length=m.tail zs.length∧(ro=true→r.2=m)∧(r.2.lS m.cur=false→m.lS m.cur=false):=by
 unfold nB
 constructor
 ·intro h
  split at h
  ·rename_i v m' e
   split at h
   ·rename_i hc
    injection h with h
    subst h
    exact⟨e,hc⟩
   ·cases h
  ·cases h
 ·rintro⟨h1,h2⟩
  rw[h1]
  simp only
  rw[ak h2]
theorem agO {c c':aZ} (h:kN c c') {ro:Bool} {m:ae} {zs:List (List AV)} {t:Target} {as:List AV} {r:AV×ae} (e:nB c ro m zs t as=some r):nB c' ro m zs t as=some r:=by
 obtain⟨h1,h2,h3,h4⟩:=JO.1 e
 exact JO.2 ⟨wY h h1,h2,fun bx hb=>wY h (h3 bx hb),h4⟩
theorem aey {c c':aZ} (h:kN c c') {m:ae} {f:FuncId} {as:List AV} {r:AV×ae} (e:l9 c m f as=some r):l9 c' m f as=some r:=by
 unfold l9 at e⊢
 cases hc:c (.fn f) as {m.push ⟨[],[]⟩with ro:=m.ag.length,bt:=m.loops.length}with
 |none=>rw[hc]at e;cases e
 |some p=>rw[hc]at e;rw[h _ _ _ _ hc];exact e
theorem Fp {c:aZ} {m:ae} {t:Target} {as:List AV} {ws:List (Bool×Nat×AV)} {r:AV×ae}:oT c m t as ws=some r↔c t as m=some r∧∀q,q∈ws→r.2.load q.1 q.2.1 q.2.2=m.load q.1 q.2.1 q.2.2:=by
 unfold oT
 constructor
 ·intro h
  split at h
  ·rename_i v m' e
   split at h
   ·rename_i hc
    injection h with h
    subst h
    exact⟨e,hc⟩
   ·cases h
  ·cases h
 ·rintro⟨h1,h2⟩
  rw[h1]
  simp only
  rw[ak h2]
theorem aeI {c c':aZ} (h:kN c c') {m:ae} {t:Target} {as:List AV} {ws:List (Bool×Nat×AV)} {r:AV×ae} (e:oT c m t as ws=some r):oT c' m t as ws=some r:=by
 obtain⟨h1,h2⟩:=Fp.1 e
 exact Fp.2 ⟨h _ _ _ _ h1,h2⟩
theorem aaj {c c':aZ} (h:kN c c') {ρ:aF→AV} {m:ae} {op:ck} {r:AV×ae} (e:aN c ρ m op=some r):aN c' ρ m op=some r:=by
 cases op<;>first
  |exact e
  |exact wY h e
  |exact aeJ h e
  |exact aeF h e
  |exact agO h e
  |exact aey h e
  |exact aeI h e
theorem Hd {c c':aZ} (h:kN c c'):∀{l:List bC} {st r:St},ops c l st=some r→ops c' l st=some r
 |[],st,r,e=>e
 | o :: l, st, r, e => by
  unfold ops at e⊢
  split
  ·rename_i hw
   rw[ak hw]at e
   split at e
   ·rename_i x m hv
    rw[aaj h hv]
    exact Hd h e
   ·cases e
  ·rename_i hw
   rw[aq hw]at e
   exact Hd h e
theorem K2 {f g:St→Option (cM×St)} (h:∀st r,f st=some r→g st=some r):∀{n m:Nat} {st:St} {r:cM×St},n≤m→lR f n st=some r→lR g m st=some r
 |0,_,_,_,_,e=>by simp[lR]at e
 |n+1,0,_,_,hn,_=>by omega
 | n + 1, m + 1, st, r, hn, e => by
  simp only[lR]at e⊢
  split at e
  ·rename_i cX h1
   rw[h _ _ h1]
   exact K2 h (by omega) e
  ·rename_i aD
   rw[h _ _ e]
   split
   ·rename_i cX heq
    exact absurd (e.trans heq) (aD _)
   ·rfl
theorem w5 {c c':aZ} (h:kN c c') {n m:Nat} (hn:n≤m):∀{a:aw} {st:St} {r:cM×St},exec c n a st=some r→exec c' m a st=some r:=by
 intro a
 induction a with
 |skip=>intro st r e;exact e
 |exit=>intro st r e;exact e
 |ret=>intro st r e;exact e
 |region d l=>
  intro st r e
  simp only[exec]at e⊢
  obtain⟨p,hp,rfl⟩:=aT.1 e
  rw[Hd h hp]
  rfl
 | seq a b vF zH =>
  intro st r e
  simp only[exec]at e⊢
  split at e
  ·rename_i cX h1
   rw[vF h1]
   exact zH e
  ·rename_i aD
   rw[vF e]
   split
   ·rename_i cX heq
    exact absurd (e.trans heq) (aD _)
   ·rfl
 | cond x a b vF zH =>
  intro st r e
  simp only[exec]at e⊢
  split
  ·rename_i t hx
   rw[hx]at e
   simp only at e
   split
   ·rw[ak (by assumption)]at e;exact vF e
   ·rw[aq (by assumption)]at e;exact zH e
  ·rename_i hx
   split at e
   ·rename_i t ht
    exact absurd ht (hx _)
   ·cases e
 | block id a ih =>
  intro st r e
  simp only[exec]at e⊢
  split at e
  ·rename_i j cX h1
   rw[ih h1]
   exact e
  ·rename_i aD
   rw[ih e]
   split
   ·rename_i j cX heq
    exact absurd (e.trans heq) (aD _ _)
   ·rfl
 |loop a ih=>
  intro st r e
  simp only[exec]at e⊢
  exact K2 (fun st r=>ih) hn e
 | rangeFunc f ps a b _ _ =>
  intro st r e
  simp only[exec]at e⊢
  split
  ·rename_i g first caps hf
   rw[hf]at e
   simp only at e
   split at e
   ·rename_i x s hc
    rw[h _ _ _ _ hc]
    exact e
   ·cases e
  ·rename_i hf
   split at e
   ·rename_i g first caps hg
    exact absurd hg (hf _ _ _)
   ·cases e
theorem aev {AP:FuncId→Option aJ} {c c':aZ} (h:kN c c') {n m:Nat} (hn:n≤m):kN (jd AP c n) (jd AP c' m):=by
 intro t as s r e
 unfold jd at e⊢
 cases t with
 | fn f =>
  simp only at e⊢
  split at e
  ·split at e
   ·rename_i hlen
    rw[ak hlen]
    split at e
    ·rename_i st he;rw[w5 h hn he];exact e
    ·rename_i st he;rw[w5 h hn he];exact e
    ·cases e
   ·cases e
  ·exact e
  ·cases e
 | inl f =>
  simp only at e⊢
  split at e
  ·split at e
   ·rename_i hlen
    rw[ak hlen]
    split at e
    ·rename_i st he;rw[w5 h hn he];exact e
    ·rename_i st he;rw[w5 h hn he];exact e
    ·cases e
   ·cases e
  ·cases e
 |nat f=>exact e
 | yield l =>
  simp only at e⊢
  split at e
  ·rename_i lp sw
   split at e
   ·rename_i br
    rw[ak br]
    split at e
    ·rename_i st he
     rw[w5 h hn he]
     simp only
     split at e
     ·rename_i hr
      rw[ak hr]
      split at e
      ·rename_i aQ hb
       rw[w5 h hn hb]
       exact e
      ·rename_i ex aQ aD hb
       rw[w5 h hn hb]
       simp only
       exact e
      ·cases e
     ·cases e
    ·cases e
   ·cases e
  ·cases e
theorem Vn {AP:FuncId→Option aJ}:∀n,kN (ff AP n) (ff AP (n+1))
 |0=>fun _ _ _ _ e=>by simp[ff]at e
 |n+1=>aev (Vn n) (th n)
theorem uW {AP:FuncId→Option aJ} {n m:Nat} (h:n≤m):kN (ff AP n) (ff AP m):=by
 induction h with
 |refl=>exact .refl _
 |step _ ih=>exact ih.trans (Vn _)
section
variable(AP:FuncId→Option aJ)
open Classical in
noncomputable def au:aZ:=fun t as s=>if h:∃r n,ff AP n t as s=some r then some h.choose else none
open Classical in
noncomputable def fM (c:aw) (st:St):Option (cM×St):=if h:∃r n,exec (ff AP n) n c st=some r then some h.choose else none
variable{AP}
theorem rX {t:Target} {as:List AV} {s:ae} {r:AV×ae}:au AP t as s=some r↔∃n,ff AP n t as s=some r:=by
 unfold au
 constructor
 ·intro h
  split at h
  ·rename_i hex
   injection h with h
   rw[←h]
   exact hex.choose_spec
  ·cases h
 ·intro⟨n,hn⟩
  have hex:∃r n,ff AP n t as s=some r:=⟨r,n,hn⟩
  rw[JI hex]
  obtain⟨m,hm⟩:=hex.choose_spec
  have h1:=uW (CT n m) _ _ _ _ hn
  have h2:=uW (HW n m) _ _ _ _ hm
  rw[h1]at h2
  exact h2.symm
theorem u2 {n m:Nat} (h:n≤m) {c:aw} {st:St} {r:cM×St} (e:exec (ff AP n) n c st=some r):exec (ff AP m) m c st=some r:=w5 (uW h) h e
theorem j4 {c:aw} {st:St} {r:cM×St}:fM AP c st=some r↔∃n,exec (ff AP n) n c st=some r:=by
 unfold fM
 constructor
 ·intro h
  split at h
  ·rename_i hex
   injection h with h
   rw[←h]
   exact hex.choose_spec
  ·cases h
 ·intro⟨n,hn⟩
  have hex:∃r n,exec (ff AP n) n c st=some r:=⟨r,n,hn⟩
  rw[JI hex]
  obtain⟨m,hm⟩:=hex.choose_spec
  have h1:=u2 (CT n m) hn
  have h2:=u2 (HW n m) hm
  rw[h1]at h2
  exact h2.symm
theorem aes (n:Nat):kN (ff AP n) (au AP):=fun _ _ _ _ e=>rX.2 ⟨n,e⟩
theorem FA {ro:Bool} {m:ae} {t:Target} {as:List AV} {r:AV×ae} (e:dN (au AP) ro m t as=some r):∃n,dN (ff AP n) ro m t as=some r:=by
 unfold dN at e⊢
 split at e
 ·obtain⟨p,hp,rfl⟩:=aT.1 e
  obtain⟨n,hn⟩:=rX.1 hp
  exact⟨n,by rw[ak (by assumption),hn];rfl⟩
 ·obtain⟨n,hn⟩:=rX.1 e
  exact⟨n,by rw[aq (by assumption),hn]⟩
theorem aeE {m:ae} {f:FuncId} {as:List AV} {r:AV×ae} (e:nA (au AP) m f as=some r):∃n,nA (ff AP n) m f as=some r:=by
 unfold nA at e⊢
 cases hc:au AP (.fn f) as {m.push ⟨[],[]⟩with ro:=m.ag.length,bt:=m.loops.length}with
 |none=>rw[hc]at e;cases e
 |some p=>
  rw[hc]at e
  obtain⟨n,hn⟩:=rX.1 hc
  exact⟨n,by rw[hn];exact e⟩
theorem aex {m:ae} {f:FuncId} {as:List AV} {r:AV×ae} (e:l9 (au AP) m f as=some r):∃n,l9 (ff AP n) m f as=some r:=by
 unfold l9 at e⊢
 cases hc:au AP (.fn f) as {m.push ⟨[],[]⟩with ro:=m.ag.length,bt:=m.loops.length}with
 |none=>rw[hc]at e;cases e
 |some p=>
  rw[hc]at e
  obtain⟨n,hn⟩:=rX.1 hc
  exact⟨n,by rw[hn];exact e⟩
theorem aeH {m:ae} {t:Target} {as:List AV} {ws:List (Bool×Nat×AV)} {r:AV×ae} (e:oT (au AP) m t as ws=some r):∃n,oT (ff AP n) m t as ws=some r:=by
 obtain⟨h1,h2⟩:=Fp.1 e
 obtain⟨n,hn⟩:=rX.1 h1
 exact⟨n,Fp.2 ⟨hn,h2⟩⟩
theorem WN {ro:Bool} {t:Target} {as:List AV} {M:List (List AV)→ae} {R:List (List AV)→AV×ae}:∀{l:List (List (List AV))},(∀bx,bx∈l→dN (au AP) ro (M bx) t as=some (R bx))→∃n,∀bx,bx∈l→dN (ff AP n) ro (M bx) t as=some (R bx)
 |[],_=>⟨0,fun _ h=>by cases h⟩
 |b::l,h=>by
  obtain⟨n1,k1⟩:=FA (h b (by simp))
  obtain⟨n2,k2⟩:=WN (l:=l) fun bx hb=>h bx (iI _ hb)
  refine⟨n1+n2,fun bx hb=>?_⟩
  rcases er.1 hb with rfl|hb
  ·exact wY (uW (by omega)) k1
  ·exact wY (uW (by omega)) (k2 bx hb)
theorem agN {ro:Bool} {m:ae} {zs:List (List AV)} {t:Target} {as:List AV} {r:AV×ae} (e:nB (au AP) ro m zs t as=some r):∃n,nB (ff AP n) ro m zs t as=some r:=by
 obtain⟨h1,h2,h3,h4⟩:=JO.1 e
 obtain⟨n1,k1⟩:=FA h1
 obtain⟨n3,k3⟩:=WN h3
 exact⟨n1+n3,JO.2 ⟨wY (uW (by omega)) k1,h2,fun bx hb=>wY (uW (by omega)) (k3 bx hb),h4⟩⟩
theorem aqp {ρ:aF→AV} {m:ae} {op:ck} {r:AV×ae} (e:aN (au AP) ρ m op=some r):∃n,aN (ff AP n) ρ m op=some r:=by
  cases op<;>first
    |exact⟨0,e⟩
    |exact FA e
    |exact aeE e
    |exact agN e
    |exact aex e
    |exact aeH e
    | (simp only [aN, mc] at e ⊢
       split at e
       · exact FA e
       · exact FA e
       · cases e)
theorem Rz:∀{l:List bC} {st r:St},ops (au AP) l st=some r→∃n,ops (ff AP n) l st=some r
 |[],st,r,e=>⟨0,e⟩
 | o :: l, st, r, e => by
  unfold ops at e
  split at e
  ·rename_i hw
   split at e
   ·rename_i x m hv
    obtain⟨n1,h1⟩:=aqp hv
    obtain⟨n2,h2⟩:=Rz e
    refine⟨max n1 n2,?_⟩
    unfold ops
    rw[ak hw,aaj (uW (CT n1 n2)) h1]
    exact Hd (uW (HW n1 n2)) h2
   ·cases e
  ·rename_i hw
   obtain⟨n2,h2⟩:=Rz e
   refine⟨n2,?_⟩
   unfold ops
   rw[aq hw]
   exact h2
theorem ua {α:Type} {x y:Option α} (h:∀r,x=some r↔y=some r):x=y:=by
 cases hx:x with
 |some a=>exact((h a).1 hx).symm
 |none=>
  cases hy:y with
  |none=>rfl
  |some b=>have:=(h b).2 hy;rw[hx]at this;cases this
theorem gM {c:aw} {st:St} {r:cM×St} {n:Nat} (h:exec (ff AP n) n c st=some r):fM AP c st=some r:=j4.2 ⟨n,h⟩
theorem asO (st:St):fM AP .skip st=some (.normal,st):=gM (n:=0) rfl
theorem asI (id:Nat) (st:St):fM AP (.exit id) st=some (.exit id,st):=gM (n:=0) rfl
theorem asM (st:St):fM AP .ret st=some (.ret,st):=gM (n:=0) rfl
theorem asL (d:Bool) (l:List bC) (st:St):fM AP (.region d l) st=(ops (au AP) l st).map (cM.normal,·):=by
 refine ua fun r=>⟨fun h=>?_,fun h=>?_⟩
 ·obtain⟨n,hn⟩:=j4.1 h
  simp only[exec]at hn
  obtain⟨p,hp,rfl⟩:=aT.1 hn
  rw[Hd (aes n) hp]
  rfl
 ·obtain⟨p,hp,rfl⟩:=aT.1 h
  obtain⟨n,hn⟩:=Rz hp
  exact gM (n:=n) (by simp only[exec,hn];rfl)
theorem asN (a b:aw) (st:St):fM AP (.seq a b) st=match fM AP a st with
  |some (.normal,aQ)=>fM AP b aQ
  |r=>r:=by
 refine ua fun r=>⟨fun h=>?_,fun h=>?_⟩
 ·obtain⟨n,hn⟩:=j4.1 h
  simp only[exec]at hn
  split at hn
  ·rename_i cX h1
   rw[gM h1]
   exact gM hn
  ·rename_i aD
   rw[gM hn]
   split
   ·rename_i cX heq
    exact absurd (hn.trans heq) (aD _)
   ·rfl
 ·split at h
  ·rename_i cX h1
   obtain⟨n1,e1⟩:=j4.1 h1
   obtain⟨n2,e2⟩:=j4.1 h
   refine gM (n:=max n1 n2) ?_
   simp only[exec,u2 (CT n1 n2) e1]
   exact u2 (HW n1 n2) e2
  ·rename_i aD
   obtain⟨n,hn⟩:=j4.1 h
   refine gM (n:=n) ?_
   simp only[exec,hn]
   split
   ·rename_i cX heq
    exact absurd (h.trans heq) (aD _)
   ·rfl
theorem asH (c:aF) (a b:aw) (st:St):fM AP (.cond c a b) st=match aE st.tmps c with
  |.v (.bool t)=>if t then fM AP a st else fM AP b st
  |_=>none:=by
 refine ua fun r=>⟨fun h=>?_,fun h=>?_⟩
 ·obtain⟨n,hn⟩:=j4.1 h
  simp only[exec]at hn
  split at hn
  ·rename_i t ht
   rw[ht]
   simp only
   split
   ·rw[ak (by assumption)]at hn;exact gM hn
   ·rw[aq (by assumption)]at hn;exact gM hn
  ·cases hn
 ·split at h
  ·rename_i t ht
   split at h
   ·rename_i hb
    obtain⟨n,hn⟩:=j4.1 h
    exact gM (n:=n) (by simp only[exec,ht,ak hb,hn])
   ·rename_i hb
    obtain⟨n,hn⟩:=j4.1 h
    exact gM (n:=n) (by simp only[exec,ht,aq hb,hn])
  ·cases h
theorem asG (id:Nat) (a:aw) (st:St):fM AP (.block id a) st=match fM AP a st with
  |some (.exit j,aQ)=>if j=id then some (.normal,aQ)else some (.exit j,aQ)
  |r=>r:=by
 refine ua fun r=>⟨fun h=>?_,fun h=>?_⟩
 ·obtain⟨n,hn⟩:=j4.1 h
  simp only[exec]at hn
  split at hn
  ·rename_i j cX h1
   rw[gM h1]
   exact hn
  ·rename_i aD
   rw[gM hn]
   split
   ·rename_i j cX heq
    exact absurd (hn.trans heq) (aD _ _)
   ·rfl
 ·split at h
  ·rename_i j cX h1
   obtain⟨n1,e1⟩:=j4.1 h1
   refine gM (n:=n1) ?_
   simp only[exec,e1]
   exact h
  ·rename_i aD
   obtain⟨n,hn⟩:=j4.1 h
   refine gM (n:=n) ?_
   simp only[exec,hn]
   split
   ·rename_i j cX heq
    exact absurd (h.trans heq) (aD _ _)
   ·rfl
theorem asJ (a:aw) (st:St):fM AP (.loop a) st=match fM AP a st with
  |some (.normal,aQ)=>fM AP (.loop a) aQ
  |r=>r:=by
 refine ua fun r=>⟨fun h=>?_,fun h=>?_⟩
 ·obtain⟨n,hn⟩:=j4.1 h
  simp only[exec]at hn
  obtain⟨m,rfl⟩:∃m,n=m+1:=by
   cases n with
   |zero=>simp[lR]at hn
   |succ m=>exact⟨m,rfl⟩
  rw[lR]at hn
  split at hn
  ·rename_i cX h1
   rw[gM h1]
   refine gM (n:=m+1) ?_
   simp only[exec]
   exact K2 (fun _ _ e=>e) (th m) hn
  ·rename_i aD
   rw[gM hn]
   split
   ·rename_i cX heq
    exact absurd (hn.trans heq) (aD _)
   ·rfl
 ·split at h
  ·rename_i cX h1
   obtain⟨n1,e1⟩:=j4.1 h1
   obtain⟨n2,e2⟩:=j4.1 h
   refine gM (n:=max n1 n2+1) ?_
   simp only[exec,lR]
   rw[u2 (by omega) e1]
   simp only[exec]at e2
   exact K2 (fun st r e=>u2 (by omega) e) (by omega) e2
  ·rename_i aD
   obtain⟨n,hn⟩:=j4.1 h
   refine gM (n:=n+1) ?_
   simp only[exec,lR]
   rw[u2 (th n) hn]
   split
   ·rename_i cX heq
    exact absurd (h.trans heq) (aD _)
   ·rfl
theorem asK (f:aF) (ps:List Nat) (a b:aw) (st:St):fM AP (.rangeFunc f ps a b) st=match aE st.tmps f with
  | .fn g first caps => match au AP (.fn g) (first ++ .yield st.sig.loops.length :: caps) (enterLoop st.sig ⟨true, none, st.tmps, ps, a, b⟩) with
   |some (_,s)=>match xN s st.sig.loops.length with
    |some (e,s1)=>some (e.getD .normal,⟨st.tmps,s1⟩)
    |none=>none
   |none=>none
  |_=>none:=by
 refine ua fun r=>⟨fun h=>?_,fun h=>?_⟩
 ·obtain⟨n,hn⟩:=j4.1 h
  simp only[exec]at hn
  split at hn
  ·rename_i g first caps hf
   rw[hf]
   simp only
   split at hn
   ·rename_i x s hc
    rw[rX.2 ⟨n,hc⟩]
    exact hn
   ·cases hn
  ·cases hn
 ·split at h
  ·rename_i g first caps hf
   split at h
   ·rename_i x s hc
    obtain⟨n,hn⟩:=rX.1 hc
    refine gM (n:=n) ?_
    simp only[exec,hf,hn]
    exact h
   ·cases h
  ·cases h
theorem Bh {t:Target} {as:List AV} {s:ae} {r:AV×ae} {n:Nat} (h:jd AP (ff AP n) n t as s=some r):au AP t as s=some r:=rX.2 ⟨n+1,h⟩
theorem Jt {t:Target} {as:List AV} {s:ae} {r:AV×ae} (h:au AP t as s=some r):∃n,jd AP (ff AP n) n t as s=some r:=by
 obtain⟨n,hn⟩:=rX.1 h
 cases n with
 |zero=>simp[ff]at hn
 |succ n=>exact⟨n,hn⟩
theorem aeo {f : FuncId} {np nt : Nat} {b : aw} {rs : List iF} {own : Bool} (hf : AP f = some (.code np nt b rs own)) (as : List AV) (s : ae) : au AP (.fn f) as s = if as.length = np then
      match fM AP b ⟨jQ as,s.push ⟨[],[]⟩⟩with
      |some (.normal,st)|some (.ret,st)=>finish rs own st
      |_=>none
    else none:=by
  refine ua fun r=>⟨fun h=>?_,fun h=>?_⟩
  · obtain ⟨n, hn⟩ := Jt h
    simp only[jd,hf]at hn
    split at hn
    · rename_i hl
      rw[ak hl]
      split at hn
      · rename_i st h1;rw[gM h1];exact hn
      · rename_i st h1;rw[gM h1];exact hn
      · cases hn
    · cases hn
  · split at h
    · rename_i hl
      split at h
      · rename_i st h1
        obtain⟨n,hn⟩:=j4.1 h1
        exact Bh (n:=n) (by simp only[jd,hf,ak hl,hn];exact h)
      · rename_i st h1
        obtain⟨n,hn⟩:=j4.1 h1
        exact Bh (n:=n) (by simp only[jd,hf,ak hl,hn];exact h)
      · cases h
    · cases h
theorem aeq {f : FuncId} {np nt : Nat} {b : aw} {rs : List iF} {own : Bool} (hf : AP f = some (.code np nt b rs own)) (as : List AV) (s : ae) : au AP (.inl f) as s = if as.length = np ∧ s.ro < s.ag.length then
      match fM AP b ⟨jQ as,s⟩with
      |some (.normal,st)|some (.ret,st)=>(ug st rs).map fun l=>(packed l,st.sig)
      |_=>none
    else none:=by
  refine ua fun r=>⟨fun h=>?_,fun h=>?_⟩
  · obtain ⟨n, hn⟩ := Jt h
    simp only[jd,hf]at hn
    split at hn
    · rename_i hl
      rw[ak hl]
      split at hn
      · rename_i st h1;rw[gM h1];exact hn
      · rename_i st h1;rw[gM h1];exact hn
      · cases hn
    · cases hn
  · split at h
    · rename_i hl
      split at h
      · rename_i st h1
        obtain⟨n,hn⟩:=j4.1 h1
        exact Bh (n:=n) (by simp only[jd,hf,ak hl,hn];exact h)
      · rename_i st h1
        obtain⟨n,hn⟩:=j4.1 h1
        exact Bh (n:=n) (by simp only[jd,hf,ak hl,hn];exact h)
      · cases h
    · cases h
theorem Vl {f:FuncId} {F:List AV→Option AV} (hf:AP f=some (.rG F)) (as:List AV) (s:ae):au AP (.fn f) as s=(closeAll as).bind fun bs=>(F bs).map (·,s):=by
 refine ua fun r=>⟨fun h=>?_,fun h=>?_⟩
 ·obtain⟨n,hn⟩:=Jt h
  simpa only[jd,hf]using hn
 ·exact Bh (n:=0) (by simpa only[jd,hf]using h)
def endRound (l:Nat):Option (cM×St)→Option (AV×ae)
 |some (.normal,aQ)=>some (AV.bool true,(ek aQ.sig l fun p=>{p with ready:=true,eG:=none}).pop)
 |some (e,aQ)=>some (AV.bool false,(ek aQ.sig l fun p=>{p with ready:=false,eG:=some e}).pop)
 |none=>none
theorem aer (l:Nat) (as:List AV) (s:ae):au AP (.yield l) as s=match s.loops[l]? with
  | some lp =>
   if lp.ready=true∧s.bt≤l∧as.length=lp.params.length then
    match fM AP lp.assign ⟨uj lp.tmps lp.params as,s.push ⟨[],[]⟩⟩with
    |some (.normal,st)=>if Ch st.sig l=true then endRound l (fM AP lp.body ⟨st.tmps,ek st.sig l fun p=>{p with ready:=false}⟩)else none
    |_=>none
   else none
  |none=>none:=by
 refine ua fun r=>⟨fun h=>?_,fun h=>?_⟩
 ·obtain⟨n,hn⟩:=Jt h
  simp only[jd]at hn
  split at hn
  ·rename_i lp sw
   split at hn
   ·rename_i br
    rw[sw]
    simp only
    rw[ak br]
    split at hn
    ·rename_i st h1
     rw[gM h1]
     simp only
     split at hn
     ·rename_i hr
      rw[ak hr]
      split at hn
      ·rename_i aQ h2
       rw[gM h2]
       exact hn
      ·rename_i e aQ aD h2
       rw[gM h2]
       cases e with
       |normal=>exact absurd rfl aD
       |exit id=>exact hn
       |ret=>exact hn
      ·cases hn
     ·cases hn
    ·cases hn
   ·cases hn
  ·cases hn
 ·split at h
  ·rename_i lp sw
   split at h
   ·rename_i br
    split at h
    ·rename_i st h1
     split at h
     ·rename_i hr
      obtain⟨n1,e1⟩:=j4.1 h1
      cases hb:fM AP lp.body ⟨st.tmps,ek st.sig l fun p=>{p with ready:=false}⟩with
      |none=>rw[hb]at h;cases h
      |some q=>
       obtain⟨e,aQ⟩:=q
       obtain⟨n2,e2⟩:=j4.1 hb
       rw[hb]at h
       refine Bh (n:=max n1 n2) ?_
       simp only[jd,sw,ak br,u2 (CT n1 n2) e1,ak hr,u2 (HW n1 n2) e2]
       cases e<;>exact h
     ·cases h
    ·cases h
   ·cases h
  ·cases h
end
end Go.Ax
/-
  A call's arguments as the executor has them: from the row's reading.
-/
namespace Go.Ax
open Go.ChangeShapes Go.WideShapes
def Hv (P:Program) (ok:TypeId→Bool) (size:Nat):Nat→List Field→Bool
 |off,[]=>decide (off=size)
 |off,f::r=>decide (f.offset=off)&&ok f.type&&Hv P ok size (off+P.cellsOf f.type) r
def nh (P:Program):Nat→TypeId→Bool
 |0,_=>false
 |d+1,t=>match P.underlying t with
  |some .bool|some (.int _)|some .string=>decide (P.cellsOf t=1)
  |some (.slice e)=>decide (P.cellsOf t=1)&&decide (0<P.cellsOf e)&&nh P d e
  |some (.struct fs)=>Hv P (nh P d) (P.cellsOf t) 0 fs.toList
  |some (.array n e)=>decide (n*P.cellsOf e=P.cellsOf t)&&nh P d e
  |_=>false
def eQ (P:Program):Nat→TypeId→List AV→Prop
 |0,_,_=>False
 |d+1,t,ct=>match P.underlying t with
  |some .bool=>∃b,ct=[.v (.bool b)]
  |some (.int k)=>∃x,ct=[.v (.int k x)]∧(Lit.int k x).wf=true
  |some .string=>∃s:ByteArray,ct=[.v (.string s)]∧s.size≤maxLen
  |some (.slice e)=>∃o rows,ct=[.slice o (P.cellsOf e) rows]∧(o=.any∨(o=.aA∧rows=[]))∧rows.length≤maxLen∧(∀r∈rows,r.length=P.cellsOf e∧eQ P d e r)∧rows.length*P.bytesOf e≤reachBytes
  |some (.struct fs)=>∃ps:List (List AV),ct=ps.flatten∧ps.length=fs.size∧∀(i:Nat) (f:Field) (p:List AV),fs[i]? =some f→ps[i]? =some p→p.length=P.cellsOf f.type∧eQ P d f.type p
  |some (.array n e)=>∃ps:List (List AV),ct=ps.flatten∧ps.length=n∧∀p∈ps,p.length=P.cellsOf e∧eQ P d e p
  |_=>False
structure RL (w:World) (ct:List AV) (cs:List Value):Prop where
 len:ct.length=cs.length
 get:∀(i:Nat) (a:AV) (c:Value),ct[i]? =some a→cs[i]? =some c→Reads w a c∧a.bA=true
theorem RL.nil {w:World}:RL w [] []:=⟨rfl,fun i a c h=>by simp at h⟩
theorem RL.one {w:World} {a:AV} {c:Value} (h:Reads w a c) (hc:a.bA=true):RL w [a] [c]:=⟨rfl,fun i x y h1 h2=>by
 cases i with
 |zero=>simp at h1 h2;subst h1 h2;exact⟨h,hc⟩
 |succ i=>simp at h1⟩
theorem RL.append {w:World} {a b:List AV} {c d:List Value} (h:RL w a c) (k:RL w b d):RL w (a++b) (c++d):=⟨by simp[h.len,k.len],fun i x y h1 h2=>by
 by_cases hi:i<a.length
 ·rw[dM hi]at h1
  rw[dM (by rw[←h.len];exact hi)]at h2
  exact h.get i x y h1 h2
 ·rw[gO (by omega)]at h1
  rw[gO (by rw[←h.len];omega),←h.len]at h2
  exact k.get _ x y h1 h2⟩
section
variable{H:Type} {enc:TypeId×Value→H} {P:Program} {w:World}
theorem abJ {α:Type} (l:List α) (off n:Nat):(l.drop off).take n++l.drop (off+n)=l.drop off:=by
 rw[←List.drop_drop];exact HS _ _
theorem aae {d size:Nat} {cs:List Value} {n:Nat} (ih:∀(t:TypeId) (fuel:Nat) (cs:List Value) (x:DataW H×List MemPlace),nh P d t=true→DataW.trod enc P w 0 (fun _=>true) true fuel t cs=some x→(∀n∈x.1.weights P t,n≤reachBytes)→∃ct,RL w ct cs∧cs.length=P.cellsOf t∧eQ P d t ct) (hl:cs.length=size):
  ∀(fs:List Field) (off:Nat),Hv P (nh P d) size off fs=true→(∀f∈fs,∃y,DataW.trod enc P w 0 (fun _=>true) true n f.type ((cs.drop f.offset).take (P.cellsOf f.type))=some y∧∀n∈y.1.weights P f.type,n≤reachBytes)→
   ∃ps:List (List AV),RL w ps.flatten (cs.drop off)∧ps.length=fs.length∧∀(i:Nat) (f:Field) (p:List AV),fs[i]? =some f→ps[i]? =some p→p.length=P.cellsOf f.type∧eQ P d f.type p
 |[],off,ht,_=>by
  have:off=size:=by simpa[Hv]using ht
  subst this
  refine⟨[],?_,rfl,fun i f p h=>by simp at h⟩
  rw[←hl,eZ];exact .nil
 | f :: r, off, ht, hf => by
  simp only[Hv,dB,dU]at ht
  obtain⟨⟨rfl,bH⟩,hr⟩:=ht
  obtain⟨y,hy,QO⟩:=hf f (CP ..)
  obtain⟨ct,h1,h2,h3⟩:=ih _ _ _ _ bH hy QO
  obtain⟨ps,k1,k2,k3⟩:=aae ih hl r _ hr (fun g hg=>hf g (iI _ hg))
  refine⟨ct::ps,?_,by simp[k2],fun i g p hg hp=>?_⟩
  ·rw[s8,←abJ cs f.offset (P.cellsOf f.type)]
   exact h1.append k1
  ·cases i with
   |zero=>simp at hg hp;subst hg hp;exact⟨by rw[h1.len,h2],h3⟩
   |succ i=>simp at hg hp;exact k3 i g p hg hp
theorem aad {d:Nat} {cs:List Value} {n:Nat} {e:TypeId} (ih:∀(t:TypeId) (fuel:Nat) (cs:List Value) (x:DataW H×List MemPlace),nh P d t=true→DataW.trod enc P w 0 (fun _=>true) true fuel t cs=some x→(∀n∈x.1.weights P t,n≤reachBytes)→∃ct,RL w ct cs∧cs.length=P.cellsOf t∧eQ P d t ct) (bH:nh P d e=true):
  ∀(k i:Nat),cs.length=(i+k)*P.cellsOf e→(∀j,i≤j→j<i+k→∃y,DataW.trod enc P w 0 (fun _=>true) true n e ((cs.drop (j*P.cellsOf e)).take (P.cellsOf e))=some y∧∀n∈y.1.weights P e,n≤reachBytes)→
   ∃ps:List (List AV),RL w ps.flatten (cs.drop (i*P.cellsOf e))∧ps.length=k∧∀p∈ps,p.length=P.cellsOf e∧eQ P d e p
 |0,i,hl,_=>by
  refine⟨[],?_,rfl,fun p h=>by simp at h⟩
  rw[show i*P.cellsOf e=cs.length by rw[hl];simp,eZ];exact .nil
 | k + 1, i, hl, hf => by
  obtain⟨y,hy,QO⟩:=hf i (aH _) (by omega)
  obtain⟨ct,h1,h2,h3⟩:=ih _ _ _ _ bH hy QO
  obtain⟨ps,k1,k2,k3⟩:=aad ih bH k (i+1) (by rw[hl];congr 1;omega) (fun j h1 h2=>hf j (by omega) (by omega))
  refine⟨ct::ps,?_,by simp[k2],fun p hp=>?_⟩
  ·rw[s8,←abJ cs (i*P.cellsOf e) (P.cellsOf e)]
   rw[Nat.succ_mul]at k1
   exact h1.append k1
  ·rcases er.1 hp with rfl|hp
   ·exact⟨by rw[h1.len,h2],h3⟩
   ·exact k3 p hp
theorem SM {e:TypeId}:∀{l:List (DataW H)} {d:DataW H},d∈l→∀n∈d.weights P e,n∈DataW.weightsAll P e l
 |x::l,d,h,n,hn=>by
  simp only[DataW.weightsAll,dC]
  rcases er.1 h with rfl|h
  ·exact .inl hn
  ·exact .inr (SM h n hn)
 |[],d,h,_,_=>by cases h
theorem aaf : ∀ (d : Nat) (t : TypeId) (fuel : Nat) (cs : List Value) (x : DataW H × List MemPlace), nh P d t = true → DataW.trod enc P w 0 (fun _ => true) true fuel t cs = some x → (∀ n ∈ x.1.weights P t, n ≤ reachBytes) →
    ∃ct,RL w ct cs∧cs.length=P.cellsOf t∧eQ P d t ct
  |0,t,fuel,cs,x,h,_,_=>by simp[nh]at h
  | d + 1, t, fuel, cs, x, bH, h, mw => by
    have ih:=aaf d
    unfold nh at bH
    cases hu:P.underlying t with
    |none=>rw[hu]at bH;cases bH
    | some u =>
      rw[hu]at bH
      cases u with
      | bool =>
        obtain⟨b,rfl,_⟩:=DataW.trod_bool hu h
        exact⟨[.v (.bool b)],.one (.v rfl) rfl,by simp only[dU]at bH;simp[bH],by simp only[eQ,hu];exact⟨b,rfl⟩⟩
      | int k =>
        obtain⟨n,rfl,_,hw⟩:=DataW.trod_int hu h
        exact⟨[.v (.int k n)],.one (.v rfl) rfl,by simp only[dU]at bH;simp[bH],by simp only[eQ,hu];exact⟨n,rfl,hw⟩⟩
      | string =>
        obtain⟨s,rfl,_,hw⟩:=DataW.trod_string hu h
        exact⟨[.v (.string s)],.one (.v rfl) rfl,by simp only[dU]at bH;simp[bH],by simp only[eQ,hu];exact⟨s,rfl,hw⟩⟩
      | struct fs =>
        obtain⟨xs,n,_,rp,hl,KL,dZ⟩:=DataW.trod_struct hu h
        subst rp
        have mw:∀n∈DataW.weightsEach P (fs.toList.map (·.type)) (xs.map (·.1)),n≤reachBytes:=fun n hn=>mw n (by simpa[DataW.weights,hu]using hn)
        obtain⟨ps,k1,k2,k3⟩:=aae ih hl fs.toList 0 bH (fun f hf=>by
          obtain⟨i,hi⟩:=n9 hf
          have bG:fs[i]? =some f:=by simpa using hi
          have aC:i<xs.length:=by
            have:=(bd.1 hi).1
            rw[KL];simpa using this
          exact⟨xs[i],by rw[dZ i f bG,cY aC],fun n hn=>mw n (DataW.weights_mem_each (j:=i) (t:=f.type) (d:=xs[i].1) (by rw[gX,hi];rfl) (by rw[gX,cY aC];rfl) n hn)⟩)
        exact⟨ps.flatten,by simpa using k1,hl,by simp only[eQ,hu];exact⟨ps,rfl,by simpa using k2,fun i f p hf hp=>k3 i f p (by simpa using hf) hp⟩⟩
      | array n e =>
        simp only[dB,dU]at bH
        obtain⟨xs,m,_,rp,hl,KL,dZ⟩:=DataW.trod_array hu h
        subst rp
        have mw:∀n∈DataW.weightsAll P e (xs.map (·.1)),n≤reachBytes:=fun n hn=>mw n (by simpa[DataW.weights,hu]using hn)
        obtain⟨ps,k1,k2,k3⟩:=aad (n:=m) (cs:=cs) ih bH.2 n 0 (by rw[hl,←bH.1,fN]) (fun j _ hj=>by
          have aC:j<xs.length:=by omega
          exact⟨xs[j],by rw[dZ j (by omega),cY aC],fun n hn=>mw n (SM (cz.2 ⟨xs[j],gG aC,rfl⟩) n hn)⟩)
        exact⟨ps.flatten,by simpa using k1,hl,by simp only[eQ,hu];exact⟨ps,rfl,k2,k3⟩⟩
      | slice e =>
        simp only[dB,dU]at bH
        obtain⟨⟨ef,zt⟩,aj3⟩:=bH
        rcases Deep.open_slice hu h with⟨rfl,_⟩|⟨a,len,cap,m,n,D,Pl,rfl,_,PV,sn,hm,rp,hx⟩
        · exact⟨[.slice .aA (P.cellsOf e) []],.one .aA rfl,by simp[ef],by simp only[eQ,hu];exact⟨_,_,rfl,.inr ⟨rfl,rfl⟩,by simp,fun r hr=>by simp at hr,by simp⟩⟩
        · subst rp
          have YO:∀n,n=((((List.range len).map D).length+((List.range (m-len)).map fun j=>D (len+j)).length)*P.bytesOf e)∨n∈DataW.weightsAll P e ((List.range len).map D)→n≤reachBytes:=fun n hn=>mw n (by
            simp only[DataW.weights,hu,er,dC]
            rcases hn with hn|hn
            · exact .inl hn
            · exact .inr (.inl hn))
          simp only[bP]at hm
          have hm':cap=m:=hm.symm
          subst hm'
          by_cases h0:cap=0
          · subst h0
            have:len=0:=by omega
            subst this
            exact⟨[.slice .any (P.cellsOf e) []],.one (.empty (.inl rfl)) rfl,by simp[ef],by simp only[eQ,hu];exact⟨_,_,rfl,.inl rfl,by simp,fun r hr=>by simp at hr,by simp⟩⟩
          · obtain ⟨blk, off, spot⟩ := a
            have akA:spot=none:=by
              obtain⟨cs',h1,_⟩:=hx 0 (by omega)
              obtain⟨_,re,hg⟩:=World.cells?_some h1
              have:=hg 0 zt
              rw[cY (by omega)]at this
              simpa[Addr.add]using World.cell?_spot this
            subst akA
            obtain⟨F,hF⟩:=Deep.choose_lt (α:=List AV×List Value) (n:=len) (p:=fun i q=>w.cells? 0 ((⟨blk,off,none⟩:Addr).add (i*P.cellsOf e)) (P.cellsOf e)=some q.2∧RL w q.1 q.2∧q.2.length=P.cellsOf e∧eQ P d e q.1) (fun i hi=>by
              obtain⟨cs',h1,h2⟩:=hx i (by omega)
              obtain⟨ct,k1,k2,k3⟩:=ih _ _ _ _ aj3 h2 (fun n hn=>YO n (.inr (SM (cz.2 ⟨i,oh.2 hi,rfl⟩) n hn)))
              exact⟨(ct,cs'),h1,k1,k2,k3⟩)
            have xE:∀i (hi:i<((List.range len).map fun i=>(F i).1).length),((List.range len).map fun i=>(F i).1)[i]=(F i).1:=fun i hi=>by simp
            have bz:∀i,i<len→∀j,j<P.cellsOf e→w.cell? ⟨blk,off+i*P.cellsOf e+j,none⟩=(F i).2[j]? :=by
              intro i hi j hj
              obtain⟨_,_,hg⟩:=World.cells?_some (hF i hi).1
              have:=hg j hj
              rw[add_plain,add_plain]at this
              exact this
            refine⟨[.slice .any (P.cellsOf e) ((List.range len).map fun i=>(F i).1)],.one ?_ rfl,by simp[ef],?_⟩
            · have hlen : ((List.range len).map fun i => (F i).1).length = len := by simp
              have:=bL.slice (I:=fun b i=>w.cell? ⟨b,i,none⟩) (o:=.any) (es:=P.cellsOf e) (xs:=(List.range len).map fun i=>(F i).1) (blk:=blk) (off:=off) (cap:=cap) (fun i j=>((F i).2).getD j Go.undef) (.inl rfl) (by rw[hlen];exact PV)
                (fun r hr=>by
                  obtain⟨i,hi,rfl⟩:=cz.1 hr
                  have:=hF i (by simpa using hi)
                  rw[this.2.1.len,this.2.2.1])
                (fun r hr c hc=>by
                  obtain⟨i,hi,rfl⟩:=cz.1 hr
                  have qV:=hF i (by simpa using hi)
                  obtain⟨j,hj⟩:=n9 hc
                  have hZ:=(bd.1 hj).1
                  exact(qV.2.1.get j c ((F i).2[j]'(by rw[←qV.2.1.len];exact hZ)) hj (cY _)).2)
                (fun i hi j hj=>by
                  have bG:i<len:=by simpa using hi
                  have qV:=hF i bG
                  rw[xE i hi]at hj
                  have dO:j<(F i).2.length:=by rw[←qV.2.1.len];exact hj
                  rw[bz i bG j (by rw[←qV.2.2.1];exact dO),cY dO]
                  simp[List.getD,cY dO])
                (fun i hi j hj=>by
                  have bG:i<len:=by simpa using hi
                  have qV:=hF i bG
                  have X5:j<(F i).1.length:=by rw[xE i hi]at hj;exact hj
                  have dO:j<(F i).2.length:=by rw[←qV.2.1.len];exact X5
                  have hg:=(qV.2.1.get j ((F i).1[j]) ((F i).2[j]) (cY X5) (cY dO)).1
                  have e1:((List.range len).map fun i=>(F i).1)[i][j]=(F i).1[j]:=by simp
                  rw[e1,show((F i).2).getD j Go.undef=(F i).2[j]by simp[List.getD,cY dO]]
                  exact hg)
              rw[hlen]at this
              exact this
            · simp only [eQ, hu]
              exact⟨_,_,rfl,.inl rfl,by simp;omega,fun r hr=>by
                obtain⟨i,hi,rfl⟩:=cz.1 hr
                have qV:=hF i (by simpa using hi)
                exact⟨by rw[qV.2.1.len,qV.2.2.1],qV.2.2.2⟩,by
                have:=YO _ (.inl rfl)
                simp only[bR,pP]at this⊢
                exact kt (oQ _ (by omega)) this⟩
      |_=>cases bH
end
end Go.Ax
/-
  Computing with the executor: the steps, one by one.
-/
namespace Go.Ax.Sx
structure Ok (s:ae):Prop where
 ro:s.ro≤s.ag.length
 bt:s.bt≤s.loops.length
theorem Ok.push {s:ae} (h:Ok s) (r:Rec):Ok (s.push r):=⟨by have:=h.ro;simp[ae.push];omega,h.bt⟩
@[simp] theorem pop_push (s:ae) (r:Rec):(s.push r).pop=s:=by simp[ae.push,ae.pop]
@[simp] theorem fP (s:ae) (r:Rec):(s.push r).cur=s.ag.length:=by simp[ae.push,ae.cur]
theorem MC (s:ae) (r:Rec):(s.push r).ag.length=s.ag.length+1:=by simp[ae.push]
theorem iK (s:ae) (r:Rec) (b:Nat):(s.push r).box s.ag.length b=r.boxes[b]? :=by simp[ae.push,ae.box]
theorem xS (s:ae) (r:Rec):(s.push r).bQ s.ag.length=r.boxes.length:=by simp[ae.push,ae.bQ]
theorem CB (s:ae) (r:Rec) (g:Nat):(s.push r).tok s.ag.length g=(r.toks[g]?).join:=by simp[ae.push,ae.tok]
theorem qu (s:ae) (r:Rec):(s.push r).jZ s.ag.length=r.toks.length:=by simp[ae.push,ae.jZ]
theorem zX (s:ae) (r:Rec) (f:Rec→Rec):(s.push r).bu s.ag.length f=s.push (f r):=by
 simp only[ae.push,ae.bu,ae.mk.injEq,and_true]
 apply pO
 intro i
 rw[wa]
 by_cases h:i<s.ag.length
 ·rw[dM h,dM h]
  have:¬s.ag.length=i:=by omega
  simp[this]
 ·rw[gO (by omega),gO (by omega)]
  by_cases h':s.ag.length=i
  ·subst h';simp
  ·have e:i-s.ag.length=(i-s.ag.length-1)+1:=by omega
   rw[e];simp
theorem C2 (s:ae) (r:Rec) (cs:List AV):(s.push r).jw s.ag.length cs=s.push ⟨r.boxes++[cs],r.toks⟩:=by rw[ae.jw,zX]
theorem Sn (s:ae) (r:Rec) (b:Nat) (cs:List AV):(s.push r).dL s.ag.length b cs=s.push ⟨r.boxes.set b cs,r.toks⟩:=by rw[ae.dL,zX]
theorem oS (s:ae) (r:Rec) (n:Nat):(s.push r).lA s.ag.length n=s.push ⟨r.boxes,r.toks++[some n]⟩:=by rw[ae.lA,zX]
theorem LD (s:ae) (r:Rec) (g:Nat) (n:Option Nat):(s.push r).mJ s.ag.length g n=s.push ⟨r.boxes,r.toks.set g n⟩:=by rw[ae.mJ,zX]
theorem R5 (s:ae) (r:Rec):(s.push r).ro=s.ro:=rfl
section
variable{call:aZ} {ρ:Nat→AV} {m:ae} {t:Nat} {rest:List bC}
noncomputable def andThen (call:aZ) (d:Option Nat) (rest:List bC) (ρ:Nat→AV) (r:Option (AV×ae)):Option St:=
 r.bind fun p=>ops call rest ⟨kK ρ d p.1,p.2⟩
theorem aah {d:Option Nat} {op:ck}:ops call (⟨d,none,op⟩::rest) ⟨ρ,m⟩=andThen call d rest ρ (aN call (aE ρ) m op):=by
 simp only[ops,kM,andThen,bP]
 cases aN call (aE ρ) m op<;>rfl
def lU {β:Type} (x:AV) (f:Bool→β) (d:β):β:=
 match x with
 |.v (.bool b)=>f b
 |_=>d
theorem Lc {β:Type} {b:Bool} {f:Bool→β} {d:β}:lU (.v (.bool b)) f d=f b:=rfl
theorem ap1 {β:Type} {x x':AV} {f:Bool→β} {d:β} (h:x=x'):lU x f d=lU x' f d:=by rw[h]
theorem arX:put t (ρ t) ρ=ρ:=by
 funext u;unfold put;split
 ·rename_i h;rw[h]
 ·rfl
theorem ap5 {d:Option Nat} {op:ck} {b:Bool}:ops call (⟨d,some (t,b),op⟩::rest) ⟨ρ,m⟩=
  lU (ρ t) (fun c=>cond c
   (cond b (andThen call d rest (put t (.v (.bool true)) ρ) (aN call (aE (put t (.v (.bool true)) ρ)) m op)) (ops call rest ⟨kK (put t (.v (.bool true)) ρ) d AV.undef,m⟩))
   (cond b (ops call rest ⟨kK (put t (.v (.bool false)) ρ) d AV.undef,m⟩) (andThen call d rest (put t (.v (.bool false)) ρ) (aN call (aE (put t (.v (.bool false)) ρ)) m op))))
   (ops call rest ⟨kK ρ d AV.undef,m⟩):=by
 have hw:∀b',CF b (.v (.bool b'))=(b'==b):=fun _=>rfl
 by_cases h:∃c,ρ t=.v (.bool c)
 ·obtain⟨c,h⟩:=h
  have e:put t (.v (.bool c)) ρ=ρ:=by rw[←h];exact arX
  simp only[ops,kM,andThen,h,hw,lU]
  cases c<;>cases b<;>simp[e]<;>(cases aN call (aE ρ) m op<;>rfl)
 ·have h1:CF b (ρ t)=false:=by
   cases hx:ρ t with
   |v x=>cases x with
    |bool c=>exact absurd ⟨c,hx⟩ h
    |_=>rfl
   |_=>rfl
  have h2:∀{β:Type} (f:Bool→β) (d:β),lU (ρ t) f d=d:=by
   intro β f d
   cases hx:ρ t with
   |v x=>cases x with
    |bool c=>exact absurd ⟨c,hx⟩ h
    |_=>rfl
   |_=>rfl
  simp[ops,kM,h1,h2]
end
inductive K where
 |c (a:aw)
 |blk (id:Nat)
 |lp (a:aw)
section
variable(AP:FuncId→Option aJ) (Fin:cM→St→Option (AV×ae))
noncomputable def jg:List K→cM→St→Option (AV×ae)
 |[],e,st=>Fin e st
 |.c a::ks,e,st=>match e with
  |.normal=>(fM AP a st).bind fun p=>jg ks p.1 p.2
  |e=>jg ks e st
 |.blk id::ks,e,st=>match e with
  |.exit j=>if j=id then jg ks .normal st else jg ks (.exit j) st
  |e=>jg ks e st
 |.lp a::ks,e,st=>match e with
  |.normal=>(fM AP (.loop a) st).bind fun p=>jg ks p.1 p.2
  |e=>jg ks e st
noncomputable def go (ks:List K) (st:St):Option (AV×ae):=jg AP Fin ks .normal st
noncomputable def dH (l:List bC) (ks:List K) (st:St):Option (AV×ae):=(ops (au AP) l st).bind fun aQ=>go AP Fin ks aQ
noncomputable def u6 (id:Nat) (ks:List K) (st:St):Option (AV×ae):=jg AP Fin ks (.exit id) st
noncomputable def Xi (ks:List K) (st:St):Option (AV×ae):=jg AP Fin ks .ret st
noncomputable def qT (d:Option Nat) (l:List bC) (ks:List K) (ρ:Nat→AV) (r:Option (AV×ae)):Option (AV×ae):=r.bind fun p=>dH AP Fin l ks ⟨kK ρ d p.1,p.2⟩
def aY (rs:List iF) (own:Bool):cM→St→Option (AV×ae)
 |.exit _,_=>none
 |_,st=>finish rs own st
def ov (l:Nat) (e:cM) (st:St):Option (AV×ae):=endRound l (some (e,st))
variable{AP Fin} {ks:List K} {st:St} {a b:aw} {ρ:Nat→AV} {m:ae} {rest:List bC}
theorem ah6:go AP Fin [] st=Fin .normal st:=rfl
theorem ahZ {id:Nat}:u6 AP Fin id [] st=Fin (.exit id) st:=rfl
theorem FN:∀{ks:List K},Xi AP Fin ks st=Fin .ret st
 |[]=>rfl
 |.c _::ks=>(FN (ks:=ks):_)
 |.blk _::ks=>(FN (ks:=ks):_)
 |.lp _::ks=>(FN (ks:=ks):_)
theorem ahX {id:Nat}:u6 AP Fin id (.c a::ks) st=u6 AP Fin id ks st:=rfl
theorem ahY {id:Nat}:u6 AP Fin id (.lp a::ks) st=u6 AP Fin id ks st:=rfl
theorem ahW {id j:Nat}:u6 AP Fin id (.blk j::ks) st=if id=j then go AP Fin ks st else u6 AP Fin id ks st:=rfl
theorem go_skip:go AP Fin (.c .skip::ks) st=go AP Fin ks st:=by simp[go,jg,asO]
theorem ah3 {id:Nat}:go AP Fin (.c (.exit id)::ks) st=u6 AP Fin id ks st:=by simp[go,jg,asI,u6]
theorem go_ret:go AP Fin (.c .ret::ks) st=Fin .ret st:=by
 rw[←FN (AP:=AP) (Fin:=Fin) (ks:=ks) (st:=st)];simp[go,jg,asM,Xi]
theorem ah0 {id:Nat}:go AP Fin (.blk id::ks) st=go AP Fin ks st:=rfl
theorem ah5:go AP Fin (.lp a::ks) st=go AP Fin (.c (.loop a)::ks) st:=rfl
theorem go_region {d:Bool} {l:List bC}:go AP Fin (.c (.region d l)::ks) st=dH AP Fin l ks st:=by
 simp only[go,jg,asL,dH,Option.bind_map];rfl
theorem ah7:go AP Fin (.c (.seq a b)::ks) st=go AP Fin (.c a::.c b::ks) st:=by
 simp only[go,jg,asN]
 cases h:fM AP a st with
 |none=>rfl
 |some p=>obtain⟨e,aQ⟩:=p;cases e<;>rfl
theorem ah1 {id:Nat}:go AP Fin (.c (.block id a)::ks) st=go AP Fin (.c a::.blk id::ks) st:=by
 simp only[go,jg,asG]
 cases h:fM AP a st with
 |none=>rfl
 |some p=>
  obtain⟨e,aQ⟩:=p
  cases e with
  |exit j=>by_cases hj:j=id<;>simp[hj]
  |_=>rfl
theorem go_loop:go AP Fin (.c (.loop a)::ks) st=go AP Fin (.c a::.lp a::ks) st:=by
 simp only[go,jg]
 rw[asJ]
 cases h:fM AP a st with
 |none=>rfl
 |some p=>obtain⟨e,aQ⟩:=p;cases e<;>rfl
theorem ah2 {x:aF}:go AP Fin (.c (.cond x a b)::ks) ⟨ρ,m⟩=lU (aE ρ x) (fun t=>cond t (go AP Fin (.c a::ks) ⟨ρ,m⟩) (go AP Fin (.c b::ks) ⟨ρ,m⟩)) none:=by
 simp only[go,jg,asH,lU]
 cases aE ρ x with
 |v y=>cases y with
  |bool t=>cases t<;>rfl
  |_=>rfl
 |_=>rfl
theorem ahP:dH AP Fin [] ks st=go AP Fin ks st:=rfl
theorem Xh {d:Option Nat} {op:ck}:dH AP Fin (⟨d,none,op⟩::rest) ks ⟨ρ,m⟩=qT AP Fin d rest ks ρ (aN (au AP) (aE ρ) m op):=by
 simp only[dH,aah,andThen,qT]
 cases aN (au AP) (aE ρ) m op<;>rfl
theorem FM {d:Option Nat} {op:ck} {t:Nat} {b:Bool}:dH AP Fin (⟨d,some (t,b),op⟩::rest) ks ⟨ρ,m⟩=
  lU (ρ t) (fun c=>cond c
   (cond b (dH AP Fin (⟨d,none,op⟩::rest) ks ⟨put t (.v (.bool true)) ρ,m⟩) (dH AP Fin rest ks ⟨kK (put t (.v (.bool true)) ρ) d AV.undef,m⟩))
   (cond b (dH AP Fin rest ks ⟨kK (put t (.v (.bool false)) ρ) d AV.undef,m⟩) (dH AP Fin (⟨d,none,op⟩::rest) ks ⟨put t (.v (.bool false)) ρ,m⟩)))
   (dH AP Fin rest ks ⟨kK ρ d AV.undef,m⟩):=by
 simp only[dH,ap5,aah]
 have:∀(x:AV) (f:Bool→Option St) (d:Option St) (g:St→Option (AV×ae)),(lU x f d).bind g=lU x (fun c=>(f c).bind g) (d.bind g):=by
  intro x f d g
  cases x with
  |v y=>cases y<;>rfl
  |_=>rfl
 rw[this]
 congr 1
 funext c
 cases c<;>cases b<;>rfl
theorem ahO {op:ck} {t:Nat}:dH AP Fin (⟨none,some (t,true),op⟩::rest) ks ⟨ρ,m⟩=
  lU (ρ t) (fun c=>cond c (dH AP Fin (⟨none,none,op⟩::rest) ks ⟨put t (.v (.bool true)) ρ,m⟩) (dH AP Fin rest ks ⟨put t (.v (.bool false)) ρ,m⟩)) (dH AP Fin rest ks ⟨ρ,m⟩):=by
 rw[FM];rfl
theorem ahN {op:ck} {t:Nat}:dH AP Fin (⟨none,some (t,false),op⟩::rest) ks ⟨ρ,m⟩=
  lU (ρ t) (fun c=>cond c (dH AP Fin rest ks ⟨put t (.v (.bool true)) ρ,m⟩) (dH AP Fin (⟨none,none,op⟩::rest) ks ⟨put t (.v (.bool false)) ρ,m⟩)) (dH AP Fin rest ks ⟨ρ,m⟩):=by
 rw[FM];rfl
def eN:List (Nat×AV)→(Nat→AV)→Nat→AV
 |[],ρ=>ρ
 |(d,x)::ws,ρ=>put d x (eN ws ρ)
def gE:List (Nat×AV)→List (Nat×AV)
 |[]=>[]
 |(d,_)::ws=>(d,AV.undef)::gE ws
noncomputable def u0 (AP:FuncId→Option aJ) (Fin:cM→St→Option (AV×ae)) (c:Bool) (t:Nat) (b:Bool) (d:Nat) (op:ck) (l:List bC) (ks:List K) (ρ:Nat→AV) (m:ae):Option (AV×ae):=
 cond (c==b) (dH AP Fin (⟨some d,none,op⟩::l) ks ⟨put t (.v (.bool b)) ρ,m⟩) (dH AP Fin l ks ⟨put d AV.undef (put t (.v (.bool !b)) ρ),m⟩)
theorem Xg {d:Nat} {op:ck} {t:Nat} {b:Bool}:dH AP Fin (⟨some d,some (t,b),op⟩::rest) ks ⟨ρ,m⟩=
  lU (ρ t) (fun c=>u0 AP Fin c t b d op rest ks ρ m) (dH AP Fin rest ks ⟨put d AV.undef ρ,m⟩):=by
 rw[FM]
 congr 1
 funext c
 cases c<;>cases b<;>rfl
theorem afS {d t:Nat} {op:ck}:u0 AP Fin true t true d op rest ks ρ m=dH AP Fin (⟨some d,none,op⟩::rest) ks ⟨put t (.v (.bool true)) ρ,m⟩:=rfl
theorem afR {d t:Nat} {op:ck}:u0 AP Fin false t false d op rest ks ρ m=dH AP Fin (⟨some d,none,op⟩::rest) ks ⟨put t (.v (.bool false)) ρ,m⟩:=rfl
theorem afQ {d t:Nat} {op:ck}:u0 AP Fin false t true d op rest ks ρ m=dH AP Fin rest ks ⟨put d AV.undef (put t (.v (.bool false)) ρ),m⟩:=rfl
theorem afP {d t:Nat} {op:ck}:u0 AP Fin true t false d op rest ks ρ m=dH AP Fin rest ks ⟨put d AV.undef (put t (.v (.bool true)) ρ),m⟩:=rfl
theorem ahV {t:Nat} {x:AV} {m':ae}:qT AP Fin (some t) rest ks ρ (some (x,m'))=dH AP Fin rest ks ⟨put t x ρ,m'⟩:=rfl
theorem arW {t:Nat} {x y:AV}:put t x (put t y ρ)=put t x ρ:=by
 funext u;unfold put;by_cases h:u=t<;>simp[h]
theorem Hh {d t:Nat} {x y:AV} (h:(d==t)=false):put d x (put t y ρ)=put t y (put d x ρ):=by
 have h:d≠t:=by simpa using h
 funext u
 unfold put
 by_cases h1:u=d
 ·subst h1;simp[h]
 ·by_cases h2:u=t
  ·subst h2;simp[h1]
  ·simp[h1,h2]
def qs (c b:Bool):List (Nat×AV)→List (Nat×AV)
 |[]=>[]
 |(d,x)::ws=>(d,cond b (cond c x AV.undef) (cond c AV.undef x))::qs c b ws
theorem Rr (c b:Bool):∀ws:List (Nat×AV),qs c b ws=cond (c==b) ws (gE ws)
 |[]=>by cases c<;>cases b<;>rfl
 |(d,x)::ws=>by rw[qs,Rr c b ws];cases c<;>cases b<;>rfl
structure GF where
 c:Bool
 t:Nat
 b:Bool
 ws:List (Nat×AV)
def l8:List GF→(Nat→AV)→Nat→AV
 |[],ρ=>ρ
 |f::fs,ρ=>put f.t (.v (.bool f.b)) (eN f.ws (l8 fs ρ))
def jI:List GF→Bool
 |[]=>true
 |f::fs=>jI fs&&(f.c==f.b)
def je:List GF→(Nat→AV)→Nat→AV
 |[],ρ=>ρ
 |f::fs,ρ=>cond (jI fs) (cond (f.c==f.b) (put f.t (.v (.bool f.b)) (eN f.ws (je fs ρ))) (put f.t (.v (.bool !f.b)) (eN (gE f.ws) (je fs ρ)))) (eN (gE f.ws) (je fs ρ))
def fj (t:Nat):List (Nat×AV)→Bool
 |[]=>false
 |(d,_)::ws=>decide (t=d)||fj t ws
def lookW (t:Nat):List (Nat×AV)→AV
 |[]=>AV.undef
 |(d,x)::ws=>if t=d then x else lookW t ws
def okF:List GF→Bool
 |[]=>true
 |[_]=>true
 |f::g::fs=>fj f.t g.ws&&!decide (f.t=g.t)&&okF (g::fs)
theorem H9:∀{fs:List GF} {ρ:Nat→AV},jI fs=true→je fs ρ=l8 fs ρ
 |[],_,_=>rfl
 |f::fs,ρ,h=>by
  simp only[jI,dB]at h
  simp only[je,l8,h.1,h.2,fH,H9 h.1]
theorem Zw {t:Nat}:∀{ws:List (Nat×AV)} {ρ:Nat→AV},fj t ws=true→eN ws ρ t=lookW t ws
 |[],_,h=>by simp[fj]at h
 | (d, x) :: ws, ρ, h => by
  simp only[eN,put,lookW]
  by_cases e:t=d
  ·rw[ak e,ak e]
  ·rw[aq e,aq e]
   simp only[fj,e,tB,l4]at h
   exact Zw h
theorem LP {t:Nat}:∀{ws:List (Nat×AV)} {ρ:Nat→AV},fj t ws=true→eN (gE ws) ρ t=AV.undef
 |[],_,h=>by simp[fj]at h
 | (d, x) :: ws, ρ, h => by
  simp only[gE,eN,put]
  by_cases e:t=d
  ·rw[ak e]
  ·rw[aq e]
   simp only[fj,e,tB,l4]at h
   exact LP h
theorem abU {t:Nat}:∀{ws:List (Nat×AV)} {ρ:Nat→AV},ρ t=AV.undef→eN (gE ws) ρ t=AV.undef
 |[],_,h=>h
 |(d,x)::ws,ρ,h=>by
  simp only[gE,eN,put]
  by_cases e:t=d
  ·rw[ak e]
  ·rw[aq e];exact abU h
theorem apU {f g:GF} {fs:List GF} {ρ:Nat→AV} (h:okF (f::g::fs)=true) (ho:jI (g::fs)=false):je (g::fs) ρ f.t=AV.undef:=by
 simp only[okF,dB,sY,r5]at h
 simp only[jI]at ho
 simp only[je]
 cases h1:jI fs with
 |true=>
  rw[h1]at ho
  simp only[ia]at ho
  simp only[ho,fH,gR,put]
  rw[aq h.1.2]
  exact LP h.1.1
 |false=>
  simp only[gR]
  exact LP h.1.1
noncomputable def hU (AP:FuncId→Option aJ) (Fin:cM→St→Option (AV×ae)) (fs:List GF) (l:List bC) (ks:List K) (ρ:Nat→AV) (m:ae):Option (AV×ae):=dH AP Fin l ks ⟨je fs ρ,m⟩
noncomputable def qS (AP:FuncId→Option aJ) (Fin:cM→St→Option (AV×ae)) (f:GF) (fs:List GF) (d:Nat) (l:List bC) (ks:List K) (ρ:Nat→AV) (m:ae) (r:Option (AV×ae)):Option (AV×ae):=
 cond (jI (f::fs)) (qT AP Fin (some d) l ks (l8 (f::fs) ρ) r) (dH AP Fin l ks ⟨put d AV.undef (je (f::fs) ρ),m⟩)
theorem Xe {f:GF} {fs:List GF} {d:Nat} {op:ck} (h:okF (f::fs)=true):hU AP Fin (f::fs) (⟨some d,some (f.t,f.b),op⟩::rest) ks ρ m=qS AP Fin f fs d rest ks ρ m (aN (au AP) (aE (l8 (f::fs) ρ)) m op):=by
 unfold hU qS
 cases ha:jI (f::fs)with
 | true =>
  rw[H9 ha,FM]
  have hg:l8 (f::fs) ρ f.t=.v (.bool f.b):=by simp[l8,put]
  have hp:put f.t (.v (.bool f.b)) (l8 (f::fs) ρ)=l8 (f::fs) ρ:=by
   funext u;unfold put;by_cases e:u=f.t
   ·subst e;rw[ak rfl,hg]
   ·rw[aq e]
  rw[hg,Lc]
  cases hb:f.b<;>rw[hb]at hp<;>simp only[fH,gR,Xh]<;>rw[hp]
 | false =>
  simp only[gR]
  rw[FM]
  have hg:je (f::fs) ρ f.t=AV.undef∨je (f::fs) ρ f.t=.v (.bool !f.b):=by
   cases h1:jI fs with
   |true=>
    simp only[jI,h1,ia]at ha
    right
    simp[je,h1,ha,put]
   |false=>
    left
    simp only[je,h1,gR]
    cases fs with
    |nil=>simp[jI]at h1
    |cons g fs=>exact abU (apU h h1)
  rcases hg with hg|hg
  ·rw[hg];rfl
  ·have hp:put f.t (.v (.bool !f.b)) (je (f::fs) ρ)=je (f::fs) ρ:=by
    funext u;unfold put;by_cases e:u=f.t
    ·subst e;rw[ak rfl,hg]
    ·rw[aq e]
   rw[hg,Lc]
   cases hb:f.b<;>rw[hb]at hp<;>simp only[nZ,nY,fH,gR]at hp⊢<;>rw[hp]<;>rfl
theorem Xb {f:GF} {fs:List GF} {d:Nat} {x:AV} (h:(decide (d=f.t))=false):qS AP Fin f fs d rest ks ρ m (some (x,m))=hU AP Fin (⟨f.c,f.t,f.b,(d,x)::f.ws⟩::fs) rest ks ρ m:=by
 have h':(d==f.t)=false:=by simpa using h
 unfold qS hU
 cases ha:jI (f::fs)with
 |true=>
  have Kd:jI (⟨f.c,f.t,f.b,(d,x)::f.ws⟩::fs)=true:=ha
  rw[H9 Kd]
  simp only[fH,ahV,l8,eN]
  rw[Hh h']
 | false =>
  simp only[gR,je]
  cases h1:jI fs with
  |true=>
   simp only[jI,h1,ia]at ha
   simp only[fH,ha,gR,gE,eN]
   rw[Hh h']
  |false=>simp only[gR,gE,eN]
theorem arZ {ws vs:List (Nat×AV)}:eN (ws++vs) ρ=eN ws (eN vs ρ):=by
 induction ws with
 |nil=>rfl
 |cons p ws ih=>obtain⟨d,x⟩:=p;simp only[l5,eN,ih]
theorem atY {ws vs:List (Nat×AV)}:gE (ws++vs)=gE ws++gE vs:=by
 induction ws with
 |nil=>rfl
 |cons p ws ih=>obtain⟨d,x⟩:=p;simp only[l5,gE,ih]
theorem abV {c b:Bool}:∀{ws:List (Nat×AV)},gE (qs c b ws)=gE ws
 |[]=>rfl
 |(d,x)::ws=>by simp only[qs,gE,abV]
theorem Cr {t:Nat} {x:AV}:∀{ws:List (Nat×AV)} {ρ:Nat→AV},fj t ws=false→put t x (eN ws ρ)=eN ws (put t x ρ)
 |[],_,_=>rfl
 |(d,y)::ws,ρ,h=>by
  simp only[fj,LZ,r5]at h
  simp only[eN]
  rw[Hh (by simpa using h.1),Cr h.2]
theorem Ke {t:Nat}:∀{ws:List (Nat×AV)},fj t (gE ws)=fj t ws
 |[]=>rfl
 |(d,y)::ws=>by simp only[gE,fj,Ke]
theorem RT {t:Nat} {x:AV} (h:ρ t=x):put t x ρ=ρ:=by
 funext u;unfold put;by_cases e:u=t
 ·subst e;rw[ak rfl,h]
 ·rw[aq e]
theorem ahw {f g:GF} {fs:List GF} (l:List bC) (h:okF (f::g::fs)=true) (hw:fj f.t f.ws=false) (hv:fj g.t f.ws=false):
  hU AP Fin (f::g::fs) l ks ρ m=hU AP Fin (⟨g.c,g.t,g.b,qs f.c f.b f.ws++(f.t,.v (.bool f.c))::g.ws⟩::fs) l ks ρ m:=by
 simp only[okF,dB,sY,r5]at h
 have aD:(f.t==g.t)=false:=by simpa using h.1.2
 have hu:=LP (t:=f.t) (ws:=g.ws) (ρ:=je fs ρ) h.1.1
 have hp:put f.t AV.undef (eN (gE g.ws) (je fs ρ))=eN (gE g.ws) (je fs ρ):=RT hu
 unfold hU
 congr 2
 simp only[je,jI,atY,arZ,gE,eN,abV,hp]
 cases h1:jI fs with
 |false=>simp only[kn,gR]
 | true =>
  simp only[ia,fH]
  cases h2:g.c==g.b with
  |false=>
   simp only[gR]
   exact(Cr (ws:=gE f.ws) (by rw[Ke];exact hv)).symm
  | true =>
   simp only[fH,Rr]
   cases h3:f.c==f.b with
   |true=>
    simp only[fH]
    have e:f.c=f.b:=by simpa using h3
    rw[e,←Cr (ws:=f.ws) hv,Hh aD,Cr (ws:=f.ws) hw]
   |false=>
    simp only[gR]
    have e:f.c=!f.b:=by cases hc:f.c<;>cases hb:f.b<;>simp_all
    rw[e,←Cr (ws:=gE f.ws) (by rw[Ke];exact hv),Hh aD,Cr (ws:=gE f.ws) (by rw[Ke];exact hw)]
theorem Xc {f:GF} (l:List bC):hU AP Fin [f] l ks ρ m=dH AP Fin l ks ⟨put f.t (.v (.bool f.c)) (eN (qs f.c f.b f.ws) ρ),m⟩:=by
 unfold hU
 congr 2
 simp only[je,jI,fH,Rr]
 cases hc:f.c<;>cases hb:f.b<;>rfl
theorem ahx {f:GF} {fs:List GF} {c:Bool} {t:Nat} {b:Bool} (l:List bC) (ht:fj t f.ws=true) (aD:decide (t=f.t)=false) (hc:lookW t f.ws=.v (.bool c)):
  hU AP Fin (f::fs) l ks ρ m=hU AP Fin (⟨c,t,b,[]⟩::f::fs) l ks ρ m:=by
 have aD:t≠f.t:=by simpa using aD
 unfold hU
 congr 2
 simp only[je.eq_2 ρ ⟨c,t,b,[]⟩,eN,gE]
 cases ha:jI (f::fs)with
 |false=>rfl
 | true =>
  have hv:je (f::fs) ρ t=.v (.bool c):=by
   rw[H9 ha]
   simp only[l8,put]
   rw[aq aD,Zw ht,hc]
  simp only[fH]
  cases hb:c==b with
  |true=>have e:c=b:=(by simpa using hb);subst e;exact(RT hv).symm
  |false=>have e:c=!b:=(by cases c<;>cases b<;>simp_all);subst e;exact(RT hv).symm
noncomputable def tG (AP:FuncId→Option aJ) (Fin:cM→St→Option (AV×ae)) (fs:List GF) (l:List bC) (ks:List K) (ρ:Nat→AV) (m:ae):Option (AV×ae):=
 match fs with
 |f::g::r=>hU AP Fin (⟨g.c,g.t,g.b,qs f.c f.b f.ws++(f.t,.v (.bool f.c))::g.ws⟩::r) l ks ρ m
 |[f]=>dH AP Fin l ks ⟨put f.t (.v (.bool f.c)) (eN (qs f.c f.b f.ws) ρ),m⟩
 |[]=>dH AP Fin l ks ⟨ρ,m⟩
def oM:List GF→Bool
 |f::g::_=>!fj f.t f.ws&&!fj g.t f.ws
 |_=>true
theorem BB {fs:List GF} (l:List bC) (h:(okF fs&&oM fs)=true):hU AP Fin fs l ks ρ m=tG AP Fin fs l ks ρ m:=by
 rw[dB]at h
 match fs with
 |[]=>rfl
 |[f]=>exact Xc l
 |f::g::r=>
  have hp:=h.2
  simp only[oM,dB,sY]at hp
  exact ahw l h.1 hp.1 hp.2
theorem ahr {c:Bool} {t:Nat} {b:Bool} {ws:List (Nat×AV)} {fs:List GF} {d t':Nat} {b':Bool} {op:ck} (h:(okF (⟨c,t,b,ws⟩::fs)&&oM (⟨c,t,b,ws⟩::fs))=true):
  hU AP Fin (⟨c,t,b,ws⟩::fs) (⟨some d,some (t',b'),op⟩::rest) ks ρ m=
   if t'=t∧b'=b then qS AP Fin ⟨c,t,b,ws⟩ fs d rest ks ρ m (aN (au AP) (aE (l8 (⟨c,t,b,ws⟩::fs) ρ)) m op)
   else if t'≠t∧fj t' ws=true then lU (lookW t' ws) (fun c'=>hU AP Fin (⟨c',t',b',[]⟩::⟨c,t,b,ws⟩::fs) (⟨some d,some (t',b'),op⟩::rest) ks ρ m) (tG AP Fin (⟨c,t,b,ws⟩::fs) (⟨some d,some (t',b'),op⟩::rest) ks ρ m)
   else tG AP Fin (⟨c,t,b,ws⟩::fs) (⟨some d,some (t',b'),op⟩::rest) ks ρ m:=by
 by_cases h1:t'=t∧b'=b
 ·rw[ak h1]
  obtain⟨rfl,rfl⟩:=h1
  exact Xe (f:=⟨c,t',b',ws⟩) (by rw[dB]at h;exact h.1)
 ·rw[aq h1]
  by_cases h2:t'≠t∧fj t' ws=true
  ·rw[ak h2]
   unfold lU
   split
   ·rename_i c' hc
    exact ahx _ h2.2 (by simpa using h2.1) hc
   ·exact BB _ h
  ·rw[aq h2]
   exact BB _ h
theorem ahs {c:Bool} {t:Nat} {b:Bool} {ws:List (Nat×AV)} {fs:List GF} {d t':Nat} {b':Bool} {op:ck} (h:(okF (⟨c,t,b,ws⟩::fs)&&oM (⟨c,t,b,ws⟩::fs))=true):
  hU AP Fin (⟨c,t,b,ws⟩::fs) (⟨some d,some (t',b'),op⟩::rest) ks ρ m=
   if t'=t∧b'=b then qS AP Fin ⟨c,t,b,ws⟩ fs d rest ks ρ m (aN (au AP) (aE (l8 (⟨c,t,b,ws⟩::fs) ρ)) m op)
   else if t'=t then tG AP Fin (⟨c,t,b,ws⟩::fs) (⟨some d,some (t',b'),op⟩::rest) ks ρ m
   else cond (fj t' ws) (lU (lookW t' ws) (fun c'=>hU AP Fin (⟨c',t',b',[]⟩::⟨c,t,b,ws⟩::fs) (⟨some d,some (t',b'),op⟩::rest) ks ρ m) (tG AP Fin (⟨c,t,b,ws⟩::fs) (⟨some d,some (t',b'),op⟩::rest) ks ρ m))
    (tG AP Fin (⟨c,t,b,ws⟩::fs) (⟨some d,some (t',b'),op⟩::rest) ks ρ m):=by
 rw[ahr h]
 by_cases h1:t'=t∧b'=b
 ·rw[ak h1,ak h1]
 ·rw[aq h1,aq h1]
  by_cases h2:t'=t
  ·rw[ak h2,aq (fun e=>e.1 h2)]
  ·rw[aq h2]
   cases h3:fj t' ws
   ·simp[h2]
   ·simp[h2]
theorem ahp {f:GF} {fs:List GF} {d:Nat} {r r':Option (AV×ae)} (h:(f.c==f.b)=false):qS AP Fin f fs d rest ks ρ m r=qS AP Fin f fs d rest ks ρ m r':=by
 unfold qS
 have:jI (f::fs)=false:=by simp only[jI,h,nq]
 rw[this];rfl
theorem Xd {f:GF} {fs:List GF} {d t':Nat} {b':Bool} {op:ck} (h:(okF (f::fs)&&oM (f::fs))=true) (hd:decide (d=f.t)=false) (ho:(f.c==f.b)=false):
  hU AP Fin (f::fs) (⟨some d,some (t',b'),op⟩::rest) ks ρ m=
   if t'=f.t∧b'=f.b then hU AP Fin (⟨f.c,f.t,f.b,(d,AV.undef)::f.ws⟩::fs) rest ks ρ m else tG AP Fin (f::fs) (⟨some d,some (t',b'),op⟩::rest) ks ρ m:=by
 by_cases h1:t'=f.t∧b'=f.b
 ·rw[ak h1]
  obtain⟨rfl,rfl⟩:=h1
  rw[Xe (by rw[dB]at h;exact h.1),ahp ho (r':=some (AV.undef,m)),Xb hd]
 ·rw[aq h1]
  exact BB _ h
theorem ahv {t:Nat} {ws:List (Nat×AV)} {fs:List GF} {d t':Nat} {b':Bool} {op:ck} (h:(okF (⟨false,t,true,ws⟩::fs)&&oM (⟨false,t,true,ws⟩::fs))=true) (hd:decide (d=t)=false):
  hU AP Fin (⟨false,t,true,ws⟩::fs) (⟨some d,some (t',b'),op⟩::rest) ks ρ m=
   if t'=t∧b'=true then hU AP Fin (⟨false,t,true,(d,AV.undef)::ws⟩::fs) rest ks ρ m else tG AP Fin (⟨false,t,true,ws⟩::fs) (⟨some d,some (t',b'),op⟩::rest) ks ρ m:=Xd (f:=⟨false,t,true,ws⟩) h hd rfl
theorem ahu {t:Nat} {ws:List (Nat×AV)} {fs:List GF} {d t':Nat} {b':Bool} {op:ck} (h:(okF (⟨true,t,false,ws⟩::fs)&&oM (⟨true,t,false,ws⟩::fs))=true) (hd:decide (d=t)=false):
  hU AP Fin (⟨true,t,false,ws⟩::fs) (⟨some d,some (t',b'),op⟩::rest) ks ρ m=
   if t'=t∧b'=false then hU AP Fin (⟨true,t,false,(d,AV.undef)::ws⟩::fs) rest ks ρ m else tG AP Fin (⟨true,t,false,ws⟩::fs) (⟨some d,some (t',b'),op⟩::rest) ks ρ m:=Xd (f:=⟨true,t,false,ws⟩) h hd rfl
theorem aiR {t:Nat}:fj t []=false:=rfl
theorem aiQ {t d:Nat} {x:AV} {ws:List (Nat×AV)}:fj t ((d,x)::ws)=if t=d then true else fj t ws:=by
 rw[fj.eq_2];by_cases h:t=d<;>simp[h]
theorem apa {t d:Nat} {x:AV} {ws:List (Nat×AV)}:lookW t ((d,x)::ws)=if t=d then x else lookW t ws:=.trans rfl rfl
theorem apX {f:GF}:okF [f]=true:=rfl
theorem apY {c c':Bool} {t t':Nat} {b b':Bool} {ws vX:List (Nat×AV)} {fs:List GF}:okF (⟨c,t,b,ws⟩::⟨c',t',b',vX⟩::fs)=cond (fj t vX) (if t=t' then false else okF (⟨c',t',b',vX⟩::fs)) false:=by
 rw[okF.eq_3];simp only;cases fj t vX<;>by_cases h:t=t'<;>simp[h]
theorem apZ {f:GF}:oM [f]=true:=rfl
theorem ap0 {c c':Bool} {t t':Nat} {b b':Bool} {ws vX:List (Nat×AV)} {fs:List GF}:oM (⟨c,t,b,ws⟩::⟨c',t',b',vX⟩::fs)=cond (fj t ws) false (cond (fj t' ws) false true):=by
 show(!fj t ws&&!fj t' ws)=_;cases fj t ws<;>cases fj t' ws<;>rfl
theorem acN:l8 [] ρ=ρ:=rfl
theorem acM {c:Bool} {t:Nat} {b:Bool} {ws:List (Nat×AV)} {fs:List GF}:l8 (⟨c,t,b,ws⟩::fs) ρ=put t (.v (.bool b)) (eN ws (l8 fs ρ)):=rfl
theorem aht {c:Bool} {t:Nat} {b:Bool} {ws:List (Nat×AV)} {t':Nat} {b':Bool} {op:ck}:hU AP Fin [⟨c,t,b,ws⟩] (⟨none,some (t',b'),op⟩::rest) ks ρ m=
  cond (c==b) (dH AP Fin (⟨none,some (t',b'),op⟩::rest) ks ⟨put t (.v (.bool b)) (eN ws ρ),m⟩) (dH AP Fin (⟨none,some (t',b'),op⟩::rest) ks ⟨put t (.v (.bool !b)) (eN (gE ws) ρ),m⟩):=by
 unfold hU
 simp only[je,jI,fH]
 cases c==b<;>rfl
theorem ahq {c:Bool} {t:Nat} {b:Bool} {ws:List (Nat×AV)} {d:Nat} {x:AV} {m':ae}:qS AP Fin ⟨c,t,b,ws⟩ [] d rest ks ρ m (some (x,m'))=cond (c==b) (dH AP Fin rest ks ⟨put d x (put t (.v (.bool b)) (eN ws ρ)),m'⟩) (dH AP Fin rest ks ⟨put d AV.undef (put t (.v (.bool !b)) (eN (gE ws) ρ)),m⟩):=by
 unfold qS
 simp only[jI,ia,je,l8,fH]
 cases c==b<;>rfl
theorem afN {c:Bool} {d t:Nat} {b:Bool} {op:ck}:u0 AP Fin c t b d op rest ks ρ m=hU AP Fin [⟨c,t,b,[]⟩] (⟨some d,some (t,b),op⟩::rest) ks ρ m:=by
 unfold u0
 rw[Xc]
 simp only[qs,eN]
 rw[Xg]
 have e:put t (.v (.bool c)) ρ t=.v (.bool c):=by simp[put]
 rw[e,Lc]
 unfold u0
 cases c<;>cases b<;>simp[arW]
section
variable{c:Bool} {t:Nat} {b:Bool} {ws:List (Nat×AV)} {fs:List GF} {d t':Nat} {b':Bool} {op:ck}
noncomputable def nD (AP:FuncId→Option aJ) (Fin:cM→St→Option (AV×ae)) (c:Bool) (t:Nat) (b:Bool) (ws:List (Nat×AV)) (fs:List GF) (l:List bC) (ks:List K) (ρ:Nat→AV) (m:ae):Option (AV×ae):=hU AP Fin (⟨c,t,b,ws⟩::fs) l ks ρ m
noncomputable def FL (AP:FuncId→Option aJ) (Fin:cM→St→Option (AV×ae)) (c:Bool) (t:Nat) (b:Bool) (ws:List (Nat×AV)) (fs:List GF) (d:Nat) (l:List bC) (ks:List K) (ρ:Nat→AV) (m:ae) (r:Option (AV×ae)):Option (AV×ae):=qS AP Fin ⟨c,t,b,ws⟩ fs d l ks ρ m r
noncomputable def p6 (AP:FuncId→Option aJ) (Fin:cM→St→Option (AV×ae)) (c:Bool) (t:Nat) (b:Bool) (ws:List (Nat×AV)) (fs:List GF) (l:List bC) (ks:List K) (ρ:Nat→AV) (m:ae):Option (AV×ae):=tG AP Fin (⟨c,t,b,ws⟩::fs) l ks ρ m
theorem ahE {c':Bool} {l:List bC} (h:c=c'):nD AP Fin c t b ws fs l ks ρ m=nD AP Fin c' t b ws fs l ks ρ m:=by rw[h]
theorem ahB {r r':Option (AV×ae)} (h:r=r'):FL AP Fin c t b ws fs d rest ks ρ m r=FL AP Fin c t b ws fs d rest ks ρ m r':=by rw[h]
theorem ahA {l:List bC}:p6 AP Fin c t b ws fs l ks ρ m=p6 AP Fin c t b ws fs l ks ρ m:=rfl
theorem afO:u0 AP Fin c t b d op rest ks ρ m=nD AP Fin c t b [] [] (⟨some d,some (t,b),op⟩::rest) ks ρ m:=afN
noncomputable def Hg (AP:FuncId→Option aJ) (Fin:cM→St→Option (AV×ae)) (x:AV) (t':Nat) (b':Bool) (c:Bool) (t:Nat) (b:Bool) (ws:List (Nat×AV)) (fs:List GF) (l:List bC) (ks:List K) (ρ:Nat→AV) (m:ae):Option (AV×ae):=
 lU x (fun c'=>nD AP Fin c' t' b' [] (⟨c,t,b,ws⟩::fs) l ks ρ m) (p6 AP Fin c t b ws fs l ks ρ m)
theorem arS {c':Bool} {l:List bC}:Hg AP Fin (.v (.bool c')) t' b' c t b ws fs l ks ρ m=nD AP Fin c' t' b' [] (⟨c,t,b,ws⟩::fs) l ks ρ m:=rfl
theorem arT {l:List bC}:Hg AP Fin AV.undef t' b' c t b ws fs l ks ρ m=p6 AP Fin c t b ws fs l ks ρ m:=rfl
theorem arR {x x':AV} {l:List bC} (h:x=x'):Hg AP Fin x t' b' c t b ws fs l ks ρ m=Hg AP Fin x' t' b' c t b ws fs l ks ρ m:=by rw[h]
theorem ahF (h:(okF (⟨c,t,b,ws⟩::fs)&&oM (⟨c,t,b,ws⟩::fs))=true):
  nD AP Fin c t b ws fs (⟨some d,some (t',b'),op⟩::rest) ks ρ m=
   if t'=t∧b'=b then FL AP Fin c t b ws fs d rest ks ρ m (aN (au AP) (aE (l8 (⟨c,t,b,ws⟩::fs) ρ)) m op)
   else if t'=t then p6 AP Fin c t b ws fs (⟨some d,some (t',b'),op⟩::rest) ks ρ m
   else if fj t' ws=true then Hg AP Fin (lookW t' ws) t' b' c t b ws fs (⟨some d,some (t',b'),op⟩::rest) ks ρ m
   else p6 AP Fin c t b ws fs (⟨some d,some (t',b'),op⟩::rest) ks ρ m:=by
 refine(ahs h).trans ?_
 by_cases h1:t'=t∧b'=b
 ·rw[ak h1,ak h1];rfl
 ·rw[aq h1,aq h1]
  by_cases h2:t'=t
  ·rw[ak h2,ak h2];rfl
  ·rw[aq h2,aq h2]
   cases h3:fj t' ws
   ·rw[aq (by simp)];rfl
   ·rw[ak rfl];rfl
theorem ahL (h:(okF (⟨false,t,true,ws⟩::fs)&&oM (⟨false,t,true,ws⟩::fs))=true) (hd:decide (d=t)=false):
  nD AP Fin false t true ws fs (⟨some d,some (t',b'),op⟩::rest) ks ρ m=
   if t'=t∧b'=true then nD AP Fin false t true ((d,AV.undef)::ws) fs rest ks ρ m else p6 AP Fin false t true ws fs (⟨some d,some (t',b'),op⟩::rest) ks ρ m:=ahv h hd
theorem ahK (h:(okF (⟨true,t,false,ws⟩::fs)&&oM (⟨true,t,false,ws⟩::fs))=true) (hd:decide (d=t)=false):
  nD AP Fin true t false ws fs (⟨some d,some (t',b'),op⟩::rest) ks ρ m=
   if t'=t∧b'=false then nD AP Fin true t false ((d,AV.undef)::ws) fs rest ks ρ m else p6 AP Fin true t false ws fs (⟨some d,some (t',b'),op⟩::rest) ks ρ m:=ahu h hd
theorem ahJ {d:Option Nat} (h:(okF (⟨c,t,b,ws⟩::fs)&&oM (⟨c,t,b,ws⟩::fs))=true):nD AP Fin c t b ws fs (⟨d,none,op⟩::rest) ks ρ m=p6 AP Fin c t b ws fs (⟨d,none,op⟩::rest) ks ρ m:=BB _ h
theorem ahH {g:GF} (h:(okF (⟨c,t,b,ws⟩::g::fs)&&oM (⟨c,t,b,ws⟩::g::fs))=true):nD AP Fin c t b ws (g::fs) (⟨none,some (t',b'),op⟩::rest) ks ρ m=p6 AP Fin c t b ws (g::fs) (⟨none,some (t',b'),op⟩::rest) ks ρ m:=BB _ h
theorem ahI:nD AP Fin c t b ws [] (⟨none,some (t',b'),op⟩::rest) ks ρ m=
  cond (c==b) (dH AP Fin (⟨none,some (t',b'),op⟩::rest) ks ⟨put t (.v (.bool b)) (eN ws ρ),m⟩) (dH AP Fin (⟨none,some (t',b'),op⟩::rest) ks ⟨put t (.v (.bool !b)) (eN (gE ws) ρ),m⟩):=aht
theorem ahG (h:(okF (⟨c,t,b,ws⟩::fs)&&oM (⟨c,t,b,ws⟩::fs))=true):nD AP Fin c t b ws fs [] ks ρ m=p6 AP Fin c t b ws fs [] ks ρ m:=BB _ h
theorem ahy {l:List bC}:p6 AP Fin c t b ws [] l ks ρ m=dH AP Fin l ks ⟨put t (.v (.bool c)) (eN (qs c b ws) ρ),m⟩:=rfl
theorem ahz {c':Bool} {vX:List (Nat×AV)} {l:List bC}:p6 AP Fin c t b ws (⟨c',t',b',vX⟩::fs) l ks ρ m=nD AP Fin c' t' b' (qs c b ws++(t,.v (.bool c))::vX) fs l ks ρ m:=rfl
theorem ahD {x:AV} (h:(decide (d=t))=false):FL AP Fin c t b ws fs d rest ks ρ m (some (x,m))=nD AP Fin c t b ((d,x)::ws) fs rest ks ρ m:=Xb h
theorem ahC {x:AV} {m':ae}:FL AP Fin c t b ws [] d rest ks ρ m (some (x,m'))=cond (c==b) (dH AP Fin rest ks ⟨put d x (put t (.v (.bool b)) (eN ws ρ)),m'⟩) (dH AP Fin rest ks ⟨put d AV.undef (put t (.v (.bool !b)) (eN (gE ws) ρ)),m⟩):=ahq
end
theorem ahU {t:Nat} {x:AV} {m':ae}:qT AP Fin (some t) rest ks ρ (some (x,m'))=dH AP Fin rest ks ⟨put t x ρ,m'⟩:=rfl
theorem ahS {x:AV} {m':ae}:qT AP Fin none rest ks ρ (some (x,m'))=dH AP Fin rest ks ⟨ρ,m'⟩:=rfl
theorem ahT {d:Option Nat}:qT AP Fin d rest ks ρ none=none:=rfl
theorem ahQ {d:Option Nat} {c:Bool} {x y:Option (AV×ae)}:qT AP Fin d rest ks ρ (cond c x y)=cond c (qT AP Fin d rest ks ρ x) (qT AP Fin d rest ks ρ y):=by cases c<;>rfl
theorem ahR {d:Option Nat} {r r':Option (AV×ae)} (h:r=r'):qT AP Fin d rest ks ρ r=qT AP Fin d rest ks ρ r':=by rw[h]
theorem ahM:dH AP Fin rest ks st=dH AP Fin rest ks st:=rfl
theorem go_congr:go AP Fin ks st=go AP Fin ks st:=rfl
theorem aM {f:FuncId} {np nt:Nat} {b:aw} {rs:List iF} {own:Bool} (hf:AP f=some (.code np nt b rs own)) {as:List AV} {s:ae} (hl:as.length=np):
  au AP (.fn f) as s=go AP (aY rs own) [.c b] ⟨jQ as,s.push ⟨[],[]⟩⟩:=by
 rw[aeo hf,ak hl]
 simp only[go,jg]
 cases h:fM AP b ⟨jQ as,s.push ⟨[],[]⟩⟩with
 |none=>rfl
 |some p=>obtain⟨e,aQ⟩:=p;cases e<;>rfl
end
section
variable{ρ:Nat→AV} {m:ae} {s:ae} {call:aZ}
theorem af9 {t:Nat}:aE ρ (.tmp t)=ρ t:=.trans rfl rfl
theorem af8 {x:AV}:aE ρ (.const x)=x:=.trans rfl rfl
theorem arV {t u:Nat} {x:AV}:put t x ρ u=if u=t then x else ρ u:=.trans rfl rfl
theorem adv {x:AV} {r:List AV}:jQ (x::r) 0=x:=.trans rfl rfl
theorem adw {x:AV} {r:List AV} {n:Nat}:jQ (x::r) (n+1)=jQ r n:=.trans rfl rfl
theorem aqJ {x:aF}:aN call (aE ρ) m (.move x)=some (aE ρ x,m):=.trans rfl rfl
theorem aqL {c a b:aF}:aN call (aE ρ) m (.pick c a b)=(He (aE ρ c) (aE ρ a) (aE ρ b)).map (·,m):=.trans rfl rfl
theorem ap7 {z:AV} {zs:List AV}:aN call (aE ρ) m (.alloc (z::zs))=some (m.dK (z::zs)):=.trans rfl rfl
theorem aqN {n:Nat}:aN call (aE ρ) m (.l3 n)=some (AV.undef,m.l3 n):=.trans rfl rfl
theorem Le {q:Nat} {g:Bool} {n:Nat} {x:aF}:aN call (aE ρ) m (.gm q g n x)=(xO m q g n (aE ρ x)).map (·,m):=.trans rfl rfl
theorem RA {q n:Nat} {x y:aF}:aN call (aE ρ) m (.fill q n x y)=(yV m q n (aE ρ x) (aE ρ y)).map (AV.undef,·):=.trans rfl rfl
theorem RD {b:Nat} {zs:List AV}:aN call (aE ρ) m (.slot b zs)=mK m b zs:=.trans rfl rfl
theorem aqd {n:Nat} {x:aF}:aN call (aE ρ) m (.box n x)=yD m n (aE ρ x):=.trans rfl rfl
theorem aqe {zs:List AV} {ps:List (Nat×Nat×aF)}:aN call (aE ρ) m (.build zs ps)=(nz zs (aE ρ) ps).map fun cs=>(.agg cs,m):=.trans rfl rfl
theorem aqg {es:Nat} {rows:List (List AV)} {ps:List (Nat×aF)}:aN call (aE ρ) m (.buildSlice es rows ps)=(mO rows (aE ρ) ps).map fun rs=>(.slice .full es rs,m):=.trans rfl rfl
theorem RB {g:Bool} {n:Nat} {x:aF}:aN call (aE ρ) m (.load g n x)=(m.load g n (aE ρ x)).map (·,m):=.trans rfl rfl
theorem aqS {n:Nat} {x y:aF}:aN call (aE ρ) m (.store n x y)=(m.store n (aE ρ x) (aE ρ y)).map (AV.undef,·):=.trans rfl rfl
theorem aqK {x:aF}:aN call (aE ρ) m (.nilCheck x)=(zU (aE ρ x)).map (·,m):=.trans rfl rfl
theorem aqc {op:BinOp} {x y:aF}:aN call (aE ρ) m (.arith op x y)=(dR op (aE ρ x) (aE ρ y)).map (·,m):=.trans rfl rfl
theorem aqs {neg:Bool} {k:HC} {x y:aF}:aN call (aE ρ) m (.eqv neg k x y)=(pX k (aE ρ x) (aE ρ y)).map fun t=>(.v (.bool (if neg then !t else t)),m):=.trans rfl rfl
theorem aqT {op:UnOp} {x:aF}:aN call (aE ρ) m (.un op x)=(unOp op (aE ρ x)).map (·,m):=.trans rfl rfl
theorem aqq {k:HB} {x:aF}:aN call (aE ρ) m (.conv k x)=(mP k (aE ρ x)).map (·,m):=.trans rfl rfl
theorem aqG {t:TypeId} {x:aF}:aN call (aE ρ) m (.K5 t x)=(KP t (aE ρ x)).map (·,m):=.trans rfl rfl
theorem aqF {f:FuncId} {first caps:List aF}:aN call (aE ρ) m (.oL f first caps)=if(first.map (aE ρ)).all AV.vI then some (.fn f (first.map (aE ρ)) (caps.map (aE ρ)),m)else none:=.trans rfl rfl
theorem aqI {es:Nat} {zs:List AV} {len cap:aF}:aN call (aE ρ) m (.Cm es zs len cap)=G9 m es zs (aE ρ len) (aE ρ cap):=.trans rfl rfl
theorem aqH {es:Nat} {zs:List AV} {len cap:aF}:aN call (aE ρ) m (.mkSlice es zs len cap)=Cl m es zs (aE ρ len) (aE ρ cap):=.trans rfl rfl
theorem aqP {k:CX} {x:aF} {lo hi mx:Option aF}:aN call (aE ρ) m (.slice k x lo hi mx)=(gD k (aE ρ x) (qO (aE ρ) lo) (qO (aE ρ) hi) (qO (aE ρ) mx)).map (·,m):=.trans rfl rfl
theorem aqw {off:Nat} {x:aF}:aN call (aE ρ) m (.fieldAddr off x)=(Cq off (aE ρ x)).map (·,m):=.trans rfl rfl
theorem aqz {arr:Option Nat} {es:Nat} {x i:aF}:aN call (aE ρ) m (.indexAddr arr es x i)=(kH arr es (aE ρ x) (aE ρ i)).map (·,m):=.trans rfl rfl
theorem aqA {x i:aF}:aN call (aE ρ) m (.GS x i)=(Ca (aE ρ x) (aE ρ i)).map (·,m):=.trans rfl rfl
theorem aqy {n es:Nat} {g:Bool} {x i:aF}:aN call (aE ρ) m (.index n es g x i)=(GR n es g (aE ρ x) (aE ρ i)).map (·,m):=.trans rfl rfl
theorem aqv {g:Bool} {n off:Nat} {x:aF}:aN call (aE ρ) m (.field g n off x)=(FF g n off (aE ρ x)).map (·,m):=.trans rfl rfl
theorem aqt {i:Nat} {x:aF}:aN call (aE ρ) m (.extract i x)=(yT i (aE ρ x)).map (·,m):=.trans rfl rfl
theorem aqh {ro:Bool} {f:FuncId} {as:List aF}:aN call (aE ρ) m (.call ro f as)=dN call ro m (.fn f) (as.map (aE ρ)):=.trans rfl rfl
theorem aqu {ro:Bool} {zs:List (List AV)} {f:FuncId} {as:List aF}:aN call (aE ρ) m (.r8 ro zs f as)=nB call ro m zs (.fn f) (as.map (aE ρ)):=.trans rfl rfl
theorem aqj {f:FuncId} {as:List aF}:aN call (aE ρ) m (.wQ f as)=dN call false m (.inl f) (as.map (aE ρ)):=.trans rfl rfl
theorem aqk {f:FuncId} {as:List aF}:aN call (aE ρ) m (.wR f as)=dN call true m (.nat f) (as.map (aE ρ)):=.trans rfl rfl
theorem aql {f:FuncId} {as:List aF}:aN call (aE ρ) m (.tz f as)=nA call m f (as.map (aE ρ)):=.trans rfl rfl
theorem aqn {ro:Bool} {x:aF} {as:List aF}:aN call (aE ρ) m (.kB ro x as)=mc call ro m (aE ρ x) (as.map (aE ρ)):=.trans rfl rfl
theorem RC {agg:Bool} {n:Nat} {x:aF}:aN call (aE ρ) m (.jY agg n x)=(zM m agg n (aE ρ x)).map (·,m):=.trans rfl rfl
theorem ap9 {es:Nat} {x y:aF}:aN call (aE ρ) m (.wz es x y)=yo m es (aE ρ x) (aE ρ y):=.trans rfl rfl
theorem aqb {es:Nat} {x y:aF}:aN call (aE ρ) m (.wA es x y)=wB m es (aE ρ x) (aE ρ y):=.trans rfl rfl
theorem aqr {x y:aF}:aN call (aE ρ) m (.copy x y)=Bo m (aE ρ x) (aE ρ y):=.trans rfl rfl
theorem aqf {es:Nat} {row:List AV} {t:Nat}:aN call (aE ρ) m (.yE es row t)=yF m es row (ρ t):=.trans rfl rfl
theorem ap8 {es:Nat} {x y:aF}:aN call (aE ρ) m (.append es x y)=eI m es (aE ρ x) (aE ρ y):=.trans rfl rfl
theorem aqB {b:Bool} {x:aF}:aN call (aE ρ) m (.len b x)=(ld b (aE ρ x)).map (·,m):=.trans rfl rfl
theorem aqC {n:Nat}:aN call (aE ρ) m (.Cf n)=some (.v (.int .i64 n),m):=.trans rfl rfl
theorem aqE {mx:Bool} {xs:List aF}:aN call (aE ρ) m (.G8 mx xs)=(sO mx (xs.map (aE ρ))).map (·,m):=.trans rfl rfl
theorem afF {t:Target} {as:List AV}:dN call false m t as=call t as m:=.trans rfl rfl
def dt (m:ae):ae:={m with ro:=m.ag.length,bt:=m.loops.length}
theorem zW:Ok (dt m):=⟨aH _,aH _⟩
theorem afG {t:Target} {as:List AV}:dN call true m t as=(call t as (dt m)).map fun p=>(p.1,m):=.trans rfl rfl
theorem aeK {f:FuncId} {a b as:List AV} {ro:Bool}:mc call ro m (.fn f a b) as=dN call ro m (.fn f) (a++as++b):=.trans rfl rfl
theorem aeL {l:Nat} {as:List AV} {ro:Bool}:mc call ro m (.yield l) as=dN call ro m (.yield l) as:=.trans rfl rfl
theorem ark {c:Bool} {a b:AV}:He (.v (.bool c)) a b=some (cond c a b):=by cases c<;>rfl
theorem apH {r:Rec} {cs:List AV}:(s.push r).dK cs=(.ptr s.ag.length r.boxes.length 0,s.push ⟨r.boxes++[cs],r.toks⟩):=by
 rw[ae.dK,fP,xS,C2]
def kT:Nat→List AV→Bool
 |0,[]=>true
 |n+1,x::r=>x.bA&&kT n r
 |_,_=>false
theorem qQ:∀{n:Nat} {l:List AV},kT n l=true↔l.length=n∧l.all AV.bA=true
 |0,[]=>by simp[kT]
 |0,_::_=>by simp[kT]
 |n+1,[]=>by simp[kT]
 |n+1,x::r=>by simp only[kT,dB,qQ (n:=n) (l:=r),eo,vZ];constructor<;>(rintro⟨h1,h2,h3⟩;exact⟨by omega,by simp_all⟩)
theorem ad2 {n:Nat} {y:AV}:yD m (n+1) y=cond (kT (n+1) y.cells) (some (m.dK y.cells)) none:=by
 unfold yD
 cases h:kT (n+1) y.cells with
 |true=>rw[ak ⟨(qQ.1 h).1,(qQ.1 h).2,Nat.succ_pos n⟩];rfl
 |false=>rw[aq (fun e=>by rw[qQ.2 ⟨e.1,e.2.1⟩]at h;cases h)];rfl
theorem ass {r:Rec} {n:Nat}:(s.push r).l3 n=s.push ⟨r.boxes++List.replicate n [],r.toks⟩:=by
 rw[ae.l3,fP,zX]
def LH (bs:List (List AV)) (tk:List (Option Nat)) (back:Nat) (zs:List AV):Option (Nat×List (List AV)):=
 if tk.any Option.isNone then none else
 match bs[bs.length-back]? with
 |some []=>if zs.isEmpty then none else some (bs.length-back,bs.set (bs.length-back) zs)
 |_=>none
theorem apP (s:ae) (r:Rec):(s.push r).lS s.ag.length=r.toks.any Option.isNone:=by simp[ae.push,ae.lS]
theorem atv {r:Rec} {back:Nat} {zs:List AV}:mK (s.push r) back zs=(LH r.boxes r.toks back zs).map fun p=>(.ptr s.ag.length p.1 0,s.push ⟨p.2,r.toks⟩):=by
 obtain⟨bs,tk⟩:=r
 unfold mK LH
 simp only[fP,xS,iK,Sn,apP]
 cases hq:tk.any Option.isNone with
 | false =>
  simp only[ez,zZ,db]
  split
  ·rename_i h;rw[h];simp only;split<;>rfl
  ·rename_i h
   split
   ·rename_i h';exact absurd h' (by simpa using h)
   ·rfl
 |true=>
  simp only[Lf,bP]
  split<;>rfl
theorem ao6 {g:Bool} {n d b off:Nat}:m.load g n (.ptr d b off)=(m.box d b).bind fun cs=>part g n cs off:=by
 simp only[ae.load,ae.row]
 cases m.box d b<;>rfl
theorem fO {d b:Nat} {cs:List AV} (h:m.box d b=some cs) (r:Rec):(m.push r).box d b=some cs:=by
 simp only[ae.box,ae.push]at h⊢
 rw[dM]
 ·exact h
 ·apply n6
  intro hn
  rw[n8 (by omega)]at h
  cases h
theorem ao7 {g:Bool} {n off:Nat} {cs:List AV}:m.load g n (.bg cs off)=part g n cs off:=rfl
theorem aq6 {n off:Nat} {cs:List AV}:part false n cs off=cs[off]? :=rfl
def qM:Nat→Nat→List AV→Option (List AV)
 |0,0,_=>some []
 |0,n+1,x::r=>(qM 0 n r).map (x::·)
 |off+1,n,_::r=>qM off n r
 |_,_,[]=>none
theorem JH:∀(off n:Nat) (cs:List AV),qM off n cs=if off+n≤cs.length then some ((cs.drop off).take n)else none
 |0,0,_=>by simp[qM]
 |0,n+1,[]=>by simp[qM]
 |0,n+1,x::r=>by
  have:=JH 0 n r
  simp only[qM,this,ko,eo,Mh,fN]
  by_cases h:n≤r.length
  ·rw[ak h,ak (by omega)];rfl
  ·rw[aq h,aq (by omega)];rfl
 |off+1,n,[]=>by simp[qM]
 |off+1,n,x::r=>by
  have:=JH off n r
  simp only[qM,this,eo,S8]
  by_cases h:off+n≤r.length
  ·rw[ak h,ak (by omega)]
  ·rw[aq h,aq (by omega)]
theorem aq9 {n off:Nat} {cs:List AV}:part true n cs off=(qM off n cs).map .agg:=by
 rw[JH];unfold part;by_cases h:off+n≤cs.length<;>simp[h]
def mD:List AV→Nat→List AV→Option (List AV)
 |row,0,[]=>some row
 |_::row,0,c::cs=>(mD row 0 cs).map (c::·)
 |x::row,off+1,cs=>(mD row off cs).map (x::·)
 |[],_,_=>none
theorem So (x:AV):∀(cs:List AV) (row:List AV) (off:Nat),setCells (x::row) (off+1) cs=x::setCells row off cs
 |[],_,_=>rfl
 |c::cs,row,off=>by simp only[setCells,Tm];exact So x cs _ _
theorem vP:∀(row:List AV) (off:Nat) (cs:List AV),mD row off cs=if off+cs.length≤row.length then some (setCells row off cs)else none
 |row,0,[]=>by simp[mD,setCells]
 |[],0,c::cs=>by simp[mD]
 |x::row,0,c::cs=>by
  simp only[mD,vP row 0 cs,setCells,HR,eo,fN]
  by_cases h:cs.length≤row.length
  ·rw[ak h,ak (by omega)];simp[So c cs row 0]
  ·rw[aq h,aq (by omega)];rfl
 |[],off+1,cs=>by simp[mD]
 |x::row,off+1,cs=>by
  simp only[mD,vP row off cs,eo,So]
  by_cases h:off+cs.length≤row.length
  ·rw[ak h,ak (by omega)];rfl
  ·rw[aq h,aq (by omega)];rfl
theorem ro_le {r:Rec} (h:Ok s):(s.push r).ro≤s.ag.length:=h.ro
theorem atG {r:Rec} {n b off:Nat} {y:AV} (h:Ok s):
  (s.push r).store n (.ptr s.ag.length b off) y=cond (kT n y.cells) (((r.boxes[b]?).bind fun row=>mD row off y.cells).map fun row=>s.push ⟨r.boxes.set b row,r.toks⟩) none:=by
 cases hy:kT n y.cells with
 |false=>
  have:¬(y.cells.length=n∧y.cells.all AV.bA=true):=fun e=>by rw[qQ.2 e]at hy;cases hy
  simp only[ae.store,gR]
  rw[aq (fun e=>this e.2)]
 | true =>
  have hy:=qQ.1 hy
  simp only[ae.store,fH]
  rw[ak ⟨ro_le h,hy.1,hy.2⟩,fP,ak rfl]
  simp only[iK]
  cases r.boxes[b]? with
  |none=>rfl
  |some row=>
   simp only[et,vP,hy.1]
   by_cases hq:off+n≤row.length
   ·simp only[ak hq,Sn,dE]
   ·simp only[aq hq,Option.map_none]
theorem agW {cs:List AV} {off size:Nat} {x:AV}:Bu cs off size x=cond (kT size x.cells) (mD cs off x.cells) none:=by
 unfold Bu
 cases h:kT size x.cells with
 |true=>
  have:=qQ.1 h
  rw[fH,vP,this.1]
  by_cases hq:off+size≤cs.length
  ·rw[ak ⟨rfl,hq,this.2⟩,ak hq]
  ·rw[aq (fun e=>hq e.2.1),aq hq]
 |false=>rw[aq (fun e=>by rw[qQ.2 ⟨e.1,e.2.2⟩]at h;cases h)];rfl
theorem ad8 {cs:List AV} {f:aF→AV}:nz cs f []=some cs:=rfl
theorem ad7 {cs:List AV} {f:aF→AV} {off size:Nat} {x:aF} {r:List (Nat×Nat×aF)}:nz cs f ((off,size,x)::r)=(cond (kT size (f x).cells) (mD cs off (f x).cells) none).bind fun cs'=>nz cs' f r:=by
 rw[←agW];simp only[nz];cases Bu cs off size (f x)<;>rfl
theorem aeb {rows:List (List AV)} {f:aF→AV}:mO rows f []=some rows:=rfl
def Hl:List AV→List AV→Bool
 |[],[]=>true
 |_::a,_::b=>Hl a b
 |_,_=>false
theorem abh:∀(a b:List AV),Hl a b=decide (a.length=b.length)
 |[],[]=>rfl
 |[],_::_=>rfl
 |_::_,[]=>rfl
 |_::a,_::b=>by simp[Hl,abh a b]
theorem aea {rows:List (List AV)} {f:aF→AV} {i:Nat} {x:aF} {r:List (Nat×aF)}:mO rows f ((i,x)::r)=(rows[i]?).bind fun row=>(closeAll (f x).cells).bind fun cs=>cond (Hl cs row) (mO (rows.set i cs) f r) none:=by
 simp only[mO,abh]
 cases rows[i]? with
 |none=>rfl
 |some row=>cases closeAll (f x).cells with
  |none=>rfl
  |some cs=>by_cases h:cs.length=row.length<;>simp[h]
theorem oq:closeAll []=some []:=rfl
theorem mf {x:AV} {r:List AV}:closeAll (x::r)=x.close.bind fun y=>(closeAll r).map fun s=>y::s:=by
 simp only[closeAll];cases x.close<;>cases closeAll r<;>rfl
theorem oV {k:IntKind} {n:Int}:AV.close (.v (.int k n))=some (.v (.int k n)):=rfl
theorem ae8 {b:Bool}:AV.close (.v (.bool b))=some (.v (.bool b)):=rfl
theorem Oj {b:ByteArray}:AV.close (.v (.string b))=some (.v (.string b)):=rfl
theorem afb {es:Nat} {xs:List (List AV)}:AV.close (.slice .aA es xs)=some (.slice .aA es xs):=rfl
theorem ae7 {es:Nat} {xs:List (List AV)}:AV.close (.slice .any es xs)=some (.slice .any es xs):=rfl
theorem afa {es:Nat} {xs:List (List AV)}:AV.close (.slice .full es xs)=some (.slice .full es xs):=rfl
theorem afd {d g es:Nat} {xs:List (List AV)}:AV.close (.slice (.tok d g) es xs)=some (.slice .any es xs):=rfl
theorem arQ {off d b o:Nat}:Cq off (.ptr d b o)=some (.ptr d b (o+off)):=rfl
theorem arP {off o:Nat} {cs:List AV}:Cq off (.bg cs o)=some (.bg cs (o+off)):=rfl
end
end Go.Ax.Sx
/-
  The rules to compute with, as one set.
-/
namespace Go.Ax.Sx
attribute [go_sem ↓] fH gR go_skip ah3 go_ret ah0 ah5 go_region ah7 ah1 ahP Xh Xg afS afR afQ afP ahO ahN ahX ahY ahW
attribute [go_sem] ah6 ahZ ah2 ahU ahS ahT ahQ Lc
attribute [go_sem ↓ low] afO
attribute [go_sem high] ahL ahK
attribute [go_sem] arS arT ahF ahJ ahH ahI ahG ahy ahz ahD eN gE qs aiR aiQ apa apX apY apZ ap0 acN acM
attribute [go_sem low] ahC
attribute [congr] arR ahE ahB ahA ap1 ahR ahM go_congr
attribute [go_sem ↓] af9 af8 arV adv adw
attribute [go_sem ↓] aqJ aqL ap7 aqN RD Le RC RA aqd aqe aqg RB aqS aqK aqc aqs aqT aqq aqG aqF aqH aqI aqP aqw aqz aqA aqy aqv aqt aqh aqu aqj aqk aql aqn ap8 aqb ap9 aqr aqf aqB aqC aqE
attribute [go_sem] afG zW Ok.push afF aeK aeL ark apH ass atv ao6 iK ao7 aq6 aq9 atG kT qM mD arQ arP ad2
section
variable{a b:Int} {c d:Bool}
theorem ac8:dR .add (.v (.int .i64 a)) (.v (.int .i64 b))=some (.v (.int .i64 (IntKind.i64.wrap (a+b)))):=rfl
theorem adu:dR .sub (.v (.int .i64 a)) (.v (.int .i64 b))=some (.v (.int .i64 (IntKind.i64.wrap (a-b)))):=rfl
theorem adn:dR .mul (.v (.int .i64 a)) (.v (.int .i64 b))=some (.v (.int .i64 (IntKind.i64.wrap (a*b)))):=rfl
theorem adr (h:(b==0)=false):dR .quo (.v (.int .i64 a)) (.v (.int .i64 b))=some (.v (.int .i64 (IntKind.i64.wrap (a.tdiv b)))):=by
 have:b≠0:=by simpa using h
 simp[dR,qk,sJ,this]
theorem ads (h:(b==0)=false):dR .rem (.v (.int .i64 a)) (.v (.int .i64 b))=some (.v (.int .i64 (a.tmod b))):=by
 have:b≠0:=by simpa using h
 simp[dR,qk,sJ,this]
theorem ac9:dR .eql (.v (.int .i64 a)) (.v (.int .i64 b))=some (.v (.bool (decide (a=b)))):=by
 simp only[dR,qk,sJ];by_cases h:a=b<;>simp[h]
theorem ado:dR .neq (.v (.int .i64 a)) (.v (.int .i64 b))=some (.v (.bool (decide (a≠b)))):=by
 simp only[dR,qk,sJ];by_cases h:a=b<;>simp[h]
theorem adk:dR .lss (.v (.int .i64 a)) (.v (.int .i64 b))=some (.v (.bool (decide (a<b)))):=rfl
theorem adi:dR .leq (.v (.int .i64 a)) (.v (.int .i64 b))=some (.v (.bool (decide (a≤b)))):=rfl
theorem adg:dR .gtr (.v (.int .i64 a)) (.v (.int .i64 b))=some (.v (.bool (decide (b<a)))):=rfl
theorem ade:dR .geq (.v (.int .i64 a)) (.v (.int .i64 b))=some (.v (.bool (decide (b≤a)))):=rfl
theorem atX:unOp .not (.v (.bool c))=some (.v (.bool !c)):=rfl
theorem atW:unOp .neg (.v (.int .i64 a))=some (.v (.int .i64 (IntKind.i64.wrap (-a)))):=by simp[unOp]
theorem apy:sO true [.v (.int .i64 a),.v (.int .i64 b)]=some (.v (.int .i64 (max a b))):=by
 have:(if b>a then b else a)=max a b:=by split<;>omega
 simp only[sO,xP,Ck,bP,this]
theorem apA:sO false [.v (.int .i64 a),.v (.int .i64 b)]=some (.v (.int .i64 (min a b))):=by
 have:(if b<a then b else a)=min a b:=by split<;>omega
 simp[sO,xP,Ck,this]
theorem afz {k k':IntKind}:mP (.int k) (.v (.int k' a))=some (.v (.int k (k.wrap a))):=rfl
theorem adt:dR .shr (.v (.int .u64 a)) (.v (.int .u64 1))=some (.v (.int .u64 (a/2))):=by
 have:a.fdiv 2=a/2:=by rw[acm _ (by decide)]
 simp[dR,qk,uk,IntKind.bits,this]
theorem apz {c':Int}:sO true [.v (.int .i64 a),.v (.int .i64 b),.v (.int .i64 c')]=some (.v (.int .i64 (max (max a b) c'))):=by
 have h1:(if b>a then b else a)=max a b:=by split<;>omega
 have h2:(if c'>max a b then c' else max a b)=max (max a b) c':=by split<;>omega
 simp only[sO,xP,Ck,bP,h1,h2]
theorem aga {x:AV} {r:List AV}:yT 0 (.tuple (x::r))=some x:=rfl
theorem agb {x y:AV} {r:List AV}:yT 1 (.tuple (x::y::r))=some y:=rfl
theorem agc {x y z:AV} {r:List AV}:yT 2 (.tuple (x::y::z::r))=some z:=rfl
theorem ao3 {o:Own} {es:Nat} {xs:List (List AV)}:ld false (.slice o es xs)=some (.v (.int .i64 xs.length)):=rfl
theorem ao4 {x:ByteArray}:ld true (.v (.string x))=some (.v (.int .i64 x.size)):=rfl
theorem agY {rs:List iF} {own:Bool} {st:St}:aY rs own .normal st=finish rs own st:=rfl
theorem agZ {rs:List iF} {own:Bool} {st:St}:aY rs own .ret st=finish rs own st:=rfl
theorem ag3 {rs:List iF} {st:St}:finish rs false st=(sU st rs).map fun l=>(packed l,st.sig.pop):=rfl
theorem asw {st:St}:sU st []=some []:=rfl
theorem asv {st:St} {r:iF} {rest:List iF}:sU st (r::rest)=(((sS st r).bind (ev st.sig)).bind fun x=>(sU st rest).map fun s=>x::s):=by
 simp only[sU]
 cases(sS st r).bind (ev st.sig)<;>cases sU st rest<;>rfl
theorem asl {ρ:Nat→AV} {m:ae} {t:Nat}:sS ⟨ρ,m⟩ (.tmp t)=some (ρ t):=rfl
theorem asj {ρ:Nat→AV} {m:ae} {g:Bool} {n t:Nat}:sS ⟨ρ,m⟩ (.cell g n t)=m.load g n (ρ t):=rfl
theorem aq3:packed []=.tuple []:=rfl
theorem aq4 {x:AV}:packed [x]=x:=rfl
theorem aq5 {x y:AV} {r:List AV}:packed (x::y::r)=.tuple (x::y::r):=rfl
section
variable{m:ae} {x:Value} {cs:List AV}
theorem aoL {k:IntKind} {n:Int}:ev m (.v (.int k n))=some (.v (.int k n)):=rfl
theorem aoF {b:Bool}:ev m (.v (.bool b))=some (.v (.bool b)):=rfl
theorem aoQ {b:ByteArray}:ev m (.v (.string b))=some (.v (.string b)):=rfl
theorem aoD:ev m (.agg cs)=(pD m cs).map .agg:=rfl
theorem aoM {es:Nat} {xs:List (List AV)}:ev m (.slice .aA es xs)=some (.slice .aA es xs):=rfl
theorem aoE {es:Nat} {xs:List (List AV)}:ev m (.slice .any es xs)=some (.slice .any es xs):=rfl
theorem aoK {es:Nat} {xs:List (List AV)}:ev m (.slice .full es xs)=some (.slice .full es xs):=rfl
theorem aoR {d g es:Nat} {xs:List (List AV)}:ev m (.slice (.tok d g) es xs)=some (.slice .any es xs):=rfl
theorem ao1:pD m []=some []:=rfl
theorem leaves_cons {x:AV} {r:List AV}:pD m (x::r)=(eF m x).bind fun y=>(pD m r).map fun s=>y::s:=by
 simp only[pD]
 cases eF m x<;>cases pD m r<;>rfl
theorem aoV {k:IntKind} {n:Int}:eF m (.v (.int k n))=some (.v (.int k n)):=rfl
theorem aoT {b:Bool}:eF m (.v (.bool b))=some (.v (.bool b)):=rfl
theorem aoZ {b:ByteArray}:eF m (.v (.string b))=some (.v (.string b)):=rfl
theorem aoW {es:Nat} {xs:List (List AV)}:eF m (.slice .aA es xs)=some (.slice .aA es xs):=rfl
theorem aoS {es:Nat} {xs:List (List AV)}:eF m (.slice .any es xs)=some (.slice .any es xs):=rfl
theorem aoU {es:Nat} {xs:List (List AV)}:eF m (.slice .full es xs)=some (.slice .full es xs):=rfl
theorem ao0 {d g es:Nat} {xs:List (List AV)}:eF m (.slice (.tok d g) es xs)=some (.slice .any es xs):=rfl
end
end
attribute [go_sem] afz adt ac8 adu adn adr ads ac9 ado adk adi adg ade atX atW apy apz apA aga agb agc ao3 ao4
attribute [go_sem] agY agZ ag3 asw asv asl asj aq3 aq4 aq5 aoL aoF aoQ aoD aoM aoE aoK aoR ao1 leaves_cons aoV aoT aoZ aoW aoS aoU ao0
attribute [go_sem] pop_push dE et Option.map_none Option.bind_none iH nw kq l5 AV.cells eo ja AV.bA vZ CM qD ia HH Ma ko S8 Mh Mi HR Tm ad8 ad7 aeb aea Hl oq mf oV ae8 Oj afb ae7 afa afd
section
variable{o:Own} {es:Nat} {xs:List (List AV)} {k:Nat} {row:List AV}
theorem GZ (h:xs[k]? =some row):kH none es (.slice o es xs) (.v (.int .i64 (k:Int)))=some (.bg row 0):=by
 have hk:k<xs.length:=(bd.1 h).1
 have:(0:Int)≤(k:Int)∧(k:Int)<(xs.length:Int):=by omega
 simp only[kH,bP,idx,ak this,et,CL,h,dE]
theorem idx_eq {k:IntKind} {n:Int} {len:Nat}:idx (.v (.int k n)) len=if 0≤n∧n<len then some n.toNat else none:=rfl
theorem ale {n es:Nat} {g:Bool} {cs:List AV} {j:AV}:GR n es g (.agg cs) j=(idx j n).bind fun k=>part g es cs (k*es):=rfl
theorem agT {n off:Nat} {g:Bool} {cs:List AV}:FF g n off (.agg cs)=part g n cs off:=rfl
theorem ak1 {n d b off es:Nat} {j:AV}:kH (some n) es (.ptr d b off) j=(idx j n).map fun k=>.ptr d b (off+k*es):=rfl
theorem ak0 {n off es:Nat} {cs:List AV} {j:AV}:kH (some n) es (.bg cs off) j=(idx j n).map fun k=>.bg cs (off+k*es):=rfl
theorem auq (x:Int):IntKind.i64.wrap x=if 9223372036854775808≤x%18446744073709551616 then x%18446744073709551616-18446744073709551616 else x%18446744073709551616:=by
 have e1:((2:Int)^(64:Nat))=18446744073709551616:=by decide
 have e2:((2:Int)^(64-1:Nat))=9223372036854775808:=by decide
 show(if(true&&decide (x%(2:Int)^(64:Nat)≥(2:Int)^(64-1:Nat)))=true then x%(2:Int)^(64:Nat)-(2:Int)^(64:Nat)else x%(2:Int)^(64:Nat))=_
 simp only[e1,e2,ia,dU,ge_iff_le]
theorem ch {x:Int} (h1:-9223372036854775808≤x) (h2:x<9223372036854775808):IntKind.i64.wrap x=x:=by
 rw[auq];split<;>omega
theorem bK {k n:Nat} (h:k<n) (hn:(n:Int)<9223372036854775808):IntKind.i64.wrap ((k:Int)+1)=((k+1:Nat):Int):=by
 rw[ch]<;>omega
end
section
variable{c:Bool} {x y z:AV} {a b:Bool} {n k:Int}
theorem aeP:cond c (cond c x y) z=cond c x z:=by cases c<;>rfl
theorem aeQ:cond c x (cond c y z)=cond c x z:=by cases c<;>rfl
theorem aeM:cond c (AV.v (.bool a)) (AV.v (.bool b))=.v (.bool (cond c a b)):=by cases c<;>rfl
theorem aeO:cond c (AV.v (.int .i64 n)) (AV.v (.int .i64 k))=.v (.int .i64 (cond c n k)):=by cases c<;>rfl
theorem aeN:cond c a false=(c&&a):=by cases c<;>simp
theorem aeR:cond c true a=(c||a):=by cases c<;>simp
end
attribute [go_sem] ch idx_eq ale agT ak1 ak0 and_true LM nx nZ nY Vd Bool.cond_self qN tB aeP aeQ aeM aeO aeN aeR
end Go.Ax.Sx
/-
  How plain data look to the executor; loops over slices.
-/
namespace Go.Ax.Sx
abbrev I (n:Int):AV:=.v (.int .i64 n)
abbrev B (b:Bool):AV:=.v (.bool b)
def Y2 (x:Int):Prop:=-9223372036854775808≤x∧x<9223372036854775808
def ints (l:List Int):List (List AV):=l.map fun n=>[I n]
theorem alk {l:List Int}:(ints l).length=l.length:=by simp[ints]
theorem alj {l:List Int} {k:Nat} {x:Int} (h:l[k]? =some x):(ints l)[k]? =some [I x]:=by simp[ints,h]
section
variable{AP:FuncId→Option aJ} {F:cM→St→Option (AV×ae)} {L:aw} {ks:List K}
theorem cq (N:Nat) (P:Nat→(Nat→AV)→ae→Prop) (R:Nat→Option (AV×ae))
  (step:∀k ρ m,k<N→P k ρ m→(∀ρ' m',P (k+1) ρ' m'→go AP F (.c (.loop L)::ks) ⟨ρ',m'⟩=R (k+1))→go AP F (.c L::.lp L::ks) ⟨ρ,m⟩=R k)
  (last:∀ρ m,P N ρ m→go AP F (.c L::.lp L::ks) ⟨ρ,m⟩=R N):
  ∀k ρ m,k≤N→P k ρ m→go AP F (.c (.loop L)::ks) ⟨ρ,m⟩=R k:=by
 intro k ρ m hk hP
 induction h:N-k generalizing k ρ m with
 |zero=>
  have e:k=N:=by omega
  subst e
  rw[go_loop];exact last ρ m hP
 |succ n ih=>
  rw[go_loop]
  exact step k ρ m (by omega) hP (fun ρ' m' vd=>ih (k+1) ρ' m' (by omega) vd (by omega))
theorem Rg (hi:Int) (P:Int→(Nat→AV)→ae→Prop) (R:Int→Option (AV×ae))
  (step:∀i ρ m,i≤hi→P i ρ m→(∀ρ' m',P (i+1) ρ' m'→go AP F (.c (.loop L)::ks) ⟨ρ',m'⟩=R (i+1))→go AP F (.c L::.lp L::ks) ⟨ρ,m⟩=R i)
  (last:∀i ρ m,hi<i→P i ρ m→go AP F (.c L::.lp L::ks) ⟨ρ,m⟩=R i):
  ∀i ρ m,P i ρ m→go AP F (.c (.loop L)::ks) ⟨ρ,m⟩=R i:=by
 intro i ρ m hP
 induction h:(hi+1-i).toNat generalizing i ρ m with
 |zero=>rw[go_loop];exact last i ρ m (by omega) hP
 |succ n ih=>
  rw[go_loop]
  exact step i ρ m (by omega) hP (fun ρ' m' vd=>ih (i+1) ρ' m' vd (by omega))
theorem Zy (N:Nat) (P:Nat→(Nat→AV)→ae→Prop) (R:Option (AV×ae)→Prop)
  (step:∀k ρ m,k<N→P k ρ m→(∀ρ' m',P (k+1) ρ' m'→R (go AP F (.c (.loop L)::ks) ⟨ρ',m'⟩))→R (go AP F (.c L::.lp L::ks) ⟨ρ,m⟩))
  (last:∀ρ m,P N ρ m→R (go AP F (.c L::.lp L::ks) ⟨ρ,m⟩)):
  ∀k ρ m,k≤N→P k ρ m→R (go AP F (.c (.loop L)::ks) ⟨ρ,m⟩):=by
 intro k ρ m hk hP
 induction h:N-k generalizing k ρ m with
 |zero=>
  have e:k=N:=by omega
  subst e
  rw[go_loop];exact last ρ m hP
 |succ n ih=>
  rw[go_loop]
  exact step k ρ m (by omega) hP (fun ρ' m' vd=>ih (k+1) ρ' m' (by omega) vd (by omega))
theorem apb (hi:Int) (P:Int→(Nat→AV)→ae→Prop) (R:Option (AV×ae)→Prop)
  (step:∀i ρ m,i≤hi→P i ρ m→(∀ρ' m',P (i+1) ρ' m'→R (go AP F (.c (.loop L)::ks) ⟨ρ',m'⟩))→R (go AP F (.c L::.lp L::ks) ⟨ρ,m⟩))
  (last:∀i ρ m,hi<i→P i ρ m→R (go AP F (.c L::.lp L::ks) ⟨ρ,m⟩)):
  ∀i ρ m,P i ρ m→R (go AP F (.c (.loop L)::ks) ⟨ρ,m⟩):=by
 intro i ρ m hP
 induction h:(hi+1-i).toNat generalizing i ρ m with
 |zero=>rw[go_loop];exact last i ρ m (by omega) hP
 |succ n ih=>
  rw[go_loop]
  exact step i ρ m (by omega) hP (fun ρ' m' vd=>ih (i+1) ρ' m' vd (by omega))
theorem eR {α:Type} {l:List α} {k:Nat} {x:α} (h:l[k]? =some x):l.drop k=x::l.drop (k+1):=by
 have hk:=(bd.1 h).1
 rw[List.drop_eq_getElem_cons hk];congr 1
 exact(bd.1 h).2
theorem get_some {α:Type} {l:List α} {k:Nat} (h:k<l.length):∃x,l[k]? =some x:=⟨l[k],cY h⟩
theorem fF {α:Type} {l:List α} {k:Nat} {x:α} (h:l[k]? =some x):l.take (k+1)=l.take k++[x]:=by
 rw[List.take_add_one,h];rfl
theorem aS {k n:Nat} (h:k<n):decide ((k:Int)<(n:Int))=true:=by simp;omega
theorem bN (n:Nat):decide ((n:Int)<(n:Int))=false:=by simp
end
theorem dec_lt (a b:Int):decide (b<a)=!decide (a≤b):=by
 by_cases h:a≤b
 ·simp[h]
 ·simp[h];omega
section
variable{α:Type} {l r:List α} {x x1 x2 x3 y:α}
theorem at_len:(l++x::r)[l.length]? =some x:=by simp
theorem rV:(l++x1::x::r)[l.length+1]? =some x:=by simp
theorem adB:(l++x1::x2::x::r)[l.length+1+1]? =some x:=by
 rw[gO (by omega)];simp[show l.length+1+1-l.length=2 by omega]
theorem adC:(l++x1::x2::x3::x::r)[l.length+1+1+1]? =some x:=by
 rw[gO (by omega)];simp[show l.length+1+1+1-l.length=3 by omega]
theorem oO:(l++x::r).set l.length y=l++y::r:=by simp
theorem rJ:(l++x1::x::r).set (l.length+1) y=l++x1::y::r:=by
 rw[HQ _ _ (by omega)];simp
theorem ath:(l++x1::x2::x::r).set (l.length+1+1) y=l++x1::x2::y::r:=by
 rw[HQ _ _ (by omega)];simp[show l.length+1+1-l.length=2 by omega]
theorem ati:(l++x1::x2::x3::x::r).set (l.length+1+1+1) y=l++x1::x2::x3::y::r:=by
 rw[HQ _ _ (by omega)];simp[show l.length+1+1+1-l.length=3 by omega]
theorem rB:(l++[x]).length=l.length+1:=by simp
theorem G4:(l++[x,x1]).length=l.length+1+1:=by simp
theorem ao2:(l++[x,x1,x2]).length=l.length+1+1+1:=by simp
end
attribute [go_sem] at_len rV adB adC oO rJ ath ati rB G4 ao2 gN
def aU (es:Nat):List (List AV)→AV
 |[]=>.slice .aA 0 []
 |x::r=>.slice .any es (x::r)
def Acc (d es:Nat) (xs:List (List AV)) (x:AV) (og:Option Nat) (toks:List (Option Nat)):Prop:=
 match og with
 |none=>xs=[]∧x=.slice .aA 0 []
 |some g=>xs≠[]∧x=.slice (.tok d g) es xs∧toks[g]? =some (some xs.length)
theorem Acc.start {d es:Nat} {toks:List (Option Nat)}:Acc d es [] (.slice .aA 0 []) none toks:=⟨rfl,rfl⟩
theorem Acc.append {s:ae} {es:Nat} {xs:List (List AV)} {x:AV} {og:Option Nat} {toks:List (Option Nat)} (h:Acc s.ag.length es xs x og toks) (hs:Ok s) (o:Own) {ys:List (List AV)} (hy:ys≠[]) (hl:xs.length+ys.length≤4294967296):
  ∃x' gC toks',(∀boxes,eI (s.push ⟨boxes,toks⟩) es x (.slice o es ys)=some (x',s.push ⟨boxes,toks'⟩))∧Acc s.ag.length es (xs++ys) x' gC toks'∧gC≠none∧
   (∀oW pM x2 eY,Acc s.ag.length oW pM x2 eY toks→(eY≠og∨eY=none)→Acc s.ag.length oW pM x2 eY toks'∧eY≠gC):=by
 have sH:ys.isEmpty=false:=by cases ys<;>simp_all
 cases og with
 | none =>
  obtain⟨rfl,rfl⟩:=h
  refine⟨.slice (.tok s.ag.length toks.length) es ys,some toks.length,toks++[some ys.length],fun boxes=>?_,⟨by simpa using hy,rfl,by simp⟩,by simp,?_⟩
  ·have:ys.length≤4294967296:=by simpa using hl
   simp[eI,sH,Own.isNil,most,this,qu,oS]
  ·intro oW pM x2 eY h2 _
   cases eY with
   |none=>exact⟨h2,by simp⟩
   |some g=>
    obtain⟨a,b,c⟩:=h2
    have:=(bd.1 c).1
    exact⟨⟨a,b,by rw[dM this];exact c⟩,by simp;omega⟩
 | some g =>
  obtain⟨hx,rfl,hg⟩:=h
  refine⟨.slice (.tok s.ag.length g) es (xs++ys),some g,toks.set g (some (xs.length+ys.length)),fun boxes=>?_,⟨by simp[hx],rfl,?_⟩,by simp,?_⟩
  ·simp[eI,sH,most,hl,CB,hg,R5,hs.ro,LD]
  ·rw[mL (bd.1 hg).1];simp
  ·intro oW pM x2 eY h2 aD
   cases eY with
   |none=>exact⟨h2,by simp⟩
   |some g2=>
    obtain⟨a,b,c⟩:=h2
    have aD:g2≠g:=by rcases aD with h|h<;>simp_all
    exact⟨⟨a,b,by rw[eP (fun e=>aD e.symm)];exact c⟩,by simpa using aD⟩
section
variable{d es:Nat} {xs:List (List AV)} {x:AV} {og:Option Nat} {toks:List (Option Nat)}
theorem Acc.leave (h:Acc d es xs x og toks) (m:ae):ev m x=some (aU es xs):=by
 cases og with
 |none=>obtain⟨rfl,rfl⟩:=h;rfl
 |some g=>
  obtain⟨hx,rfl,_⟩:=h
  cases xs with
  |nil=>exact absurd rfl hx
  |cons a r=>rfl
theorem Acc.Ce (h:Acc d es xs x og toks) (m:ae):eF m x=some (aU es xs):=by
 cases og with
 |none=>obtain⟨rfl,rfl⟩:=h;rfl
 |some g=>
  obtain⟨hx,rfl,_⟩:=h
  cases xs with
  |nil=>exact absurd rfl hx
  |cons a r=>rfl
theorem Acc.close (h:Acc d es xs x og toks):x.close=some (aU es xs):=by
 cases og with
 |none=>obtain⟨rfl,rfl⟩:=h;rfl
 |some g=>
  obtain⟨hx,rfl,_⟩:=h
  cases xs with
  |nil=>exact absurd rfl hx
  |cons a r=>rfl
theorem Acc.len (h:Acc d es xs x og toks):ld false x=some (.v (.int .i64 xs.length)):=by
 cases og with
 |none=>obtain⟨rfl,rfl⟩:=h;rfl
 |some g=>obtain⟨hx,rfl,_⟩:=h;rfl
theorem Acc.bA (h:Acc d es xs x og toks):x.bA=true:=by
 cases og with
 |none=>obtain⟨rfl,rfl⟩:=h;rfl
 |some g=>obtain⟨hx,rfl,_⟩:=h;rfl
end
def wX:List (List AV)→Own
 |[]=>.full
 |_::_=>.any
def uw (d es:Nat) (xs:List (List AV)) (x:AV) (og:Option Nat) (toks:List (Option Nat)):Prop:=
 match og with
 |none=>xs=[]∧x=.slice .full es []
 |some g=>xs≠[]∧x=.slice (.tok d g) es xs∧toks[g]? =some (some xs.length)
theorem uw.start {d es:Nat} {toks:List (Option Nat)}:uw d es [] (.slice .full es []) none toks:=⟨rfl,rfl⟩
theorem uw.append {s:ae} {es:Nat} {xs:List (List AV)} {x:AV} {og:Option Nat} {toks:List (Option Nat)} (h:uw s.ag.length es xs x og toks) (hs:Ok s) (o:Own) {ys:List (List AV)} (hy:ys≠[]) (hl:xs.length+ys.length≤4294967296):
  ∃x' gC toks',(∀boxes,eI (s.push ⟨boxes,toks⟩) es x (.slice o es ys)=some (x',s.push ⟨boxes,toks'⟩))∧uw s.ag.length es (xs++ys) x' gC toks'∧gC≠none∧
   (∀oW pM x2 eY,uw s.ag.length oW pM x2 eY toks→(eY≠og∨eY=none)→uw s.ag.length oW pM x2 eY toks'∧eY≠gC):=by
 have sH:ys.isEmpty=false:=by cases ys<;>simp_all
 cases og with
 | none =>
  obtain⟨rfl,rfl⟩:=h
  refine⟨.slice (.tok s.ag.length toks.length) es ys,some toks.length,toks++[some ys.length],fun boxes=>?_,⟨by simpa using hy,rfl,by simp⟩,by simp,?_⟩
  ·have:ys.length≤4294967296:=by simpa using hl
   simp[eI,sH,Own.isNil,most,this,qu,oS]
  ·intro oW pM x2 eY h2 _
   cases eY with
   |none=>exact⟨h2,by simp⟩
   |some g=>
    obtain⟨a,b,c⟩:=h2
    have:=(bd.1 c).1
    exact⟨⟨a,b,by rw[dM this];exact c⟩,by simp;omega⟩
 | some g =>
  obtain⟨hx,rfl,hg⟩:=h
  refine⟨.slice (.tok s.ag.length g) es (xs++ys),some g,toks.set g (some (xs.length+ys.length)),fun boxes=>?_,⟨by simp[hx],rfl,?_⟩,by simp,?_⟩
  ·simp[eI,sH,most,hl,CB,hg,R5,hs.ro,LD]
  ·rw[mL (bd.1 hg).1];simp
  ·intro oW pM x2 eY h2 aD
   cases eY with
   |none=>exact⟨h2,by simp⟩
   |some g2=>
    obtain⟨a,b,c⟩:=h2
    have aD:g2≠g:=by rcases aD with h|h<;>simp_all
    exact⟨⟨a,b,by rw[eP (fun e=>aD e.symm)];exact c⟩,by simpa using aD⟩
theorem uw.leave {d es:Nat} {xs:List (List AV)} {x:AV} {og:Option Nat} {toks:List (Option Nat)} (h:uw d es xs x og toks) (m:ae):ev m x=some (.slice (wX xs) es xs):=by
 cases og with
 |none=>obtain⟨rfl,rfl⟩:=h;rfl
 |some g=>
  obtain⟨hx,rfl,_⟩:=h
  cases xs with
  |nil=>exact absurd rfl hx
  |cons a r=>rfl
theorem afp {s:ae} {r:Rec} {es:Nat} {x:AV} {xs:List (List AV)} {o:Own} (hx:x=.slice o es xs) (hl:xs.length≤4294967296):
  ∃x' t',eI (s.push r) es (.slice .full es []) x=some (x',s.push ⟨r.boxes,t'⟩)∧∀m,ev m x'=some (.slice (wX xs) es xs):=by
 subst hx
 cases xs with
 |nil=>exact⟨.slice .full es [],r.toks,by simp[eI],fun m=>rfl⟩
 |cons a l=>
  refine⟨.slice (.tok s.ag.length r.toks.length) es (a::l),r.toks++[some (l.length+1)],?_,fun m=>rfl⟩
  have re:l.length+1≤4294967296:=by simpa using hl
  simp[eI,Own.isNil,most,re,qu,oS]
theorem GY {es k:Nat} {xs:List (List AV)} {row:List AV} (h:xs[k]? =some row):kH none es (aU es xs) (.v (.int .i64 (k:Int)))=some (.bg row 0):=by
 cases xs with
 |nil=>simp at h
 |cons a r=>exact GZ h
theorem K0 {es:Nat} {xs:List (List AV)}:ld false (aU es xs)=some (.v (.int .i64 xs.length)):=by cases xs<;>rfl
theorem Ra {es:Nat} {xs:List (List AV)} {m:ae}:ev m (aU es xs)=some (aU es xs):=by cases xs<;>rfl
theorem Rb {es:Nat} {xs:List (List AV)} {m:ae}:eF m (aU es xs)=some (aU es xs):=by cases xs<;>rfl
theorem ae6 {es:Nat} {xs:List (List AV)}:(aU es xs).close=some (aU es xs):=by cases xs<;>rfl
theorem Y6 {es:Nat} {xs:List (List AV)}:(aU es xs).bA=true:=by cases xs<;>rfl
theorem Jw {es:Nat} {xs:List (List AV)}:(aU es xs).cells=[aU es xs]:=by cases xs<;>rfl
attribute [go_sem] K0 Ra Rb ae6 Y6 Jw
def dV:List Int→Int
 |[]=>0
 |e::r=>if e=0 then dV r else e
end Go.Ax.Sx
/-
  Loops over functions: the rounds.
-/
namespace Go.Ax.Sx
section
variable{AP:FuncId→Option aJ} {Fin:cM→St→Option (AV×ae)} {ks:List K} {ρ:Nat→AV} {m S:ae} {l:Nat} {lp:dq}
noncomputable def BD (AP:FuncId→Option aJ) (Fin:cM→St→Option (AV×ae)) (l:Nat) (ks:List K) (ρ:Nat→AV) (s:ae):Option (AV×ae):=
 (xN s l).bind fun p=>jg AP Fin ks (p.1.getD .normal) ⟨ρ,p.2⟩
theorem J1 {x:aF} {ps:List Nat} {a b:aw} {g:FuncId} {first caps:List AV} (h:aE ρ x=.fn g first caps):
  go AP Fin (.c (.rangeFunc x ps a b)::ks) ⟨ρ,m⟩=(au AP (.fn g) (first++.yield m.loops.length::caps) (enterLoop m ⟨true,none,ρ,ps,a,b⟩)).bind fun p=>BD AP Fin m.loops.length ks ρ p.2:=by
 simp only[go,jg,asK,h,BD]
 cases au AP (.fn g) (first++.yield m.loops.length::caps) (enterLoop m ⟨true,none,ρ,ps,a,b⟩)with
 |none=>rfl
 |some p=>
  obtain⟨x,s⟩:=p
  simp only[et]
  cases xN s m.loops.length with
  |none=>rfl
  |some q=>rfl
theorem Zr (h:m.loops.length=l) (hr:lp.ready=true∨lp.eG.isSome=true):xN (enterLoop m lp) l=some (lp.eG,m):=by
 subst h
 have:(lp.ready=true∨lp.eG.isSome=true):=hr
 simp[xN,enterLoop,this]
theorem J0 (h:m.loops.length=l) (hr:lp.ready=true) (hp:lp.eG=none):BD AP Fin l ks ρ (enterLoop m lp)=go AP Fin ks ⟨ρ,m⟩:=by
 rw[BD,Zr h (.inl hr),hp];rfl
theorem Xf (h:m.loops.length=l) (hp:lp.eG=some .ret):BD AP Fin l ks ρ (enterLoop m lp)=Fin .ret ⟨ρ,m⟩:=by
 rw[BD,Zr h (.inr (by simp[hp])),hp]
 exact FN (ks:=ks)
structure l7 (l:Nat) (lp:dq) (S:ae):Prop where
 get:S.loops[l]? =some lp
 ready:lp.ready=true
 eG:lp.eG=none
 bt:S.bt≤l
def busy (l:Nat) (S:ae):ae:=ek S l fun p=>{p with ready:=false}
def over (l:Nat) (e:cM) (S:ae):ae:=ek S l fun p=>{p with ready:=false,eG:=some e}
theorem aee {d b:Nat}:(busy l S).box d b=S.box d b:=rfl
theorem Ok.busy (h:Ok S):Ok (busy l S):=⟨h.ro,by have:=h.bt;simp[Sx.busy,ek];exact this⟩
theorem Ok.over {e:cM} (h:Ok S):Ok (over l e S):=⟨h.ro,by have:=h.bt;simp[Sx.over,ek];exact this⟩
theorem Ok.enter (h:Ok S):Ok (enterLoop S lp):=⟨h.ro,by have:=h.bt;simp[enterLoop];omega⟩
theorem afT {d b:Nat}:(enterLoop S lp).box d b=S.box d b:=rfl
theorem Sp {r:Rec} {f:dq→dq}:ek (S.push r) l f=(ek S l f).push r:=rfl
theorem Oy {ρ:Nat→AV} {ps:List Nat} {a b:aw} (h:Ok m):l7 m.loops.length ⟨true,none,ρ,ps,a,b⟩ (enterLoop m ⟨true,none,ρ,ps,a,b⟩):=⟨by simp[enterLoop],rfl,rfl,h.bt⟩
theorem l7.push (h:l7 l lp S) (r:Rec):l7 l lp (S.push r):=⟨h.get,h.ready,h.eG,h.bt⟩
theorem aed (h:l7 l lp S):ek (busy l S) l (fun p=>{p with ready:=true,eG:=none})=S:=by
 have e:(S.loops.modify l fun p=>{p with ready:=false}).modify l (fun p=>{p with ready:=true,eG:=none})=S.loops:=by
  apply pO
  intro i
  simp only[wa]
  by_cases hi:l=i
  ·subst hi
   have:=h.get
   rw[this]
   obtain⟨a,b,c,d,f,g⟩:=lp
   have h1:=h.ready
   have h2:=h.eG
   simp at h1 h2
   simp[h1,h2]
  ·simp[hi]
 simp only[busy,ek,e]
noncomputable def JS (AP:FuncId→Option aJ) (l:Nat) (body:aw) (e:cM) (st:St):Option (AV×ae):=
 match e with
 |.normal=>if Ch st.sig l=true then go AP (ov l) [.c body] ⟨st.tmps,busy l st.sig⟩else none
 |_=>none
theorem ah4 {body:aw} {st:St}:go AP (ov l) [.c body] st=endRound l (fM AP body st):=by
 simp only[go,jg,ov]
 cases fM AP body st with
 |none=>rfl
 |some p=>rfl
theorem Ju {as:List AV} (h:l7 l lp S) (hl:as.length=lp.params.length):
  au AP (.yield l) as S=go AP (JS AP l lp.body) [.c lp.assign] ⟨uj lp.tmps lp.params as,S.push ⟨[],[]⟩⟩:=by
 rw[aer,h.get]
 simp only
 rw[ak ⟨h.ready,h.bt,hl⟩]
 simp only[go,jg,JS]
 cases fM AP lp.assign ⟨uj lp.tmps lp.params as,S.push ⟨[],[]⟩⟩with
 |none=>rfl
 | some p =>
  obtain⟨e,st⟩:=p
  cases e with
  |normal=>
   simp only[et]
   have:=ah4 (AP:=AP) (l:=l) (body:=lp.body) (st:=⟨st.tmps,busy l st.sig⟩)
   simp only[go,jg]at this
   rw[this];rfl
  |exit j=>rfl
  |ret=>rfl
theorem FG {body:aw} {r:Rec} (h:l7 l lp S):JS AP l body .normal ⟨ρ,S.push r⟩=go AP (ov l) [.c body] ⟨ρ,(busy l S).push r⟩:=by
 have:Ch (S.push r) l=true:=by
  simp only[Ch,ae.push,h.get,h.ready]
 simp only[JS,this,bP];rfl
theorem JT {r:Rec} (h:l7 l lp S):ov l .normal ⟨ρ,(busy l S).push r⟩=some (.v (.bool true),S):=by
 simp only[ov,endRound,Sp,aed h,pop_push]
theorem aam {e:cM}:ek (busy l S) l (fun p=>{p with ready:=false,eG:=some e})=over l e S:=by
 have:(S.loops.modify l fun p=>{p with ready:=false}).modify l (fun p=>{p with ready:=false,eG:=some e})=S.loops.modify l fun p=>{p with ready:=false,eG:=some e}:=by
  apply pO
  intro i
  simp only[wa]
  by_cases hi:l=i
  ·cases S.loops[i]? <;>simp[hi]
  ·simp[hi]
 simp only[busy,over,ek,this]
theorem WO {r:Rec}:ov l .ret ⟨ρ,(busy l S).push r⟩=some (.v (.bool false),over l .ret S):=by
 simp only[ov,endRound,Sp,aam,pop_push]
theorem ag0 {r:Rec} {j:Nat}:ov l (.exit j) ⟨ρ,(busy l S).push r⟩=some (.v (.bool false),over l (.exit j) S):=by
 simp only[ov,endRound,Sp,aam,pop_push]
theorem aqV {e:cM}:over m.loops.length e (enterLoop m lp)=enterLoop m {lp with ready:=false,eG:=some e}:=by
 have:∀(f:dq→dq) (L:List dq),(L++[lp]).modify L.length f=L++[f lp]:=by
  intro f L
  induction L with
  |nil=>rfl
  |cons a L ih=>simpa using ih
 simp only[over,ek,enterLoop,this]
theorem Cv {p:Nat} {x:AV}:uj ρ [p] [x]=put p x ρ:=rfl
theorem atf:uj ρ [] []=ρ:=rfl
end
section
variable{S s:ae} {r:Rec} {d b l:Nat} {lp:dq}
theorem apf:s.ag.length<(s.push r).ag.length:=by simp[ae.push]
theorem ape (h:d<S.ag.length):d<(S.push r).ag.length:=by simp[ae.push];omega
theorem apc (h:d<S.ag.length):d<(busy l S).ag.length:=h
theorem apd (h:d<S.ag.length):d<(enterLoop S lp).ag.length:=h
theorem ad4 (h:d<S.ag.length):(S.push r).box d b=S.box d b:=by
 simp only[ae.box,ae.push]
 rw[dM h]
theorem ad3:((busy l S).push r).box S.ag.length b=r.boxes[b]? :=iK (busy l S) r b
theorem adA {α:Type} {l r:List α} {k:Nat}:(l++r)[l.length+k]? =r[k]? :=by
 rw[gO (by omega)];congr 1;omega
theorem atg {α:Type} {l r:List α} {k:Nat} {y:α}:(l++r).set (l.length+k) y=l++r.set k y:=by
 rw[HQ _ _ (by omega)];congr 2;omega
end
attribute [go_sem] atg
attribute [go_sem] apf ape apc apd ad4 ad3 adA cu
attribute [go_sem] aee Ok.busy Ok.over Ok.enter afT WO ag0 Cv atf
end Go.Ax.Sx
/-
  Slices that came in: their cells and who owns them.
-/
namespace Go.Ax.Sx
structure Sl (α:Type)where
 o:Own
 e:Nat
 l:List α
abbrev Sl.v {α:Type} (f:α→List AV) (x:Sl α):AV:=.slice x.o x.e (x.l.map f)
def Sl.ok {α:Type} (n:Nat) (x:Sl α):Prop:=(x.l=[]∨x.e=n)∧(x.o=.any∨x.o=.full∨(x.o=.aA∧x.l=[]))
section
variable{α:Type} {f:α→List AV} {x:Sl α} {n k:Nat} {a:α} {m:ae}
theorem cD {o:Own} {es:Nat} {l:List α} (hk:l[k]? =some a):kH none es (.slice o es (l.map f)) (.v (.int .i64 (k:Int)))=some (.bg (f a) 0):=GZ (by rw[gX,hk];rfl)
theorem Sl.ix (h:x.ok n) (hk:x.l[k]? =some a):kH none n (x.v f) (.v (.int .i64 (k:Int)))=some (.bg (f a) 0):=by
 have he:x.e=n:=by
  rcases h.1 with h|h
  ·rw[h]at hk;simp at hk
  ·exact h
 rw[Sl.v,he]
 exact GZ (by simp[hk])
theorem Sl.iU (h:x.ok n):(x.v f).iU=true:=by
 rcases h.2 with h|h|h<;>simp[Sl.v,AV.iU,h]
theorem Sl.close (h:x.ok n):(x.v f).close=some (x.v f):=by
 rcases h.2 with h|h|h<;>simp[Sl.v,AV.close,AV.isClosed,AV.iU,h]
theorem Sl.Ce (h:x.ok n):eF m (x.v f)=some (x.v f):=by
 rcases h.2 with h|h|h<;>simp[Sl.v,eF,AV.close,AV.isClosed,AV.iU,h]
theorem Sl.leave (h:x.ok n):ev m (x.v f)=some (x.v f):=by
 rw[show ev m (x.v f)=eF m (x.v f)from rfl];exact Sl.Ce h
end
attribute [go_sem] bR
section
variable{a b:Int} {x y:ByteArray} {k:Nat} {c:UInt8}
theorem adl:dR .lss (.v (.int .u8 a)) (.v (.int .u8 b))=some (.v (.bool (decide (a<b)))):=rfl
theorem adj:dR .leq (.v (.int .u8 a)) (.v (.int .u8 b))=some (.v (.bool (decide (a≤b)))):=rfl
theorem adh:dR .gtr (.v (.int .u8 a)) (.v (.int .u8 b))=some (.v (.bool (decide (b<a)))):=rfl
theorem adf:dR .geq (.v (.int .u8 a)) (.v (.int .u8 b))=some (.v (.bool (decide (b≤a)))):=rfl
theorem ada:dR .eql (.v (.int .u8 a)) (.v (.int .u8 b))=some (.v (.bool (decide (a=b)))):=by
 simp only[dR,qk,sJ];by_cases h:a=b<;>simp[h]
theorem adp:dR .neq (.v (.int .u8 a)) (.v (.int .u8 b))=some (.v (.bool (decide (a≠b)))):=by
 simp only[dR,qk,sJ];by_cases h:a=b<;>simp[h]
theorem adb:dR .eql (.v (.string x)) (.v (.string y))=some (.v (.bool (decide (x=y)))):=by
 have:sW .eql x y=some (.bool (decide (x=y))):=by
  simp only[sW]
  congr 2
  by_cases h:x=y
  ·simp[h]
  ·have:¬x.data=y.data:=fun e=>h (L0 e)
   simp[h,this]
 simp[dR,this]
theorem adq:dR .neq (.v (.string x)) (.v (.string y))=some (.v (.bool (decide (x≠y)))):=by
 have:sW .neq x y=some (.bool (decide (x≠y))):=by
  simp only[sW]
  congr 2
  by_cases h:x=y
  ·simp[h]
  ·have:¬x.data=y.data:=fun e=>h (L0 e)
   simp[h,this]
 simp[dR,this]
theorem afy:mP .bytes (.v (.string x))=some (.slice .any 1 (byteCells x)):=rfl
theorem aeh:(byteCells x).length=x.data.size:=by simp[byteCells]
theorem aeg (h:x.data.toList[k]? =some c):(byteCells x)[k]? =some [.v (.int .u8 c.toNat)]:=by simp[byteCells]at h⊢;simp[h]
end
attribute [go_sem] adl adj adh adf ada adp adb adq afy aeh
theorem aoN {m:ae}:ev m (.v (.pointer none))=some (.v (.pointer none)):=rfl
theorem aoX {m:ae}:eF m (.v (.pointer none))=some (.v (.pointer none)):=rfl
theorem afc:(AV.v (.pointer none)).close=some (.v (.pointer none)):=rfl
theorem aoH {m:ae} {cs:List AV} {off:Nat}:ev m (.bg cs off)=some (.bg cs off):=rfl
theorem Rc {m:ae} {cs:List AV} {off:Nat}:eF m (.bg cs off)=some (.bg cs off):=rfl
theorem ae9 {cs:List AV} {off:Nat}:(AV.bg cs off).close=some (.bg cs off):=rfl
theorem aoO {s:ae} {r:Rec} {b off:Nat}:ev (s.push r) (.ptr s.ag.length b off)=(r.boxes[b]?).bind fun cs=>(closeAll cs).map fun cs'=>.bg cs' off:=by
 have:ev (s.push r) (.ptr s.ag.length b off)=eF (s.push r) (.ptr s.ag.length b off):=rfl
 rw[this,eF,ak (by rw[fP]),iK]
theorem aoY {s:ae} {r:Rec} {b off:Nat}:eF (s.push r) (.ptr s.ag.length b off)=(r.boxes[b]?).bind fun cs=>(closeAll cs).map fun cs'=>.bg cs' off:=by
 rw[eF,ak (by rw[fP]),iK]
attribute [go_sem] aoN aoX afc aoH Rc ae9 aoO aoY
theorem apO {d b off:Nat}:zU (.ptr d b off)=some (.ptr d b off):=rfl
theorem apN {cs:List AV} {off:Nat}:zU (.bg cs off)=some (.bg cs off):=rfl
attribute [go_sem] apO apN
theorem af6 {ρ:aF→AV}:qO ρ none=none:=.trans rfl rfl
theorem af7 {ρ:aF→AV} {x:aF}:qO ρ (some x)=some (ρ x):=.trans rfl rfl
attribute [go_sem ↓] af6 af7
theorem afX {a b:Bool}:pX .bool (.v (.bool a)) (.v (.bool b))=some (a==b):=rfl
attribute [go_sem] afX
theorem asx {m:ae} {d b:Nat}:(dt m).box d b=m.box d b:=rfl
theorem Oa {s:ae} {b0:List AV} {r:List (List AV)} {t:List (Option Nat)}:(s.push ⟨b0::r,t⟩).box s.ag.length 0=some b0:=by rw[iK];rfl
theorem Ve {s:ae} {b0 b1:List AV} {r:List (List AV)} {t:List (Option Nat)}:(s.push ⟨b0::b1::r,t⟩).box s.ag.length 1=some b1:=by rw[iK];rfl
def fB (l:List Int):Sl Int:=⟨wX (ints l),1,l⟩
theorem JG {l:List Int}:(fB l).ok 1:=by
 refine⟨.inr rfl,?_⟩
 cases l
 ·exact .inr (.inl rfl)
 ·exact .inl rfl
end Go.Ax.Sx
/-
  Functions that yield: what a round gets, and what stands behind all rounds.
-/
namespace Go.Ax.Sx
def up (S:ae) (B:List Rec) (ls:List dq):ae:={S with ag:=S.ag++B,loops:=S.loops++ls}
section
variable{S:ae} {B:List Rec} {ls:List dq} {r:Rec} {lp:dq} {d b:Nat}
theorem LQ:(up S B ls).push r=up S (B++[r]) ls:=by simp[up,ae.push]
theorem RS:S.push r=up S [r] []:=by simp[up,ae.push]
theorem at2 {B':List Rec} {Rh:List dq}:up (up S B ls) B' Rh=up S (B++B') (ls++Rh):=by simp[up]
theorem abW:enterLoop (up S B ls) lp=up S B (ls++[lp]):=by simp[up,enterLoop]
theorem atZ:(up S B ls).ag.length=S.ag.length+B.length:=by simp[up]
theorem at0:(up S B ls).loops.length=S.loops.length+ls.length:=by simp[up]
theorem Ok.up (h:Ok S):Ok (up S B ls):=⟨by have:=h.ro;simp[Sx.up];omega,by have:=h.bt;simp[Sx.up];omega⟩
theorem LR:(up S (r::B) ls).box S.ag.length b=r.boxes[b]? :=by
 simp[ae.box,up]
theorem SG {l:Nat} (h:l7 l lp S):l7 l lp (up S B ls):=
 ⟨by have:=(bd.1 h.get).1;simp only[up];rw[dM this];exact h.get,h.ready,h.eG,h.bt⟩
theorem Ha {α:Type} {l l':List α} {k:Nat} {f:α→α} (h:k<l.length):(l++l').modify k f=l.modify k f++l':=by
 apply pO
 intro i
 rw[wa]
 by_cases hi:i<l.length
 ·rw[dM hi,dM (by simpa using hi),wa]
 ·rw[gO (by omega),gO (by simp;omega),Me]
  have:¬k=i:=by omega
  simp[this]
theorem SF {l:Nat} (h:l<S.loops.length):busy l (up S B ls)=up (busy l S) B ls:=by
 simp only[busy,ek,up,Ha h]
theorem at1 {l:Nat} {e:cM} (h:l<S.loops.length):over l e (up S B ls)=up (over l e S) B ls:=by
 simp only[over,ek,up,Ha h]
end
section
variable{α ι:Type} (I:List α→ι→Prop) (stop:List α→α→Bool) (O:List α→α→ι→Prop)
def Ends:List α→List α→Bool→ι→Prop
 |done,[],b,i=>b=true∧I done i
 |done,x::r,b,i=>if stop done x=true then b=false∧O done x i else Ends (done++[x]) r b i
variable{I stop O}
theorem Ends.all {done xs:List α} {i:ι} (h:Ends I stop O done xs true i):I (done++xs) i:=by
 induction xs generalizing done with
 |nil=>simpa using h.2
 |cons x r ih=>
  simp only[Ends]at h
  split at h
  ·exact absurd h.1 (by simp)
  ·have:=ih h;simpa using this
theorem Ends.Ib {done xs ys:List α} {i i':ι} {b:Bool} (h:Ends I stop O done xs true i) (h':Ends I stop O (done++xs) ys b i'):Ends I stop O done (xs++ys) b i':=by
 induction xs generalizing done with
 |nil=>simpa using h'
 | cons x r ih =>
  simp only[Ends,l5]at h⊢
  split at h
  ·exact absurd h.1 (by simp)
  ·rename_i hs
   rw[aq hs]
   exact ih h (by simpa using h')
theorem Ends.TS {done xs:List α} (ys:List α) {i:ι} (h:Ends I stop O done xs false i):Ends I stop O done (xs++ys) false i:=by
 induction xs generalizing done with
 |nil=>exact absurd h.1 (by simp)
 |cons x r ih=>
  simp only[Ends,l5]at h⊢
  split at h
  ·rename_i hs;rw[ak hs];exact h
  ·rename_i hs;rw[aq hs];exact ih h
theorem Ends.never {done xs:List α} {i:ι} {b:Bool} (hs:∀d x,stop d x=false) (h:Ends I stop O done xs b i):b=true∧I (done++xs) i:=by
 have:b=true:=by
  induction xs generalizing done with
  |nil=>exact h.1
  |cons x r ih=>
   simp only[Ends,hs]at h
   exact ih (by simpa using h)
 subst this
 exact⟨rfl,h.all⟩
theorem Ends.first {done xs:List α} {i:ι} (h:Ends I stop O done xs false i):∃pre x post,xs=pre++x::post∧O (done++pre) x i∧stop (done++pre) x=true∧∀p y q,pre=p++y::q→stop (done++p) y=false:=by
 induction xs generalizing done with
 |nil=>exact absurd h.1 (by simp)
 | cons x r ih =>
  simp only[Ends]at h
  split at h
  ·rename_i hs
   exact⟨[],x,r,rfl,by simpa using h.2,by simpa using hs,fun p y q e=>by simp at e⟩
  ·rename_i hs
   obtain⟨pre,y,post,e1,e2,e3,e4⟩:=ih h
   refine⟨x::pre,y,post,by simp[e1],by simpa using e2,by simpa using e3,fun p z q e=>?_⟩
   cases p with
   |nil=>
    simp only[kq,v7]at e
    rw[←e.1];simpa using hs
   |cons a p=>
    simp only[l5,v7]at e
    have:=e4 p z q e.2
    rw[e.1]at this;simpa using this
end
theorem Ends.map {α β ι κ:Type} {I:List α→ι→Prop} {stop:List α→α→Bool} {O:List α→α→ι→Prop} {mk:β→α} {f:κ→ι} {d0:List α} {I2:List β→κ→Prop} {abE:List β→β→Bool} {O2:List β→β→κ→Prop}
  (hI:∀dn j,I2 dn j→I (d0++dn.map mk) (f j)) (hs:∀dn g,abE dn g=stop (d0++dn.map mk) (mk g)) (hO:∀dn g j,O2 dn g j→O (d0++dn.map mk) (mk g) (f j)) {xs:List β} {b:Bool} {j:κ}:
  ∀{dn:List β},Ends I2 abE O2 dn xs b j→Ends I stop O (d0++dn.map mk) (xs.map mk) b (f j):=by
 induction xs with
 |nil=>intro dn h;exact⟨h.1,hI _ _ h.2⟩
 | cons x r ih =>
  intro dn h
  simp only[Ends,iH]at h⊢
  rw[hs]at h
  by_cases hc:stop (d0++dn.map mk) (mk x)=true
  ·rw[ak hc]at h⊢;exact⟨h.1,hO _ _ _ h.2⟩
  ·rw[aq hc]at h⊢
   have:=ih h
   simpa using this
section
variable{S:ae} {B:List Rec} {ls:List dq} {lp:dq} {l:Nat}
theorem aef (h:S.loops.length=l):busy l (up S B (lp::ls))=up S B ({lp with ready:=false}::ls):=by
 subst h
 have:∀(L:List dq) (f:dq→dq),(L++lp::ls).modify L.length f=L++f lp::ls:=by
  intro L f
  induction L with
  |nil=>rfl
  |cons a L ih=>simpa using ih
 simp only[busy,ek,up,this]
theorem aqW {e:cM} (h:S.loops.length=l):over l e (up S B (lp::ls))=up S B ({lp with ready:=false,eG:=some e}::ls):=by
 subst h
 have:∀(L:List dq) (f:dq→dq),(L++lp::ls).modify L.length f=L++f lp::ls:=by
  intro L f
  induction L with
  |nil=>rfl
  |cons a L ih=>simpa using ih
 simp only[over,ek,up,this]
theorem aaX (hs:Ok S) (h:S.loops.length=l) (hr:lp.ready=true) (hp:lp.eG=none):l7 l lp (up S B (lp::ls)):=by
 subst h
 exact⟨by simp[up],hr,hp,hs.bt⟩
end
structure Hand {α ι:Type} (AP:FuncId→Option aJ) (L:Nat) (V:α→AV) (base:ι→ae) (I:List α→ι→Prop) (stop:List α→α→Bool) (O:List α→α→ι→Prop) (X:α→Prop) (N NL M:Nat):Prop where
 ok:∀i,Ok (base i)
 len:∀i,(base i).ag.length=N
 jX:∀i,(base i).loops.length=NL
 go:∀done x i B ls,done.length<M→I done i→X x→stop done x=false→∃i',au AP (.yield L) [V x] (up (base i) B ls)=some (.v (.bool true),up (base i') B ls)∧I (done++[x]) i'
 st:∀done x i B ls,done.length<M→I done i→X x→stop done x=true→∃i',au AP (.yield L) [V x] (up (base i) B ls)=some (.v (.bool false),up (base i') B ls)∧O done x i'
section
variable{α ι:Type} {AP:FuncId→Option aJ} {L:Nat} {V:α→AV} {base:ι→ae} {I:List α→ι→Prop} {stop:List α→α→Bool} {O:List α→α→ι→Prop} {X:α→Prop} {N NL M:Nat}
theorem Hand.one (h:Hand AP L V base I stop O X N NL M) {done:List α} {x:α} {i:ι} {B:List Rec} {ls:List dq} (hm:done.length<M) (hi:I done i) (hx:X x) (r:Rec):
  ∃b i',au AP (.yield L) [V x] ((up (base i) B ls).push r)=some (.v (.bool b),(up (base i') B ls).push r)∧Ends I stop O done [x] b i':=by
 rw[LQ]
 cases hs:stop done x with
 |false=>
  obtain⟨i',h1,h2⟩:=h.go done x i (B++[r]) ls hm hi hx hs
  exact⟨true,i',by rw[h1,LQ],by simp[Ends,hs,h2]⟩
 |true=>
  obtain⟨i',h1,h2⟩:=h.st done x i (B++[r]) ls hm hi hx hs
  exact⟨false,i',by rw[h1,LQ],by simp[Ends,hs,h2]⟩
end
structure gu (X:Rec→ae) (d:Nat):Prop where
 get:∀r,(X r).ag[d]? =some r
 on:∀r f,(X r).bu d f=X (f r)
 ro:∀r,(X r).ro≤d
theorem Ro {s:ae} {l:Nat} {lp:dq} {B:List Rec} {ls:List dq} (hs:Ok s):gu (fun r=>up (busy l (enterLoop (s.push r) lp)) B ls) s.ag.length:=by
 refine⟨fun r=>?_,fun r f=>?_,fun r=>hs.ro⟩
 ·simp[up,busy,ek,enterLoop,ae.push]
 ·have:((s.ag++[r])++B).modify s.ag.length f=(s.ag++[f r])++B:=by
   rw[Ha (by simp)]
   congr 1
   exact(gS ae.ag (zX s r f):_)
  simp only[ae.bu,up,busy,ek,enterLoop,ae.push,this]
section
variable{X:Rec→ae} {d:Nat} {r r0:Rec}
theorem gu.lt (h:gu X d) (r:Rec):d<(X r).ag.length:=(bd.1 (h.get r)).1
theorem gu.Hc (h:gu X d) (f:Rec→Rec):((X r).push r0).bu d f=(X (f r)).push r0:=by
 rw[←h.on r f]
 simp only[ae.bu,ae.push,Ha (h.lt r)]
theorem gu.box (h:gu X d) {b:Nat}:((X r).push r0).box d b=r.boxes[b]? :=by
 have:=h.lt r
 simp only[ae.box,ae.push]
 rw[dM this,h.get r];rfl
theorem gu.tok (h:gu X d) {g:Nat}:((X r).push r0).tok d g=(r.toks[g]?).join:=by
 have:=h.lt r
 simp only[ae.tok,ae.push]
 rw[dM this,h.get r];rfl
theorem gu.jZ (h:gu X d):((X r).push r0).jZ d=r.toks.length:=by
 have:=h.lt r
 simp only[ae.jZ,ae.push]
 rw[dM this,h.get r]
theorem gu.dL (h:gu X d) {b:Nat} {cs:List AV}:((X r).push r0).dL d b cs=(X ⟨r.boxes.set b cs,r.toks⟩).push r0:=h.Hc _
theorem gu.mJ (h:gu X d) {g:Nat} {n:Option Nat}:((X r).push r0).mJ d g n=(X ⟨r.boxes,r.toks.set g n⟩).push r0:=h.Hc _
theorem gu.lA (h:gu X d) {n:Nat}:((X r).push r0).lA d n=(X ⟨r.boxes,r.toks++[some n]⟩).push r0:=h.Hc _
theorem JU {m:ae} {d:Nat}:∀{cs:List AV},(cs.all AV.isClosed=true)→m.fitAll d cs=some (cs,m)
 |[],_=>rfl
 | x :: r, h => by
  simp only[vZ,dB]at h
  have hx:m.fit d x=some (x,m):=by
   cases x with
   |slice o es xs=>
    cases o with
    |tok=>simp[AV.isClosed,AV.iU]at h
    |_=>simp[ae.fit,AV.close,AV.isClosed,AV.iU]
   |ptr=>simp[AV.isClosed,AV.iU]at h
   |aO=>simp[AV.isClosed,AV.iU]at h
   |_=>simp only[ae.fit,AV.close,h.1,bP,dE]
  simp only[ae.fitAll,hx,JU h.2]
theorem gu.store (h:gu X d) {b off n:Nat} {y:AV} (hc:y.cells.all AV.isClosed=true) (hn:kT n y.cells=true) {row aa3:List AV} (hb:r.boxes[b]? =some row) (ho:mD row off y.cells=some aa3):
  ((X r).push r0).store n (.ptr d b off) y=some ((X ⟨r.boxes.set b aa3,r.toks⟩).push r0):=by
 have aC:=h.lt r
 have hY:((X r).push r0).cur=(X r).ag.length:=fP _ _
 have bq:((X r).push r0).ro≤d:=h.ro r
 obtain⟨h1,h2⟩:=qQ.1 hn
 have aD:¬d=(X r).ag.length:=by omega
 rw[vP]at ho
 by_cases hl:off+y.cells.length≤row.length
 ·rw[ak hl]at ho
  injection ho with ho
  subst ho
  have hle:off+n≤row.length:=by omega
  simp only[ae.store,bq,h1,h2,nx,bP,hY,aD,db,JU hc,h.box,hb,hle,h.dL]
 ·rw[aq hl]at ho;cases ho
theorem gu.append (h:gu X d) {es b:Nat} {xs:List (List AV)} {x:AV} {og:Option Nat} (ha:Acc d es xs x og r.toks) (o:Own) {ys:List (List AV)} (hy:ys≠[]) (hl:xs.length+ys.length≤4294967296) (hb:b<r.boxes.length) (cm:∃c,r.boxes[b]? =some [c]):
  ∃x1 m1 r0' x' gC tk',eI ((X r).push r0) es x (.slice o es ys)=some (x1,m1)∧m1.store 1 (.ptr d b 0) x1=some ((X ⟨r.boxes.set b [x'],tk'⟩).push r0')∧r0'.boxes=r0.boxes∧Acc d es (xs++ys) x' gC tk'∧gC≠none∧
   (∀oW pM x2 eY,Acc d oW pM x2 eY r.toks→(eY≠og∨eY=none)→Acc d oW pM x2 eY tk'∧eY≠gC):=by
 have aC:=h.lt r
 have hY:∀q,((X r).push q).cur=(X r).ag.length:=fun q=>fP _ _
 have bq:∀q,((X r).push q).ro≤d:=fun q=>h.ro r
 have aD:¬d=(X r).ag.length:=by omega
 have P8:¬(X r).ag.length≤d:=by omega
 obtain⟨c,cm⟩:=cm
 have sH:ys.isEmpty=false:=by cases ys<;>simp_all
 cases og with
 | none =>
  obtain⟨rfl,rfl⟩:=ha
  have re:ys.length≤4294967296:=by simpa using hl
  refine⟨.slice (.tok (X r).ag.length r0.toks.length) es ys,(X r).push ⟨r0.boxes,r0.toks++[some ys.length]⟩,⟨r0.boxes,(r0.toks++[some ys.length]).set r0.toks.length none⟩,.slice (.tok d r.toks.length) es ys,some r.toks.length,r.toks++[some ys.length],?_,?_,rfl,⟨by simpa using hy,rfl,by simp⟩,by simp,?_⟩
  ·simp[eI,sH,Own.isNil,most,re,hY,qu,oS]
  ·have bz:(AV.slice (.tok (X r).ag.length r0.toks.length) es ys).cells=[.slice (.tok (X r).ag.length r0.toks.length) es ys]:=rfl
   have zC:((X r).push ⟨r0.boxes,r0.toks++[some ys.length]⟩).tok (X r).ag.length r0.toks.length=some ys.length:=by rw[CB];simp
   have kW:((X r).push ⟨r0.boxes,r0.toks++[some ys.length]⟩).fitAll d [.slice (.tok (X r).ag.length r0.toks.length) es ys]=some ([.slice (.tok d r.toks.length) es ys],(X ⟨r.boxes,r.toks++[some ys.length]⟩).push ⟨r0.boxes,(r0.toks++[some ys.length]).set r0.toks.length none⟩):=by
    simp only[ae.fitAll,ae.fit,P8,db,hY,zC,nx,bP,h.jZ,LD,h.lA]
   simp only[ae.store,bq,bz,eo,ja,vZ,CM,AV.bA,x6,nx,bP,hY,aD,db,kW,h.box,cm,h.dL,fN,aH,setCells,HR]
  ·intro oW pM x2 eY h2 _
   cases eY with
   |none=>exact⟨h2,by simp⟩
   |some g=>
    obtain⟨a,b,c⟩:=h2
    have:=(bd.1 c).1
    exact⟨⟨a,b,by rw[dM this];exact c⟩,by simp;omega⟩
 | some g =>
  obtain⟨hx,rfl,hg⟩:=ha
  refine⟨.slice (.tok d g) es (xs++ys),(X ⟨r.boxes,r.toks.set g (some (xs.length+ys.length))⟩).push r0,r0,.slice (.tok d g) es (xs++ys),some g,r.toks.set g (some (xs.length+ys.length)),?_,?_,rfl,⟨by simp[hx],rfl,?_⟩,by simp,?_⟩
  ·simp[eI,sH,most,hl,h.tok,hg,bq,h.mJ]
  ·have bz:(AV.slice (.tok d g) es (xs++ys)).cells=[.slice (.tok d g) es (xs++ys)]:=rfl
   have ai7:∀q tk,((X ⟨r.boxes,tk⟩).push q).cur=(X ⟨r.boxes,tk⟩).ag.length:=fun q tk=>fP _ _
   have aks:∀q tk,((X ⟨r.boxes,tk⟩).push q).ro≤d:=fun q tk=>h.ro _
   have P7:∀tk,¬d=(X ⟨r.boxes,tk⟩).ag.length:=fun tk=>by have:=h.lt ⟨r.boxes,tk⟩;omega
   have kW:∀m:ae,m.fitAll d [.slice (.tok d g) es (xs++ys)]=some ([.slice (.tok d g) es (xs++ys)],m):=fun m=>by
    simp only[ae.fitAll,ae.fit,aH,bP]
   simp only[ae.store,aks,bz,eo,ja,vZ,CM,AV.bA,x6,nx,bP,ai7,P7,db,kW,h.box,cm,h.dL,fN,aH,setCells,HR]
  ·rw[mL (bd.1 hg).1];simp
  ·intro oW pM x2 eY h2 aD
   cases eY with
   |none=>exact⟨h2,by simp⟩
   |some g2=>
    obtain⟨a,b,c⟩:=h2
    have aD:g2≠g:=by rcases aD with h|h<;>simp_all
    exact⟨⟨a,b,by rw[eP (fun e=>aD e.symm)];exact c⟩,by simpa using aD⟩
end
end Go.Ax.Sx
/-
  Lists whose elements may be written to, each in a box of some activation; calls in the caller's own activation.
-/
namespace Go.Ax.Sx
section
variable{call:aZ} {ρ:Nat→AV} {m:ae}
theorem aqa {es:Nat} {x y h:aF}:aN call (aE ρ) m (.rU es x y h)=qI m es (aE ρ x) (aE ρ y) (aE ρ h):=.trans rfl rfl
theorem aqO {es:Nat} {x:aF}:aN call (aE ρ) m (.sV es x)=rH m es (aE ρ x):=.trans rfl rfl
theorem aqo {zs:List AV} {x:aF}:aN call (aE ρ) m (.clear zs x)=wT m zs (aE ρ x):=.trans rfl rfl
theorem aqi {f:FuncId} {as:List aF}:aN call (aE ρ) m (.tu f as)=l9 call m f (as.map (aE ρ)):=.trans rfl rfl
theorem aqm {f:FuncId} {as:List aF} {ws:List (Bool×Nat×Nat)}:aN call (aE ρ) m (.qK f as ws)=oT call m (.fn f) (as.map (aE ρ)) (ws.map fun q=>(q.1,q.2.1,ρ q.2.2)):=.trans rfl rfl
end
attribute [go_sem ↓] aqa aqO aqo aqi aqm
theorem aep {AP:FuncId→Option aJ} {f:FuncId} {np nt:Nat} {b:aw} {rs:List iF} {own:Bool} (hf:AP f=some (.code np nt b rs own)) {as:List AV} {m:ae} (hl:as.length=np) (hm:m.ro<m.ag.length):
  au AP (.inl f) as m=go AP (fun e st=>match e with|.exit _=>none|_=>(ug st rs).map fun l=>(packed l,st.sig)) [.c b] ⟨jQ as,m⟩:=by
 rw[aeq hf,ak ⟨hl,hm⟩]
 simp only[go,jg]
 cases h:fM AP b ⟨jQ as,m⟩with
 |none=>rfl
 |some p=>obtain⟨e,aQ⟩:=p;cases e<;>rfl
section
variable{s:ae} {bs:List (List AV)} {tk:List (Option Nat)} {cs:List AV} {b:Nat}
theorem aso:(s.push ⟨bs,tk⟩).sQ s.ag.length b cs=s.push ⟨bs.set b []++[cs],tk++[none]⟩:=by rw[ae.sQ,zX]
theorem R6 {es:Nat} (h:kT es cs=true) (h0:0<es):rH (s.push ⟨bs,tk⟩) es (.agg cs)=some (.aO s.ag.length bs.length 0 es 1 1,s.push ⟨bs++[cs],tk⟩):=by
 obtain⟨h1,h2⟩:=qQ.1 h
 simp only[rH,AV.cells,h1,h2,h0,nx,bP,fP,xS,ae.dK,C2]
def GX (d es:Nat) (row:List AV) (n:Nat) (x:AV) (bs:List (List AV)):Prop:=
 (n=0∧row=[]∧x=.slice .aA 0 [])∨(0<n∧∃b,bs[b]? =some row∧x=.aO d b 0 es n 0)
def S1 (d:Nat) (x:AV) (bs gv:List (List AV)):Prop:=bs.length<gv.length∧∀j,j<bs.length→(∀es n,x≠.aO d j 0 es n 0)→gv[j]? =bs[j]?
theorem GX.len {d es n:Nat} {row:List AV} {x:AV} (h:GX d es row n x bs):ld false x=some (.v (.int .i64 (n:Int))):=by
 obtain⟨rfl,rfl,rfl⟩|⟨_,b,_,rfl⟩:=h<;>rfl
theorem GX.cell {d es n:Nat} {row:List AV} {x:AV} (h:GX d es row n x bs):x.bA=true:=by
 obtain⟨rfl,rfl,rfl⟩|⟨_,b,_,rfl⟩:=h<;>rfl
theorem GX.cells {d es n:Nat} {row:List AV} {x:AV} (h:GX d es row n x bs):x.cells=[x]:=by
 obtain⟨rfl,rfl,rfl⟩|⟨_,b,_,rfl⟩:=h<;>rfl
theorem uT {r:List (List AV)} {j:Nat} {c:List AV} (h:bs[j]? =some c):(bs++r)[j]? =some c:=by
 rw[dM (bd.1 h).1];exact h
theorem ac6 {es n b0 c p q:Nat} {row r2:List AV} {x:AV} (hs:Ok s) (h:GX s.ag.length es row n x bs) (hb:bs[b0]? =some r2) (h2:r2.length=es) (hl:row.length=n*es) (hm:n+1≤4294967296):
  ∃x' gv tk',qI (s.push ⟨bs,tk⟩) es x (.aO s.ag.length b0 0 es 1 c) (.ptr s.ag.length p q)=some (x',s.push ⟨gv,tk'⟩)∧GX s.ag.length es (row++r2) (n+1) x' gv∧S1 s.ag.length x bs gv∧
   ∃b',gv[b']? =some (row++r2)∧x'=.aO s.ag.length b' 0 es (n+1) 0∧bs.length≤b':=by
 have bq:(s.push ⟨bs,tk⟩).ro≤s.ag.length:=hs.ro
 have GC:(s.push ⟨bs,tk⟩).Af es (.aO s.ag.length b0 0 es 1 c)=some (r2,1):=by
  simp only[ae.Af,fP,nx,bP,iK,hb,et,fN,rQ,h2,aH,ko]
  rw[Tp (by omega)]
 obtain⟨rfl,rfl,rfl⟩|⟨hn,b,eK,rfl⟩:=h
 ·refine⟨.aO s.ag.length bs.length 0 es 1 0,bs++[r2],tk,?_,.inr ⟨by omega,bs.length,?_,rfl⟩,⟨by simp,fun j hj _=>dM hj⟩,bs.length,?_,rfl,aH _⟩
  ·have zo:(1:Nat)≤most:=by decide
   simp only[qI,GC,et,Mr,db,bq,fP,aH,true_or,nx,bP,HK,Own.isNil,zo,xS,C2]
  ·simp
  ·simp
 ·have zo:n+1≤most:=hm
  refine⟨.aO s.ag.length bs.length 0 es (n+1) 0,bs.set b []++[row++r2],tk++[none],?_,.inr ⟨by omega,bs.length,?_,rfl⟩,⟨by simp,fun j hj aD=>?_⟩,bs.length,?_,rfl,aH _⟩
  ·simp only[qI,GC,et,Mr,db,bq,fP,aH,true_or,nx,bP,hn,zo,iK,eK,hl,xS,aso]
  ·rw[gO (by simp)];simp
  ·rw[dM (by simpa using hj),eP (fun e=>aD es n (by rw[e]))]
  ·rw[gO (by simp)];simp
end
section
variable{X:Rec→ae} {d:Nat} {r r0:Rec}
theorem gu.rU (h:gu X d) {es n b0 c p q:Nat} {row r2:List AV} {x:AV} (hg:GX d es row n x r.boxes) (hb:r0.boxes[b0]? =some r2) (h2:r2.length=es) (aP:r2.all AV.iU=true) (hl:row.length=n*es) (hm:n+1≤4294967296):
  ∃x' gv tk',qI ((X r).push r0) es x (.aO (X r).ag.length b0 0 es 1 c) (.ptr d p q)=some (x',(X ⟨gv,tk'⟩).push r0)∧GX d es (row++r2) (n+1) x' gv∧S1 d x r.boxes gv∧∃b',x'=.aO d b' 0 es (n+1) 0∧r.boxes.length≤b':=by
 have aC:=h.lt r
 have hY:((X r).push r0).cur=(X r).ag.length:=fP _ _
 have bq:((X r).push r0).ro≤d:=h.ro r
 have hle:d≤(X r).ag.length:=by omega
 have oI:((X r).push r0).bQ d=r.boxes.length:=by
  simp only[ae.bQ,ae.push]
  rw[dM aC,h.get r]
 have GC:((X r).push r0).Af es (.aO (X r).ag.length b0 0 es 1 c)=some (r2,1):=by
  simp only[ae.Af,hY,nx,bP,iK,hb,et,fN,rQ,h2,aH,ko]
  rw[Tp (by omega)]
 obtain⟨rfl,rfl,rfl⟩|⟨hn,b,eK,rfl⟩:=hg
 ·have fE:((X r).push r0).jw d r2=(X ⟨r.boxes++[r2],r.toks⟩).push r0:=h.Hc _
  refine⟨.aO d r.boxes.length 0 es 1 0,r.boxes++[r2],r.toks,?_,.inr ⟨by omega,r.boxes.length,by simp,rfl⟩,⟨by simp,fun j hj _=>dM hj⟩,_,rfl,aH _⟩
  have zo:(1:Nat)≤most:=by decide
  simp only[qI,GC,et,Mr,db,bq,hY,hle,aP,Lf,nx,bP,HK,Own.isNil,true_or,zo,oI,fE]
 ·have zo:n+1≤most:=hm
  have dw:((X r).push r0).box d b=some row:=by rw[h.box,eK]
  have hrg:((X r).push r0).sQ d b (row++r2)=(X ⟨r.boxes.set b []++[row++r2],r.toks++[none]⟩).push r0:=h.Hc _
  refine⟨.aO d r.boxes.length 0 es (n+1) 0,r.boxes.set b []++[row++r2],r.toks++[none],?_,.inr ⟨by omega,r.boxes.length,?_,rfl⟩,⟨by simp,fun j hj aD=>?_⟩,_,rfl,aH _⟩
  ·simp only[qI,GC,et,Mr,db,bq,hY,hle,aP,Lf,nx,bP,hn,zo,dw,hl,oI,hrg]
  ·rw[gO (by simp)];simp
  ·rw[dM (by simpa using hj),eP (fun e=>aD es n (by rw[e]))]
theorem gu.atF (h:gu X d) {b:Nat} {y:AV} {es n:Nat} (hy:∃b',y=.aO d b' 0 es n 0) {c:AV} (hb:r.boxes[b]? =some [c]):
  ((X r).push r0).store 1 (.ptr d b 0) y=some ((X ⟨r.boxes.set b [y],r.toks⟩).push r0):=by
 obtain⟨b',rfl⟩:=hy
 have aC:=h.lt r
 have hY:((X r).push r0).cur=(X r).ag.length:=fP _ _
 have bq:((X r).push r0).ro≤d:=h.ro r
 have aD:¬d=(X r).ag.length:=by omega
 simp only[ae.store,bq,AV.cells,eo,ja,fN,vZ,CM,AV.bA,x6,nx,bP,hY,aD,db,ae.fitAll,ae.fit,aH,h.box,hb,h.dL,setCells,HR]
end
section
variable{AP:FuncId→Option aJ} {s:ae} {bs:List (List AV)} {tk:List (Option Nat)} {f:FuncId} {args:List AV}
theorem aqX {Q:ae} {bx:List (List AV)} {tk:List (Option Nat)} {r:Rec} {b es n:Nat} {cs:List AV} (hQ:Ok Q) (hb:r.boxes[b]? =some cs) (hn:0<n) (hl:cs.length=n*es) (aD:cs≠[]) (hc:closeAll cs=some cs):
  kI ((Q.push ⟨bx,tk⟩).push r) (.aO (Q.push ⟨bx,tk⟩).ag.length b 0 es n 0)=some (.aO Q.ag.length bx.length 0 es n 0,Q.push ⟨bx++[cs],tk⟩):=by
 have hd:(Q.push ⟨bx,tk⟩).ag.length=Q.ag.length+1:=by simp[ae.push]
 have bq:((Q.push ⟨bx,tk⟩).push r).ro<(Q.push ⟨bx,tk⟩).ag.length:=by
  have:=hQ.ro;rw[hd];show Q.ro<_;omega
 have he:cs.isEmpty=false:=by cases cs<;>simp_all
 have h1:1≤(Q.push ⟨bx,tk⟩).ag.length:=by omega
 simp only[kI,fP,LM]
 rw[ak (by first|exact⟨h1,bq,hn⟩|exact⟨h1,bq,trivial,trivial,hn⟩),iK,hb,et,ak ⟨he,hl⟩,hc]
 simp only[dE,pop_push,hd,HV]
 have e1:((Q.push ⟨bx,tk⟩).push r).bQ Q.ag.length=bx.length:=by
  have:((Q.push ⟨bx,tk⟩).push r).ag[Q.ag.length]? =some ⟨bx,tk⟩:=by
   show((Q.ag++[_])++[_])[_]? =_
   rw[dM (by simp)];simp
  simp only[ae.bQ,this]
 rw[e1,C2]
theorem aeA {es n:Nat} {cs:List AV} (hm:(s.push ⟨bs,tk⟩).ro<(s.push ⟨bs,tk⟩).ag.length)
  (h:au AP (.fn f) args ((dt (s.push ⟨bs,tk⟩)).push ⟨[],[]⟩)=some (.aO (s.push ⟨bs,tk⟩).ag.length 0 0 es n 0,(dt (s.push ⟨bs,tk⟩)).push ⟨[cs],[]⟩)) (hn:0<n) (hl:cs.length=n*es) (aD:cs≠[]) (hc:closeAll cs=some cs):
  l9 (au AP) (s.push ⟨bs,tk⟩) f args=some (.aO s.ag.length bs.length 0 es n 0,s.push ⟨bs++[cs],tk⟩):=by
 have he:cs.isEmpty=false:=by cases cs<;>simp_all
 have h:au AP (.fn f) args {(s.push ⟨bs,tk⟩).push ⟨[],[]⟩with ro:=(s.push ⟨bs,tk⟩).ag.length,bt:=(s.push ⟨bs,tk⟩).loops.length}=some (.aO (s.push ⟨bs,tk⟩).ag.length 0 0 es n 0,(dt (s.push ⟨bs,tk⟩)).push ⟨[cs],[]⟩):=h
 have hb:((dt (s.push ⟨bs,tk⟩)).push ⟨[cs],[]⟩).box (s.push ⟨bs,tk⟩).ag.length 0=some cs:=iK (dt (s.push ⟨bs,tk⟩)) ⟨[cs],[]⟩ 0
 unfold l9
 rw[h]
 simp only
 rw[ak ⟨trivial,by omega,hm,trivial,trivial,hn⟩,hb,et,ak ⟨he,hl⟩,hc]
 simp only[dE,fP,xS,ae.dK,C2]
theorem aez (h:au AP (.fn f) args ((dt s).push ⟨[],[]⟩)=some (.slice .aA 0 [],(dt s).push ⟨[],[]⟩)):l9 (au AP) s f args=some (.slice .aA 0 [],s):=by
 have h:au AP (.fn f) args {s.push ⟨[],[]⟩with ro:=s.ag.length,bt:=s.loops.length}=some (.slice .aA 0 [],(dt s).push ⟨[],[]⟩):=h
 unfold l9
 rw[h]
 rfl
theorem Vr {m m':ae} {t:Target} {v:AV} {ws:List (Bool×Nat×AV)} (h:au AP t args m=some (v,m')) (hw:∀q∈ws,m'.load q.1 q.2.1 q.2.2=m.load q.1 q.2.1 q.2.2):oT (au AP) m t args ws=some (v,m'):=Fp.2 ⟨h,hw⟩
end
theorem Fv {es:Nat}:∀{xs:List (List AV)},(∀r∈xs,r.length=es)→chunks es xs.length xs.flatten=xs
 |[],_=>rfl
 |r::t,h=>by
  have hr:=h r (by simp)
  simp only[eo,chunks,s8]
  rw[To (by omega),Tp (by omega),S6 (by omega),Al (by omega),kq]
  rw[Fv fun q hq=>h q (iI _ hq)]
theorem Wb {m:ae}:∀{cs c:List AV},closeAll cs=some c→j8 m cs=some c
 |[],c,h=>h
 | x :: r, c, h => by
  simp only[closeAll]at h
  split at h
  ·rename_i y t e1 e2
   have hx:ou m x=some y:=by
    cases x<;>first|exact e1|(simp[AV.close,AV.isClosed,AV.iU]at e1;done)
   simp only[j8,hx,Wb e2]
   exact h
  ·cases h
theorem aak {m:ae} {cs:List AV}:(closeAll cs).or (j8 m cs)=j8 m cs:=by
 cases h:closeAll cs with
 |none=>rfl
 |some c=>rw[Wb h];rfl
theorem Ow {m:ae}:∀{a b x y:List AV},j8 m a=some x→j8 m b=some y→j8 m (a++b)=some (x++y)
 |[],b,x,y,h1,h2=>by
  simp only[j8]at h1
  injection h1 with h1
  subst h1
  exact h2
 | c :: a, b, x, y, h1, h2 => by
  simp only[j8]at h1
  split at h1
  ·rename_i z t e1 e2
   injection h1 with h1
   subst h1
   simp only[l5,j8,e1,Ow e2 h2]
  ·cases h1
end Go.Ax.Sx
