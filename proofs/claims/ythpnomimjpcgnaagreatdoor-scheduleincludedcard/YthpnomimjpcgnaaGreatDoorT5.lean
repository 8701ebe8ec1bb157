/-
  The executor without its bound: what it gives with some bound. Equations to compute with.
-/
import Derived.Test.YthpnomimjpcgnaaGreatDoorT1
import Derived.Test.YthpnomimjpcgnaaGreatDoorT4
import Derived.Deep.Slices
import Derived.OpenShut
import Derived.SizedLaws
import Derived.Attr
set_option linter.unusedSimpArgs false
set_option linter.unusedVariables false
set_option maxRecDepth 100000
namespace Go.Ax
def kH (c c':aW):Prop:=∀t a s r,c t a s=some r→c' t a s=some r
theorem kH.refl (c:aW):kH c c:=fun _ _ _ _ h=>h
theorem kH.trans {a b c:aW} (h:kH a b) (k:kH b c):kH a c:=fun t x s r e=>k t x s r (h t x s r e)
theorem wE {c c':aW} (h:kH c c') {ro:Bool} {m:ae} {t:Target} {as:List AV} {r:AV×ae} (e:dK c ro m t as=some r):dK c' ro m t as=some r:=by
 unfold dK at e⊢
 split
 ·rw[ak (by assumption)]at e
  obtain⟨p,hp,rfl⟩:=aS.1 e
  rw[h _ _ _ _ hp]
  rfl
 ·rw[aq (by assumption)]at e
  exact h _ _ _ _ e
theorem adH {c c':aW} (h:kH c c') {m:ae} {f:FuncId} {as:List AV} {r:AV×ae} (e:kL c m f as=some r):kL c' m f as=some r:=by
 unfold kL at e⊢
 cases hc:c (.fn f) as {m.push ⟨[],[]⟩with ro:=m.ag.length,bg:=m.loops.length}with
 |none=>rw[hc]at e;cases e
 |some p=>rw[hc]at e;rw[h _ _ _ _ hc];exact e
theorem adL {c c':aW} (h:kH c c') {ro:Bool} {m:ae} {x:AV} {as:List AV} {r:AV×ae} (e:lV c ro m x as=some r):lV c' ro m x as=some r:=by
 cases x<;>first
  |exact wE h e
  |(simp[lV]at e)
theorem Jl {c:aW} {ro:Bool} {m:ae} {zs:List (List AV)} {t:Target} {as:List AV} {r:AV×ae}:nw c ro m zs t as=some r↔
  dK c ro m t as=some r∧m.tail zs.length∈qz zs∧(∀bx,bx∈qz zs→dK c ro (m.jm zs.length bx) t as=some (r.1,r.2.jm zs.length bx))∧r.2.ag.length=m.ag.length∧r.2.bN m.cur=m.bN m.cur∧r.2.tail zs.length=m.tail zs.length∧(ro=true→r.2=m)∧(r.2.lJ m.cur=false→m.lJ m.cur=false):=by
 unfold nw
 constructor
 ·intro h
  split at h
  ·rename_i v m' e
   split at h
   ·rename_i hc
    injection h with h
    subst h
    exact⟨e,hc⟩
   ·cases h
  ·cases h
 ·rintro⟨h1,h2⟩
  rw[h1]
  simp only
  rw[ak h2]
theorem afY {c c':aW} (h:kH c c') {ro:Bool} {m:ae} {zs:List (List AV)} {t:Target} {as:List AV} {r:AV×ae} (e:nw c ro m zs t as=some r):nw c' ro m zs t as=some r:=by
 obtain⟨h1,h2,h3,h4⟩:=Jl.1 e
 exact Jl.2 ⟨wE h h1,h2,fun bx hb=>wE h (h3 bx hb),h4⟩
theorem adA {c c':aW} (h:kH c c') {m:ae} {f:FuncId} {as:List AV} {r:AV×ae} (e:lU c m f as=some r):lU c' m f as=some r:=by
 unfold lU at e⊢
 cases hc:c (.fn f) as {m.push ⟨[],[]⟩with ro:=m.ag.length,bg:=m.loops.length}with
 |none=>rw[hc]at e;cases e
 |some p=>rw[hc]at e;rw[h _ _ _ _ hc];exact e
theorem E6 {c:aW} {m:ae} {t:Target} {as:List AV} {ws:List (Bool×Nat×AV)} {r:AV×ae}:oP c m t as ws=some r↔c t as m=some r∧∀q,q∈ws→r.2.load q.1 q.2.1 q.2.2=m.load q.1 q.2.1 q.2.2:=by
 unfold oP
 constructor
 ·intro h
  split at h
  ·rename_i v m' e
   split at h
   ·rename_i hc
    injection h with h
    subst h
    exact⟨e,hc⟩
   ·cases h
  ·cases h
 ·rintro⟨h1,h2⟩
  rw[h1]
  simp only
  rw[ak h2]
theorem adK {c c':aW} (h:kH c c') {m:ae} {t:Target} {as:List AV} {ws:List (Bool×Nat×AV)} {r:AV×ae} (e:oP c m t as ws=some r):oP c' m t as ws=some r:=by
 obtain⟨h1,h2⟩:=E6.1 e
 exact E6.2 ⟨h _ _ _ _ h1,h2⟩
theorem Y3 {c c':aW} (h:kH c c') {ρ:aF→AV} {m:ae} {op:cj} {r:AV×ae} (e:aM c ρ m op=some r):aM c' ρ m op=some r:=by
 cases op<;>first
  |exact e
  |exact wE h e
  |exact adL h e
  |exact adH h e
  |exact afY h e
  |exact adA h e
  |exact adK h e
theorem GH {c c':aW} (h:kH c c'):∀{l:List bA} {st r:St},ops c l st=some r→ops c' l st=some r
 |[],st,r,e=>e
 | o :: l, st, r, e => by
  unfold ops at e⊢
  split
  ·rename_i hw
   rw[ak hw]at e
   split at e
   ·rename_i x m hv
    rw[Y3 h hv]
    exact GH h e
   ·cases e
  ·rename_i hw
   rw[aq hw]at e
   exact GH h e
theorem Kz {f g:St→Option (c8×St)} (h:∀st r,f st=some r→g st=some r):∀{n m:Nat} {st:St} {r:c8×St},n≤m→lI f n st=some r→lI g m st=some r
 |0,_,_,_,_,e=>by simp[lI]at e
 |n+1,0,_,_,hn,_=>by omega
 | n + 1, m + 1, st, r, hn, e => by
  simp only[lI]at e⊢
  split at e
  ·rename_i de h1
   rw[h _ _ h1]
   exact Kz h (by omega) e
  ·rename_i aB
   rw[h _ _ e]
   split
   ·rename_i de heq
    exact absurd (e.trans heq) (aB _)
   ·rfl
theorem wG {c c':aW} (h:kH c c') {n m:Nat} (hn:n≤m):∀{a:au} {st:St} {r:c8×St},exec c n a st=some r→exec c' m a st=some r:=by
 intro a
 induction a with
 |skip=>intro st r e;exact e
 |exit=>intro st r e;exact e
 |ret=>intro st r e;exact e
 |region d l=>
  intro st r e
  simp only[exec]at e⊢
  obtain⟨p,hp,rfl⟩:=aS.1 e
  rw[GH h hp]
  rfl
 | seq a b vh zk =>
  intro st r e
  simp only[exec]at e⊢
  split at e
  ·rename_i de h1
   rw[vh h1]
   exact zk e
  ·rename_i aB
   rw[vh e]
   split
   ·rename_i de heq
    exact absurd (e.trans heq) (aB _)
   ·rfl
 | cond x a b vh zk =>
  intro st r e
  simp only[exec]at e⊢
  split
  ·rename_i t hx
   rw[hx]at e
   simp only at e
   split
   ·rw[ak (by assumption)]at e;exact vh e
   ·rw[aq (by assumption)]at e;exact zk e
  ·rename_i hx
   split at e
   ·rename_i t ht
    exact absurd ht (hx _)
   ·cases e
 | block id a ih =>
  intro st r e
  simp only[exec]at e⊢
  split at e
  ·rename_i j de h1
   rw[ih h1]
   exact e
  ·rename_i aB
   rw[ih e]
   split
   ·rename_i j de heq
    exact absurd (e.trans heq) (aB _ _)
   ·rfl
 |loop a ih=>
  intro st r e
  simp only[exec]at e⊢
  exact Kz (fun st r=>ih) hn e
 | rangeFunc f ps a b _ _ =>
  intro st r e
  simp only[exec]at e⊢
  split
  ·rename_i g first caps hf
   rw[hf]at e
   simp only at e
   split at e
   ·rename_i x s hc
    rw[h _ _ _ _ hc]
    exact e
   ·cases e
  ·rename_i hf
   split at e
   ·rename_i g first caps hg
    exact absurd hg (hf _ _ _)
   ·cases e
theorem adx {AP:FuncId→Option aI} {c c':aW} (h:kH c c') {n m:Nat} (hn:n≤m):kH (ja AP c n) (ja AP c' m):=by
 intro t as s r e
 unfold ja at e⊢
 cases t with
 | fn f =>
  simp only at e⊢
  split at e
  ·split at e
   ·rename_i hlen
    rw[ak hlen]
    split at e
    ·rename_i st he;rw[wG h hn he];exact e
    ·rename_i st he;rw[wG h hn he];exact e
    ·cases e
   ·cases e
  ·exact e
  ·cases e
 | inl f =>
  simp only at e⊢
  split at e
  ·split at e
   ·rename_i hlen
    rw[ak hlen]
    split at e
    ·rename_i st he;rw[wG h hn he];exact e
    ·rename_i st he;rw[wG h hn he];exact e
    ·cases e
   ·cases e
  ·cases e
 |nat f=>exact e
 | yield l =>
  simp only at e⊢
  split at e
  ·rename_i lp sg
   split at e
   ·rename_i bn
    rw[ak bn]
    split at e
    ·rename_i st he
     rw[wG h hn he]
     simp only
     split at e
     ·rename_i hr
      rw[ak hr]
      split at e
      ·rename_i aO hb
       rw[wG h hn hb]
       exact e
      ·rename_i ex aO aB hb
       rw[wG h hn hb]
       simp only
       exact e
      ·cases e
     ·cases e
    ·cases e
   ·cases e
  ·cases e
theorem Uk {AP:FuncId→Option aI}:∀n,kH (eV AP n) (eV AP (n+1))
 |0=>fun _ _ _ _ e=>by simp[eV]at e
 |n+1=>adx (Uk n) (sY n)
theorem uB {AP:FuncId→Option aI} {n m:Nat} (h:n≤m):kH (eV AP n) (eV AP m):=by
 induction h with
 |refl=>exact .refl _
 |step _ ih=>exact ih.trans (Uk _)
section
variable(AP:FuncId→Option aI)
open Classical in
noncomputable def aw:aW:=fun t as s=>if h:∃r n,eV AP n t as s=some r then some h.choose else none
open Classical in
noncomputable def fJ (c:au) (st:St):Option (c8×St):=if h:∃r n,exec (eV AP n) n c st=some r then some h.choose else none
variable{AP}
theorem rL {t:Target} {as:List AV} {s:ae} {r:AV×ae}:aw AP t as s=some r↔∃n,eV AP n t as s=some r:=by
 unfold aw
 constructor
 ·intro h
  split at h
  ·rename_i hex
   injection h with h
   rw[←h]
   exact hex.choose_spec
  ·cases h
 ·intro⟨n,hn⟩
  have hex:∃r n,eV AP n t as s=some r:=⟨r,n,hn⟩
  rw[Jf hex]
  obtain⟨m,hm⟩:=hex.choose_spec
  have h1:=uB (Cu n m) _ _ _ _ hn
  have h2:=uB (Hz n m) _ _ _ _ hm
  rw[h1]at h2
  exact h2.symm
theorem uG {n m:Nat} (h:n≤m) {c:au} {st:St} {r:c8×St} (e:exec (eV AP n) n c st=some r):exec (eV AP m) m c st=some r:=wG (uB h) h e
theorem jY {c:au} {st:St} {r:c8×St}:fJ AP c st=some r↔∃n,exec (eV AP n) n c st=some r:=by
 unfold fJ
 constructor
 ·intro h
  split at h
  ·rename_i hex
   injection h with h
   rw[←h]
   exact hex.choose_spec
  ·cases h
 ·intro⟨n,hn⟩
  have hex:∃r n,exec (eV AP n) n c st=some r:=⟨r,n,hn⟩
  rw[Jf hex]
  obtain⟨m,hm⟩:=hex.choose_spec
  have h1:=uG (Cu n m) hn
  have h2:=uG (Hz n m) hm
  rw[h1]at h2
  exact h2.symm
theorem adu (n:Nat):kH (eV AP n) (aw AP):=fun _ _ _ _ e=>rL.2 ⟨n,e⟩
theorem Fg {ro:Bool} {m:ae} {t:Target} {as:List AV} {r:AV×ae} (e:dK (aw AP) ro m t as=some r):∃n,dK (eV AP n) ro m t as=some r:=by
 unfold dK at e⊢
 split at e
 ·obtain⟨p,hp,rfl⟩:=aS.1 e
  obtain⟨n,hn⟩:=rL.1 hp
  exact⟨n,by rw[ak (by assumption),hn];rfl⟩
 ·obtain⟨n,hn⟩:=rL.1 e
  exact⟨n,by rw[aq (by assumption),hn]⟩
theorem adG {m:ae} {f:FuncId} {as:List AV} {r:AV×ae} (e:kL (aw AP) m f as=some r):∃n,kL (eV AP n) m f as=some r:=by
 unfold kL at e⊢
 cases hc:aw AP (.fn f) as {m.push ⟨[],[]⟩with ro:=m.ag.length,bg:=m.loops.length}with
 |none=>rw[hc]at e;cases e
 |some p=>
  rw[hc]at e
  obtain⟨n,hn⟩:=rL.1 hc
  exact⟨n,by rw[hn];exact e⟩
theorem adz {m:ae} {f:FuncId} {as:List AV} {r:AV×ae} (e:lU (aw AP) m f as=some r):∃n,lU (eV AP n) m f as=some r:=by
 unfold lU at e⊢
 cases hc:aw AP (.fn f) as {m.push ⟨[],[]⟩with ro:=m.ag.length,bg:=m.loops.length}with
 |none=>rw[hc]at e;cases e
 |some p=>
  rw[hc]at e
  obtain⟨n,hn⟩:=rL.1 hc
  exact⟨n,by rw[hn];exact e⟩
theorem adJ {m:ae} {t:Target} {as:List AV} {ws:List (Bool×Nat×AV)} {r:AV×ae} (e:oP (aw AP) m t as ws=some r):∃n,oP (eV AP n) m t as ws=some r:=by
 obtain⟨h1,h2⟩:=E6.1 e
 obtain⟨n,hn⟩:=rL.1 h1
 exact⟨n,E6.2 ⟨hn,h2⟩⟩
theorem Vy {ro:Bool} {t:Target} {as:List AV} {M:List (List AV)→ae} {R:List (List AV)→AV×ae}:∀{l:List (List (List AV))},(∀bx,bx∈l→dK (aw AP) ro (M bx) t as=some (R bx))→∃n,∀bx,bx∈l→dK (eV AP n) ro (M bx) t as=some (R bx)
 |[],_=>⟨0,fun _ h=>by cases h⟩
 |b::l,h=>by
  obtain⟨n1,k1⟩:=Fg (h b (by simp))
  obtain⟨n2,k2⟩:=Vy (l:=l) fun bx hb=>h bx (gP _ hb)
  refine⟨n1+n2,fun bx hb=>?_⟩
  rcases eF.1 hb with rfl|hb
  ·exact wE (uB (by omega)) k1
  ·exact wE (uB (by omega)) (k2 bx hb)
theorem afX {ro:Bool} {m:ae} {zs:List (List AV)} {t:Target} {as:List AV} {r:AV×ae} (e:nw (aw AP) ro m zs t as=some r):∃n,nw (eV AP n) ro m zs t as=some r:=by
 obtain⟨h1,h2,h3,h4⟩:=Jl.1 e
 obtain⟨n1,k1⟩:=Fg h1
 obtain⟨n3,k3⟩:=Vy h3
 exact⟨n1+n3,Jl.2 ⟨wE (uB (by omega)) k1,h2,fun bx hb=>wE (uB (by omega)) (k3 bx hb),h4⟩⟩
theorem apP {ρ:aF→AV} {m:ae} {op:cj} {r:AV×ae} (e:aM (aw AP) ρ m op=some r):∃n,aM (eV AP n) ρ m op=some r:=by
  cases op<;>first
    |exact⟨0,e⟩
    |exact Fg e
    |exact adG e
    |exact afX e
    |exact adz e
    |exact adJ e
    | (simp only [aM, lV] at e ⊢
       split at e
       · exact Fg e
       · exact Fg e
       · cases e)
theorem Qn:∀{l:List bA} {st r:St},ops (aw AP) l st=some r→∃n,ops (eV AP n) l st=some r
 |[],st,r,e=>⟨0,e⟩
 | o :: l, st, r, e => by
  unfold ops at e
  split at e
  ·rename_i hw
   split at e
   ·rename_i x m hv
    obtain⟨n1,h1⟩:=apP hv
    obtain⟨n2,h2⟩:=Qn e
    refine⟨max n1 n2,?_⟩
    unfold ops
    rw[ak hw,Y3 (uB (Cu n1 n2)) h1]
    exact GH (uB (Hz n1 n2)) h2
   ·cases e
  ·rename_i hw
   obtain⟨n2,h2⟩:=Qn e
   refine⟨n2,?_⟩
   unfold ops
   rw[aq hw]
   exact h2
theorem tK {α:Type} {x y:Option α} (h:∀r,x=some r↔y=some r):x=y:=by
 cases hx:x with
 |some a=>exact((h a).1 hx).symm
 |none=>
  cases hy:y with
  |none=>rfl
  |some b=>have:=(h b).2 hy;rw[hx]at this;cases this
theorem gK {c:au} {st:St} {r:c8×St} {n:Nat} (h:exec (eV AP n) n c st=some r):fJ AP c st=some r:=jY.2 ⟨n,h⟩
theorem ash (st:St):fJ AP .skip st=some (.normal,st):=gK (n:=0) rfl
theorem asa (id:Nat) (st:St):fJ AP (.exit id) st=some (.exit id,st):=gK (n:=0) rfl
theorem asf (st:St):fJ AP .ret st=some (.ret,st):=gK (n:=0) rfl
theorem ase (d:Bool) (l:List bA) (st:St):fJ AP (.region d l) st=(ops (aw AP) l st).map (c8.normal,·):=by
 refine tK fun r=>⟨fun h=>?_,fun h=>?_⟩
 ·obtain⟨n,hn⟩:=jY.1 h
  simp only[exec]at hn
  obtain⟨p,hp,rfl⟩:=aS.1 hn
  rw[GH (adu n) hp]
  rfl
 ·obtain⟨p,hp,rfl⟩:=aS.1 h
  obtain⟨n,hn⟩:=Qn hp
  exact gK (n:=n) (by simp only[exec,hn];rfl)
theorem asg (a b:au) (st:St):fJ AP (.seq a b) st=match fJ AP a st with
  |some (.normal,aO)=>fJ AP b aO
  |r=>r:=by
 refine tK fun r=>⟨fun h=>?_,fun h=>?_⟩
 ·obtain⟨n,hn⟩:=jY.1 h
  simp only[exec]at hn
  split at hn
  ·rename_i de h1
   rw[gK h1]
   exact gK hn
  ·rename_i aB
   rw[gK hn]
   split
   ·rename_i de heq
    exact absurd (hn.trans heq) (aB _)
   ·rfl
 ·split at h
  ·rename_i de h1
   obtain⟨n1,e1⟩:=jY.1 h1
   obtain⟨n2,e2⟩:=jY.1 h
   refine gK (n:=max n1 n2) ?_
   simp only[exec,uG (Cu n1 n2) e1]
   exact uG (Hz n1 n2) e2
  ·rename_i aB
   obtain⟨n,hn⟩:=jY.1 h
   refine gK (n:=n) ?_
   simp only[exec,hn]
   split
   ·rename_i de heq
    exact absurd (h.trans heq) (aB _)
   ·rfl
theorem ar9 (c:aF) (a b:au) (st:St):fJ AP (.cond c a b) st=match aE st.tmps c with
  |.v (.bool t)=>if t then fJ AP a st else fJ AP b st
  |_=>none:=by
 refine tK fun r=>⟨fun h=>?_,fun h=>?_⟩
 ·obtain⟨n,hn⟩:=jY.1 h
  simp only[exec]at hn
  split at hn
  ·rename_i t ht
   rw[ht]
   simp only
   split
   ·rw[ak (by assumption)]at hn;exact gK hn
   ·rw[aq (by assumption)]at hn;exact gK hn
  ·cases hn
 ·split at h
  ·rename_i t ht
   split at h
   ·rename_i hb
    obtain⟨n,hn⟩:=jY.1 h
    exact gK (n:=n) (by simp only[exec,ht,ak hb,hn])
   ·rename_i hb
    obtain⟨n,hn⟩:=jY.1 h
    exact gK (n:=n) (by simp only[exec,ht,aq hb,hn])
  ·cases h
theorem ar8 (id:Nat) (a:au) (st:St):fJ AP (.block id a) st=match fJ AP a st with
  |some (.exit j,aO)=>if j=id then some (.normal,aO)else some (.exit j,aO)
  |r=>r:=by
 refine tK fun r=>⟨fun h=>?_,fun h=>?_⟩
 ·obtain⟨n,hn⟩:=jY.1 h
  simp only[exec]at hn
  split at hn
  ·rename_i j de h1
   rw[gK h1]
   exact hn
  ·rename_i aB
   rw[gK hn]
   split
   ·rename_i j de heq
    exact absurd (hn.trans heq) (aB _ _)
   ·rfl
 ·split at h
  ·rename_i j de h1
   obtain⟨n1,e1⟩:=jY.1 h1
   refine gK (n:=n1) ?_
   simp only[exec,e1]
   exact h
  ·rename_i aB
   obtain⟨n,hn⟩:=jY.1 h
   refine gK (n:=n) ?_
   simp only[exec,hn]
   split
   ·rename_i j de heq
    exact absurd (h.trans heq) (aB _ _)
   ·rfl
theorem asb (a:au) (st:St):fJ AP (.loop a) st=match fJ AP a st with
  |some (.normal,aO)=>fJ AP (.loop a) aO
  |r=>r:=by
 refine tK fun r=>⟨fun h=>?_,fun h=>?_⟩
 ·obtain⟨n,hn⟩:=jY.1 h
  simp only[exec]at hn
  obtain⟨m,rfl⟩:∃m,n=m+1:=by
   cases n with
   |zero=>simp[lI]at hn
   |succ m=>exact⟨m,rfl⟩
  rw[lI]at hn
  split at hn
  ·rename_i de h1
   rw[gK h1]
   refine gK (n:=m+1) ?_
   simp only[exec]
   exact Kz (fun _ _ e=>e) (sY m) hn
  ·rename_i aB
   rw[gK hn]
   split
   ·rename_i de heq
    exact absurd (hn.trans heq) (aB _)
   ·rfl
 ·split at h
  ·rename_i de h1
   obtain⟨n1,e1⟩:=jY.1 h1
   obtain⟨n2,e2⟩:=jY.1 h
   refine gK (n:=max n1 n2+1) ?_
   simp only[exec,lI]
   rw[uG (by omega) e1]
   simp only[exec]at e2
   exact Kz (fun st r e=>uG (by omega) e) (by omega) e2
  ·rename_i aB
   obtain⟨n,hn⟩:=jY.1 h
   refine gK (n:=n+1) ?_
   simp only[exec,lI]
   rw[uG (sY n) hn]
   split
   ·rename_i de heq
    exact absurd (h.trans heq) (aB _)
   ·rfl
theorem asd (f:aF) (ps:List Nat) (a b:au) (st:St):fJ AP (.rangeFunc f ps a b) st=match aE st.tmps f with
  | .fn g first caps => match aw AP (.fn g) (first ++ .yield st.sig.loops.length :: caps) (enterLoop st.sig ⟨true, none, st.tmps, ps, a, b⟩) with
   |some (_,s)=>match xn s st.sig.loops.length with
    |some (e,s1)=>some (e.getD .normal,⟨st.tmps,s1⟩)
    |none=>none
   |none=>none
  |_=>none:=by
 refine tK fun r=>⟨fun h=>?_,fun h=>?_⟩
 ·obtain⟨n,hn⟩:=jY.1 h
  simp only[exec]at hn
  split at hn
  ·rename_i g first caps hf
   rw[hf]
   simp only
   split at hn
   ·rename_i x s hc
    rw[rL.2 ⟨n,hc⟩]
    exact hn
   ·cases hn
  ·cases hn
 ·split at h
  ·rename_i g first caps hf
   split at h
   ·rename_i x s hc
    obtain⟨n,hn⟩:=rL.1 hc
    refine gK (n:=n) ?_
    simp only[exec,hf,hn]
    exact h
   ·cases h
  ·cases h
theorem AB {t:Target} {as:List AV} {s:ae} {r:AV×ae} {n:Nat} (h:ja AP (eV AP n) n t as s=some r):aw AP t as s=some r:=rL.2 ⟨n+1,h⟩
theorem I0 {t:Target} {as:List AV} {s:ae} {r:AV×ae} (h:aw AP t as s=some r):∃n,ja AP (eV AP n) n t as s=some r:=by
 obtain⟨n,hn⟩:=rL.1 h
 cases n with
 |zero=>simp[eV]at hn
 |succ n=>exact⟨n,hn⟩
theorem adq {f : FuncId} {np nt : Nat} {b : au} {rs : List iE} {own : Bool} (hf : AP f = some (.code np nt b rs own)) (as : List AV) (s : ae) : aw AP (.fn f) as s = if as.length = np then
      match fJ AP b ⟨jM as,s.push ⟨[],[]⟩⟩with
      |some (.normal,st)|some (.ret,st)=>finish rs own st
      |_=>none
    else none:=by
  refine tK fun r=>⟨fun h=>?_,fun h=>?_⟩
  · obtain ⟨n, hn⟩ := I0 h
    simp only[ja,hf]at hn
    split at hn
    · rename_i hl
      rw[ak hl]
      split at hn
      · rename_i st h1;rw[gK h1];exact hn
      · rename_i st h1;rw[gK h1];exact hn
      · cases hn
    · cases hn
  · split at h
    · rename_i hl
      split at h
      · rename_i st h1
        obtain⟨n,hn⟩:=jY.1 h1
        exact AB (n:=n) (by simp only[ja,hf,ak hl,hn];exact h)
      · rename_i st h1
        obtain⟨n,hn⟩:=jY.1 h1
        exact AB (n:=n) (by simp only[ja,hf,ak hl,hn];exact h)
      · cases h
    · cases h
theorem ads {f : FuncId} {np nt : Nat} {b : au} {rs : List iE} {own : Bool} (hf : AP f = some (.code np nt b rs own)) (as : List AV) (s : ae) : aw AP (.inl f) as s = if as.length = np ∧ s.ro < s.ag.length then
      match fJ AP b ⟨jM as,s⟩with
      |some (.normal,st)|some (.ret,st)=>(tQ st rs).map fun l=>(packed l,st.sig)
      |_=>none
    else none:=by
  refine tK fun r=>⟨fun h=>?_,fun h=>?_⟩
  · obtain ⟨n, hn⟩ := I0 h
    simp only[ja,hf]at hn
    split at hn
    · rename_i hl
      rw[ak hl]
      split at hn
      · rename_i st h1;rw[gK h1];exact hn
      · rename_i st h1;rw[gK h1];exact hn
      · cases hn
    · cases hn
  · split at h
    · rename_i hl
      split at h
      · rename_i st h1
        obtain⟨n,hn⟩:=jY.1 h1
        exact AB (n:=n) (by simp only[ja,hf,ak hl,hn];exact h)
      · rename_i st h1
        obtain⟨n,hn⟩:=jY.1 h1
        exact AB (n:=n) (by simp only[ja,hf,ak hl,hn];exact h)
      · cases h
    · cases h
theorem Ui {f:FuncId} {F:List AV→Option AV} (hf:AP f=some (.rh F)) (as:List AV) (s:ae):aw AP (.fn f) as s=(closeAll as).bind fun bs=>(F bs).map (·,s):=by
 refine tK fun r=>⟨fun h=>?_,fun h=>?_⟩
 ·obtain⟨n,hn⟩:=I0 h
  simpa only[ja,hf]using hn
 ·exact AB (n:=0) (by simpa only[ja,hf]using h)
def endRound (l:Nat):Option (c8×St)→Option (AV×ae)
 |some (.normal,aO)=>some (AV.bool true,(eA aO.sig l fun p=>{p with ready:=true,eI:=none}).pop)
 |some (e,aO)=>some (AV.bool false,(eA aO.sig l fun p=>{p with ready:=false,eI:=some e}).pop)
 |none=>none
theorem adt (l:Nat) (as:List AV) (s:ae):aw AP (.yield l) as s=match s.loops[l]? with
  | some lp =>
   if lp.ready=true∧s.bg≤l∧as.length=lp.params.length then
    match fJ AP lp.assign ⟨tT lp.tmps lp.params as,s.push ⟨[],[]⟩⟩with
    |some (.normal,st)=>if BO st.sig l=true then endRound l (fJ AP lp.body ⟨st.tmps,eA st.sig l fun p=>{p with ready:=false}⟩)else none
    |_=>none
   else none
  |none=>none:=by
 refine tK fun r=>⟨fun h=>?_,fun h=>?_⟩
 ·obtain⟨n,hn⟩:=I0 h
  simp only[ja]at hn
  split at hn
  ·rename_i lp sg
   split at hn
   ·rename_i bn
    rw[sg]
    simp only
    rw[ak bn]
    split at hn
    ·rename_i st h1
     rw[gK h1]
     simp only
     split at hn
     ·rename_i hr
      rw[ak hr]
      split at hn
      ·rename_i aO h2
       rw[gK h2]
       exact hn
      ·rename_i e aO aB h2
       rw[gK h2]
       cases e with
       |normal=>exact absurd rfl aB
       |exit id=>exact hn
       |ret=>exact hn
      ·cases hn
     ·cases hn
    ·cases hn
   ·cases hn
  ·cases hn
 ·split at h
  ·rename_i lp sg
   split at h
   ·rename_i bn
    split at h
    ·rename_i st h1
     split at h
     ·rename_i hr
      obtain⟨n1,e1⟩:=jY.1 h1
      cases hb:fJ AP lp.body ⟨st.tmps,eA st.sig l fun p=>{p with ready:=false}⟩with
      |none=>rw[hb]at h;cases h
      |some q=>
       obtain⟨e,aO⟩:=q
       obtain⟨n2,e2⟩:=jY.1 hb
       rw[hb]at h
       refine AB (n:=max n1 n2) ?_
       simp only[ja,sg,ak bn,uG (Cu n1 n2) e1,ak hr,uG (Hz n1 n2) e2]
       cases e<;>exact h
     ·cases h
    ·cases h
   ·cases h
  ·cases h
end
end Go.Ax
/-
  A call's arguments as the executor has them: from the row's reading.
-/
namespace Go.Ax
open Go.ChangeShapes Go.WideShapes
def G6 (P:Program) (ok:TypeId→Bool) (size:Nat):Nat→List Field→Bool
 |off,[]=>decide (off=size)
 |off,f::r=>decide (f.offset=off)&&ok f.type&&G6 P ok size (off+P.cellsOf f.type) r
def mY (P:Program):Nat→TypeId→Bool
 |0,_=>false
 |d+1,t=>match P.underlying t with
  |some .bool|some (.int _)|some .string=>decide (P.cellsOf t=1)
  |some (.slice e)=>decide (P.cellsOf t=1)&&decide (0<P.cellsOf e)&&mY P d e
  |some (.struct fs)=>G6 P (mY P d) (P.cellsOf t) 0 fs.toList
  |some (.array n e)=>decide (n*P.cellsOf e=P.cellsOf t)&&mY P d e
  |_=>false
def ef (P:Program):Nat→TypeId→List AV→Prop
 |0,_,_=>False
 |d+1,t,bO=>match P.underlying t with
  |some .bool=>∃b,bO=[.v (.bool b)]
  |some (.int k)=>∃x,bO=[.v (.int k x)]∧(Lit.int k x).wf=true
  |some .string=>∃s:ByteArray,bO=[.v (.string s)]∧s.size≤maxLen
  |some (.slice e)=>∃o rows,bO=[.slice o (P.cellsOf e) rows]∧(o=.any∨(o=.aA∧rows=[]))∧rows.length≤maxLen∧(∀r∈rows,r.length=P.cellsOf e∧ef P d e r)∧rows.length*P.bytesOf e≤reachBytes
  |some (.struct fs)=>∃ps:List (List AV),bO=ps.flatten∧ps.length=fs.size∧∀(i:Nat) (f:Field) (p:List AV),fs[i]? =some f→ps[i]? =some p→p.length=P.cellsOf f.type∧ef P d f.type p
  |some (.array n e)=>∃ps:List (List AV),bO=ps.flatten∧ps.length=n∧∀p∈ps,p.length=P.cellsOf e∧ef P d e p
  |_=>False
structure RL (w:World) (bO:List AV) (cs:List Value):Prop where
 len:bO.length=cs.length
 get:∀(i:Nat) (a:AV) (c:Value),bO[i]? =some a→cs[i]? =some c→Reads w a c∧a.bu=true
theorem RL.nil {w:World}:RL w [] []:=⟨rfl,fun i a c h=>by simp at h⟩
theorem RL.one {w:World} {a:AV} {c:Value} (h:Reads w a c) (hc:a.bu=true):RL w [a] [c]:=⟨rfl,fun i x y h1 h2=>by
 cases i with
 |zero=>simp at h1 h2;subst h1 h2;exact⟨h,hc⟩
 |succ i=>simp at h1⟩
theorem RL.append {w:World} {a b:List AV} {c d:List Value} (h:RL w a c) (k:RL w b d):RL w (a++b) (c++d):=⟨by simp[h.len,k.len],fun i x y h1 h2=>by
 by_cases hi:i<a.length
 ·rw[dB hi]at h1
  rw[dB (by rw[←h.len];exact hi)]at h2
  exact h.get i x y h1 h2
 ·rw[gM (by omega)]at h1
  rw[gM (by rw[←h.len];omega),←h.len]at h2
  exact k.get _ x y h1 h2⟩
section
variable{H:Type} {enc:TypeId×Value→H} {P:Program} {w:World}
theorem aaB {α:Type} (l:List α) (off n:Nat):(l.drop off).take n++l.drop (off+n)=l.drop off:=by
 rw[←List.drop_drop];exact Hv _ _
theorem YW {d size:Nat} {cs:List Value} {n:Nat} (ih:∀(t:TypeId) (fuel:Nat) (cs:List Value) (x:DataW H×List MemPlace),mY P d t=true→DataW.trod enc P w 0 (fun _=>true) true fuel t cs=some x→(∀n∈x.1.weights P t,n≤reachBytes)→∃bO,RL w bO cs∧cs.length=P.cellsOf t∧ef P d t bO) (hl:cs.length=size):
  ∀(fs:List Field) (off:Nat),G6 P (mY P d) size off fs=true→(∀f∈fs,∃y,DataW.trod enc P w 0 (fun _=>true) true n f.type ((cs.drop f.offset).take (P.cellsOf f.type))=some y∧∀n∈y.1.weights P f.type,n≤reachBytes)→
   ∃ps:List (List AV),RL w ps.flatten (cs.drop off)∧ps.length=fs.length∧∀(i:Nat) (f:Field) (p:List AV),fs[i]? =some f→ps[i]? =some p→p.length=P.cellsOf f.type∧ef P d f.type p
 |[],off,ht,_=>by
  have:off=size:=by simpa[G6]using ht
  subst this
  refine⟨[],?_,rfl,fun i f p h=>by simp at h⟩
  rw[←hl,eE];exact .nil
 | f :: r, off, ht, hf => by
  simp only[G6,dI,dx]at ht
  obtain⟨⟨rfl,bH⟩,hr⟩:=ht
  obtain⟨y,hy,PF⟩:=hf f (vI ..)
  obtain⟨bO,h1,h2,h3⟩:=ih _ _ _ _ bH hy PF
  obtain⟨ps,k1,k2,k3⟩:=YW ih hl r _ hr (fun g hg=>hf g (gP _ hg))
  refine⟨bO::ps,?_,by simp[k2],fun i g p hg hp=>?_⟩
  ·rw[sU,←aaB cs f.offset (P.cellsOf f.type)]
   exact h1.append k1
  ·cases i with
   |zero=>simp at hg hp;subst hg hp;exact⟨by rw[h1.len,h2],h3⟩
   |succ i=>simp at hg hp;exact k3 i g p hg hp
theorem YV {d:Nat} {cs:List Value} {n:Nat} {e:TypeId} (ih:∀(t:TypeId) (fuel:Nat) (cs:List Value) (x:DataW H×List MemPlace),mY P d t=true→DataW.trod enc P w 0 (fun _=>true) true fuel t cs=some x→(∀n∈x.1.weights P t,n≤reachBytes)→∃bO,RL w bO cs∧cs.length=P.cellsOf t∧ef P d t bO) (bH:mY P d e=true):
  ∀(k i:Nat),cs.length=(i+k)*P.cellsOf e→(∀j,i≤j→j<i+k→∃y,DataW.trod enc P w 0 (fun _=>true) true n e ((cs.drop (j*P.cellsOf e)).take (P.cellsOf e))=some y∧∀n∈y.1.weights P e,n≤reachBytes)→
   ∃ps:List (List AV),RL w ps.flatten (cs.drop (i*P.cellsOf e))∧ps.length=k∧∀p∈ps,p.length=P.cellsOf e∧ef P d e p
 |0,i,hl,_=>by
  refine⟨[],?_,rfl,fun p h=>by simp at h⟩
  rw[show i*P.cellsOf e=cs.length by rw[hl];simp,eE];exact .nil
 | k + 1, i, hl, hf => by
  obtain⟨y,hy,PF⟩:=hf i (aH _) (by omega)
  obtain⟨bO,h1,h2,h3⟩:=ih _ _ _ _ bH hy PF
  obtain⟨ps,k1,k2,k3⟩:=YV ih bH k (i+1) (by rw[hl];congr 1;omega) (fun j h1 h2=>hf j (by omega) (by omega))
  refine⟨bO::ps,?_,by simp[k2],fun p hp=>?_⟩
  ·rw[sU,←aaB cs (i*P.cellsOf e) (P.cellsOf e)]
   rw[Nat.succ_mul]at k1
   exact h1.append k1
  ·rcases eF.1 hp with rfl|hp
   ·exact⟨by rw[h1.len,h2],h3⟩
   ·exact k3 p hp
theorem Rn {e:TypeId}:∀{l:List (DataW H)} {d:DataW H},d∈l→∀n∈d.weights P e,n∈DataW.weightsAll P e l
 |x::l,d,h,n,hn=>by
  simp only[DataW.weightsAll,c9]
  rcases eF.1 h with rfl|h
  ·exact .inl hn
  ·exact .inr (Rn h n hn)
 |[],d,h,_,_=>by cases h
theorem YX : ∀ (d : Nat) (t : TypeId) (fuel : Nat) (cs : List Value) (x : DataW H × List MemPlace), mY P d t = true → DataW.trod enc P w 0 (fun _ => true) true fuel t cs = some x → (∀ n ∈ x.1.weights P t, n ≤ reachBytes) →
    ∃bO,RL w bO cs∧cs.length=P.cellsOf t∧ef P d t bO
  |0,t,fuel,cs,x,h,_,_=>by simp[mY]at h
  | d + 1, t, fuel, cs, x, bH, h, mg => by
    have ih:=YX d
    unfold mY at bH
    cases hu:P.underlying t with
    |none=>rw[hu]at bH;cases bH
    | some u =>
      rw[hu]at bH
      cases u with
      | bool =>
        obtain⟨b,rfl,_⟩:=DataW.trod_bool hu h
        exact⟨[.v (.bool b)],.one (.v rfl) rfl,by simp only[dx]at bH;simp[bH],by simp only[ef,hu];exact⟨b,rfl⟩⟩
      | int k =>
        obtain⟨n,rfl,_,hw⟩:=DataW.trod_int hu h
        exact⟨[.v (.int k n)],.one (.v rfl) rfl,by simp only[dx]at bH;simp[bH],by simp only[ef,hu];exact⟨n,rfl,hw⟩⟩
      | string =>
        obtain⟨s,rfl,_,hw⟩:=DataW.trod_string hu h
        exact⟨[.v (.string s)],.one (.v rfl) rfl,by simp only[dx]at bH;simp[bH],by simp only[ef,hu];exact⟨s,rfl,hw⟩⟩
      | struct fs =>
        obtain⟨xs,n,_,qU,hl,BA,dV⟩:=DataW.trod_struct hu h
        subst qU
        have mg:∀n∈DataW.weightsEach P (fs.toList.map (·.type)) (xs.map (·.1)),n≤reachBytes:=fun n hn=>mg n (by simpa[DataW.weights,hu]using hn)
        obtain⟨ps,k1,k2,k3⟩:=YW ih hl fs.toList 0 bH (fun f hf=>by
          obtain⟨i,hi⟩:=n5 hf
          have bD:fs[i]? =some f:=by simpa using hi
          have aC:i<xs.length:=by
            have:=(aY.1 hi).1
            rw[BA];simpa using this
          exact⟨xs[i],by rw[dV i f bD,cM aC],fun n hn=>mg n (DataW.weights_mem_each (j:=i) (t:=f.type) (d:=xs[i].1) (by rw[gN,hi];rfl) (by rw[gN,cM aC];rfl) n hn)⟩)
        exact⟨ps.flatten,by simpa using k1,hl,by simp only[ef,hu];exact⟨ps,rfl,by simpa using k2,fun i f p hf hp=>k3 i f p (by simpa using hf) hp⟩⟩
      | array n e =>
        simp only[dI,dx]at bH
        obtain⟨xs,m,_,qU,hl,BA,dV⟩:=DataW.trod_array hu h
        subst qU
        have mg:∀n∈DataW.weightsAll P e (xs.map (·.1)),n≤reachBytes:=fun n hn=>mg n (by simpa[DataW.weights,hu]using hn)
        obtain⟨ps,k1,k2,k3⟩:=YV (n:=m) (cs:=cs) ih bH.2 n 0 (by rw[hl,←bH.1,fK]) (fun j _ hj=>by
          have aC:j<xs.length:=by omega
          exact⟨xs[j],by rw[dV j (by omega),cM aC],fun n hn=>mg n (Rn (cC.2 ⟨xs[j],gA aC,rfl⟩) n hn)⟩)
        exact⟨ps.flatten,by simpa using k1,hl,by simp only[ef,hu];exact⟨ps,rfl,k2,k3⟩⟩
      | slice e =>
        simp only[dI,dx]at bH
        obtain⟨⟨dY,y9⟩,ajt⟩:=bH
        rcases Deep.open_slice hu h with⟨rfl,_⟩|⟨a,len,cap,m,n,D,Pl,rfl,_,OU,ot,hm,qU,hx⟩
        · exact⟨[.slice .aA (P.cellsOf e) []],.one .aA rfl,by simp[dY],by simp only[ef,hu];exact⟨_,_,rfl,.inr ⟨rfl,rfl⟩,by simp,fun r hr=>by simp at hr,by simp⟩⟩
        · subst qU
          have XD:∀n,n=((((List.range len).map D).length+((List.range (m-len)).map fun j=>D (len+j)).length)*P.bytesOf e)∨n∈DataW.weightsAll P e ((List.range len).map D)→n≤reachBytes:=fun n hn=>mg n (by
            simp only[DataW.weights,hu,eF,c9]
            rcases hn with hn|hn
            · exact .inl hn
            · exact .inr (.inl hn))
          simp only[bZ]at hm
          have hm':cap=m:=hm.symm
          subst hm'
          by_cases h0:cap=0
          · subst h0
            have:len=0:=by omega
            subst this
            exact⟨[.slice .any (P.cellsOf e) []],.one (.empty (.inl rfl)) rfl,by simp[dY],by simp only[ef,hu];exact⟨_,_,rfl,.inl rfl,by simp,fun r hr=>by simp at hr,by simp⟩⟩
          · obtain ⟨blk, off, spot⟩ := a
            have ajW:spot=none:=by
              obtain⟨cs',h1,_⟩:=hx 0 (by omega)
              obtain⟨_,qJ,hg⟩:=World.cells?_some h1
              have:=hg 0 y9
              rw[cM (by omega)]at this
              simpa[Addr.add]using World.cell?_spot this
            subst ajW
            obtain⟨F,hF⟩:=Deep.choose_lt (α:=List AV×List Value) (n:=len) (p:=fun i q=>w.cells? 0 ((⟨blk,off,none⟩:Addr).add (i*P.cellsOf e)) (P.cellsOf e)=some q.2∧RL w q.1 q.2∧q.2.length=P.cellsOf e∧ef P d e q.1) (fun i hi=>by
              obtain⟨cs',h1,h2⟩:=hx i (by omega)
              obtain⟨bO,k1,k2,k3⟩:=ih _ _ _ _ ajt h2 (fun n hn=>XD n (.inr (Rn (cC.2 ⟨i,pM.2 hi,rfl⟩) n hn)))
              exact⟨(bO,cs'),h1,k1,k2,k3⟩)
            have qR:∀i (hi:i<((List.range len).map fun i=>(F i).1).length),((List.range len).map fun i=>(F i).1)[i]=(F i).1:=fun i hi=>by simp
            have bt:∀i,i<len→∀j,j<P.cellsOf e→w.cell? ⟨blk,off+i*P.cellsOf e+j,none⟩=(F i).2[j]? :=by
              intro i hi j hj
              obtain⟨_,_,hg⟩:=World.cells?_some (hF i hi).1
              have:=hg j hj
              rw[add_plain,add_plain]at this
              exact this
            refine⟨[.slice .any (P.cellsOf e) ((List.range len).map fun i=>(F i).1)],.one ?_ rfl,by simp[dY],?_⟩
            · have hlen : ((List.range len).map fun i => (F i).1).length = len := by simp
              have:=bL.slice (I:=fun b i=>w.cell? ⟨b,i,none⟩) (o:=.any) (es:=P.cellsOf e) (xs:=(List.range len).map fun i=>(F i).1) (blk:=blk) (off:=off) (cap:=cap) (fun i j=>((F i).2).getD j Go.undef) (.inl rfl) (by rw[hlen];exact OU)
                (fun r hr=>by
                  obtain⟨i,hi,rfl⟩:=cC.1 hr
                  have:=hF i (by simpa using hi)
                  rw[this.2.1.len,this.2.2.1])
                (fun r hr c hc=>by
                  obtain⟨i,hi,rfl⟩:=cC.1 hr
                  have qF:=hF i (by simpa using hi)
                  obtain⟨j,hj⟩:=n5 hc
                  have hU:=(aY.1 hj).1
                  exact(qF.2.1.get j c ((F i).2[j]'(by rw[←qF.2.1.len];exact hU)) hj (cM _)).2)
                (fun i hi j hj=>by
                  have bD:i<len:=by simpa using hi
                  have qF:=hF i bD
                  rw[qR i hi]at hj
                  have dM:j<(F i).2.length:=by rw[←qF.2.1.len];exact hj
                  rw[bt i bD j (by rw[←qF.2.2.1];exact dM),cM dM]
                  simp[List.getD,cM dM])
                (fun i hi j hj=>by
                  have bD:i<len:=by simpa using hi
                  have qF:=hF i bD
                  have Bm:j<(F i).1.length:=by rw[qR i hi]at hj;exact hj
                  have dM:j<(F i).2.length:=by rw[←qF.2.1.len];exact Bm
                  have hg:=(qF.2.1.get j ((F i).1[j]) ((F i).2[j]) (cM Bm) (cM dM)).1
                  have e1:((List.range len).map fun i=>(F i).1)[i][j]=(F i).1[j]:=by simp
                  rw[e1,show((F i).2).getD j Go.undef=(F i).2[j]by simp[List.getD,cM dM]]
                  exact hg)
              rw[hlen]at this
              exact this
            · simp only [ef, hu]
              exact⟨_,_,rfl,.inl rfl,by simp;omega,fun r hr=>by
                obtain⟨i,hi,rfl⟩:=cC.1 hr
                have qF:=hF i (by simpa using hi)
                exact⟨by rw[qF.2.1.len,qF.2.2.1],qF.2.2.2⟩,by
                have:=XD _ (.inl rfl)
                simp only[bE,pL]at this⊢
                exact jK (mF _ (by omega)) this⟩
      |_=>cases bH
end
end Go.Ax
/-
  Computing with the executor: the steps, one by one.
-/
namespace Go.Ax.Sx
structure Ok (s:ae):Prop where
 ro:s.ro≤s.ag.length
 bg:s.bg≤s.loops.length
theorem Ok.push {s:ae} (h:Ok s) (r:Rec):Ok (s.push r):=⟨by have:=h.ro;simp[ae.push];omega,h.bg⟩
@[simp] theorem pop_push (s:ae) (r:Rec):(s.push r).pop=s:=by simp[ae.push,ae.pop]
@[simp] theorem fw (s:ae) (r:Rec):(s.push r).cur=s.ag.length:=by simp[ae.push,ae.cur]
theorem LR (s:ae) (r:Rec):(s.push r).ag.length=s.ag.length+1:=by simp[ae.push]
theorem iI (s:ae) (r:Rec) (b:Nat):(s.push r).box s.ag.length b=r.boxes[b]? :=by simp[ae.push,ae.box]
theorem xw (s:ae) (r:Rec):(s.push r).bN s.ag.length=r.boxes.length:=by simp[ae.push,ae.bN]
theorem xF (s:ae) (r:Rec) (g:Nat):(s.push r).tok s.ag.length g=(r.toks[g]?).join:=by simp[ae.push,ae.tok]
theorem oH (s:ae) (r:Rec):(s.push r).jW s.ag.length=r.toks.length:=by simp[ae.push,ae.jW]
theorem zz (s:ae) (r:Rec) (f:Rec→Rec):(s.push r).br s.ag.length f=s.push (f r):=by
 simp only[ae.push,ae.br,ae.mk.injEq,and_true]
 apply pK
 intro i
 rw[vH]
 by_cases h:i<s.ag.length
 ·rw[dB h,dB h]
  have:¬s.ag.length=i:=by omega
  simp[this]
 ·rw[gM (by omega),gM (by omega)]
  by_cases h':s.ag.length=i
  ·subst h';simp
  ·have e:i-s.ag.length=(i-s.ag.length-1)+1:=by omega
   rw[e];simp
theorem CG (s:ae) (r:Rec) (cs:List AV):(s.push r).js s.ag.length cs=s.push ⟨r.boxes++[cs],r.toks⟩:=by rw[ae.js,zz]
theorem Q5 (s:ae) (r:Rec) (b:Nat) (cs:List AV):(s.push r).dG s.ag.length b cs=s.push ⟨r.boxes.set b cs,r.toks⟩:=by rw[ae.dG,zz]
theorem nq (s:ae) (r:Rec) (n:Nat):(s.push r).lg s.ag.length n=s.push ⟨r.boxes,r.toks++[some n]⟩:=by rw[ae.lg,zz]
theorem GR (s:ae) (r:Rec) (g:Nat) (n:Option Nat):(s.push r).mz s.ag.length g n=s.push ⟨r.boxes,r.toks.set g n⟩:=by rw[ae.mz,zz]
theorem KY (s:ae) (r:Rec):(s.push r).ro=s.ro:=rfl
section
variable{call:aW} {ρ:Nat→AV} {m:ae} {t:Nat} {rest:List bA}
noncomputable def andThen (call:aW) (d:Option Nat) (rest:List bA) (ρ:Nat→AV) (r:Option (AV×ae)):Option St:=
 r.bind fun p=>ops call rest ⟨kF ρ d p.1,p.2⟩
theorem YZ {d:Option Nat} {op:cj}:ops call (⟨d,none,op⟩::rest) ⟨ρ,m⟩=andThen call d rest ρ (aM call (aE ρ) m op):=by
 simp only[ops,kG,andThen,bZ]
 cases aM call (aE ρ) m op<;>rfl
def lK {β:Type} (x:AV) (f:Bool→β) (d:β):β:=
 match x with
 |.v (.bool b)=>f b
 |_=>d
theorem KI {β:Type} {b:Bool} {f:Bool→β} {d:β}:lK (.v (.bool b)) f d=f b:=rfl
theorem apq {β:Type} {x x':AV} {f:Bool→β} {d:β} (h:x=x'):lK x f d=lK x' f d:=by rw[h]
theorem arf:put t (ρ t) ρ=ρ:=by
 funext u;unfold put;split
 ·rename_i h;rw[h]
 ·rfl
theorem apv {d:Option Nat} {op:cj} {b:Bool}:ops call (⟨d,some (t,b),op⟩::rest) ⟨ρ,m⟩=
  lK (ρ t) (fun c=>cond c
   (cond b (andThen call d rest (put t (.v (.bool true)) ρ) (aM call (aE (put t (.v (.bool true)) ρ)) m op)) (ops call rest ⟨kF (put t (.v (.bool true)) ρ) d AV.undef,m⟩))
   (cond b (ops call rest ⟨kF (put t (.v (.bool false)) ρ) d AV.undef,m⟩) (andThen call d rest (put t (.v (.bool false)) ρ) (aM call (aE (put t (.v (.bool false)) ρ)) m op))))
   (ops call rest ⟨kF ρ d AV.undef,m⟩):=by
 have hw:∀b',Cj b (.v (.bool b'))=(b'==b):=fun _=>rfl
 by_cases h:∃c,ρ t=.v (.bool c)
 ·obtain⟨c,h⟩:=h
  have e:put t (.v (.bool c)) ρ=ρ:=by rw[←h];exact arf
  simp only[ops,kG,andThen,h,hw,lK]
  cases c<;>cases b<;>simp[e]<;>(cases aM call (aE ρ) m op<;>rfl)
 ·have h1:Cj b (ρ t)=false:=by
   cases hx:ρ t with
   |v x=>cases x with
    |bool c=>exact absurd ⟨c,hx⟩ h
    |_=>rfl
   |_=>rfl
  have h2:∀{β:Type} (f:Bool→β) (d:β),lK (ρ t) f d=d:=by
   intro β f d
   cases hx:ρ t with
   |v x=>cases x with
    |bool c=>exact absurd ⟨c,hx⟩ h
    |_=>rfl
   |_=>rfl
  simp[ops,kG,h1,h2]
end
inductive K where
 |c (a:au)
 |blk (id:Nat)
 |lp (a:au)
section
variable(AP:FuncId→Option aI) (Fin:c8→St→Option (AV×ae))
noncomputable def je:List K→c8→St→Option (AV×ae)
 |[],e,st=>Fin e st
 |.c a::ks,e,st=>match e with
  |.normal=>(fJ AP a st).bind fun p=>je ks p.1 p.2
  |e=>je ks e st
 |.blk id::ks,e,st=>match e with
  |.exit j=>if j=id then je ks .normal st else je ks (.exit j) st
  |e=>je ks e st
 |.lp a::ks,e,st=>match e with
  |.normal=>(fJ AP (.loop a) st).bind fun p=>je ks p.1 p.2
  |e=>je ks e st
noncomputable def go (ks:List K) (st:St):Option (AV×ae):=je AP Fin ks .normal st
noncomputable def dy (l:List bA) (ks:List K) (st:St):Option (AV×ae):=(ops (aw AP) l st).bind fun aO=>go AP Fin ks aO
noncomputable def uJ (id:Nat) (ks:List K) (st:St):Option (AV×ae):=je AP Fin ks (.exit id) st
noncomputable def V2 (ks:List K) (st:St):Option (AV×ae):=je AP Fin ks .ret st
noncomputable def qE (d:Option Nat) (l:List bA) (ks:List K) (ρ:Nat→AV) (r:Option (AV×ae)):Option (AV×ae):=r.bind fun p=>dy AP Fin l ks ⟨kF ρ d p.1,p.2⟩
def aU (rs:List iE) (own:Bool):c8→St→Option (AV×ae)
 |.exit _,_=>none
 |_,st=>finish rs own st
def qA (l:Nat) (e:c8) (st:St):Option (AV×ae):=endRound l (some (e,st))
variable{AP Fin} {ks:List K} {st:St} {a b:au} {ρ:Nat→AV} {m:ae} {rest:List bA}
theorem ahk:go AP Fin [] st=Fin .normal st:=rfl
theorem ahd {id:Nat}:uJ AP Fin id [] st=Fin (.exit id) st:=rfl
theorem Ft:∀{ks:List K},V2 AP Fin ks st=Fin .ret st
 |[]=>rfl
 |.c _::ks=>(Ft (ks:=ks):_)
 |.blk _::ks=>(Ft (ks:=ks):_)
 |.lp _::ks=>(Ft (ks:=ks):_)
theorem ahb {id:Nat}:uJ AP Fin id (.c a::ks) st=uJ AP Fin id ks st:=rfl
theorem ahc {id:Nat}:uJ AP Fin id (.lp a::ks) st=uJ AP Fin id ks st:=rfl
theorem aha {id j:Nat}:uJ AP Fin id (.blk j::ks) st=if id=j then go AP Fin ks st else uJ AP Fin id ks st:=rfl
theorem go_skip:go AP Fin (.c .skip::ks) st=go AP Fin ks st:=by simp[go,je,ash]
theorem ahh {id:Nat}:go AP Fin (.c (.exit id)::ks) st=uJ AP Fin id ks st:=by simp[go,je,asa,uJ]
theorem go_ret:go AP Fin (.c .ret::ks) st=Fin .ret st:=by
 rw[←Ft (AP:=AP) (Fin:=Fin) (ks:=ks) (st:=st)];simp[go,je,asf,V2]
theorem ahe {id:Nat}:go AP Fin (.blk id::ks) st=go AP Fin ks st:=rfl
theorem ahj:go AP Fin (.lp a::ks) st=go AP Fin (.c (.loop a)::ks) st:=rfl
theorem go_region {d:Bool} {l:List bA}:go AP Fin (.c (.region d l)::ks) st=dy AP Fin l ks st:=by
 simp only[go,je,ase,dy,Option.bind_map];rfl
theorem ahl:go AP Fin (.c (.seq a b)::ks) st=go AP Fin (.c a::.c b::ks) st:=by
 simp only[go,je,asg]
 cases h:fJ AP a st with
 |none=>rfl
 |some p=>obtain⟨e,aO⟩:=p;cases e<;>rfl
theorem ahf {id:Nat}:go AP Fin (.c (.block id a)::ks) st=go AP Fin (.c a::.blk id::ks) st:=by
 simp only[go,je,ar8]
 cases h:fJ AP a st with
 |none=>rfl
 |some p=>
  obtain⟨e,aO⟩:=p
  cases e with
  |exit j=>by_cases hj:j=id<;>simp[hj]
  |_=>rfl
theorem go_loop:go AP Fin (.c (.loop a)::ks) st=go AP Fin (.c a::.lp a::ks) st:=by
 simp only[go,je]
 rw[asb]
 cases h:fJ AP a st with
 |none=>rfl
 |some p=>obtain⟨e,aO⟩:=p;cases e<;>rfl
theorem ahg {x:aF}:go AP Fin (.c (.cond x a b)::ks) ⟨ρ,m⟩=lK (aE ρ x) (fun t=>cond t (go AP Fin (.c a::ks) ⟨ρ,m⟩) (go AP Fin (.c b::ks) ⟨ρ,m⟩)) none:=by
 simp only[go,je,ar9,lK]
 cases aE ρ x with
 |v y=>cases y with
  |bool t=>cases t<;>rfl
  |_=>rfl
 |_=>rfl
theorem ag3:dy AP Fin [] ks st=go AP Fin ks st:=rfl
theorem VZ {d:Option Nat} {op:cj}:dy AP Fin (⟨d,none,op⟩::rest) ks ⟨ρ,m⟩=qE AP Fin d rest ks ρ (aM (aw AP) (aE ρ) m op):=by
 simp only[dy,YZ,andThen,qE]
 cases aM (aw AP) (aE ρ) m op<;>rfl
theorem Fs {d:Option Nat} {op:cj} {t:Nat} {b:Bool}:dy AP Fin (⟨d,some (t,b),op⟩::rest) ks ⟨ρ,m⟩=
  lK (ρ t) (fun c=>cond c
   (cond b (dy AP Fin (⟨d,none,op⟩::rest) ks ⟨put t (.v (.bool true)) ρ,m⟩) (dy AP Fin rest ks ⟨kF (put t (.v (.bool true)) ρ) d AV.undef,m⟩))
   (cond b (dy AP Fin rest ks ⟨kF (put t (.v (.bool false)) ρ) d AV.undef,m⟩) (dy AP Fin (⟨d,none,op⟩::rest) ks ⟨put t (.v (.bool false)) ρ,m⟩)))
   (dy AP Fin rest ks ⟨kF ρ d AV.undef,m⟩):=by
 simp only[dy,apv,YZ]
 have:∀(x:AV) (f:Bool→Option St) (d:Option St) (g:St→Option (AV×ae)),(lK x f d).bind g=lK x (fun c=>(f c).bind g) (d.bind g):=by
  intro x f d g
  cases x with
  |v y=>cases y<;>rfl
  |_=>rfl
 rw[this]
 congr 1
 funext c
 cases c<;>cases b<;>rfl
theorem ag2 {op:cj} {t:Nat}:dy AP Fin (⟨none,some (t,true),op⟩::rest) ks ⟨ρ,m⟩=
  lK (ρ t) (fun c=>cond c (dy AP Fin (⟨none,none,op⟩::rest) ks ⟨put t (.v (.bool true)) ρ,m⟩) (dy AP Fin rest ks ⟨put t (.v (.bool false)) ρ,m⟩)) (dy AP Fin rest ks ⟨ρ,m⟩):=by
 rw[Fs];rfl
theorem ag1 {op:cj} {t:Nat}:dy AP Fin (⟨none,some (t,false),op⟩::rest) ks ⟨ρ,m⟩=
  lK (ρ t) (fun c=>cond c (dy AP Fin rest ks ⟨put t (.v (.bool true)) ρ,m⟩) (dy AP Fin (⟨none,none,op⟩::rest) ks ⟨put t (.v (.bool false)) ρ,m⟩)) (dy AP Fin rest ks ⟨ρ,m⟩):=by
 rw[Fs];rfl
def eJ:List (Nat×AV)→(Nat→AV)→Nat→AV
 |[],ρ=>ρ
 |(d,x)::ws,ρ=>put d x (eJ ws ρ)
def gy:List (Nat×AV)→List (Nat×AV)
 |[]=>[]
 |(d,_)::ws=>(d,AV.undef)::gy ws
noncomputable def uE (AP:FuncId→Option aI) (Fin:c8→St→Option (AV×ae)) (c:Bool) (t:Nat) (b:Bool) (d:Nat) (op:cj) (l:List bA) (ks:List K) (ρ:Nat→AV) (m:ae):Option (AV×ae):=
 cond (c==b) (dy AP Fin (⟨some d,none,op⟩::l) ks ⟨put t (.v (.bool b)) ρ,m⟩) (dy AP Fin l ks ⟨put d AV.undef (put t (.v (.bool !b)) ρ),m⟩)
theorem VY {d:Nat} {op:cj} {t:Nat} {b:Bool}:dy AP Fin (⟨some d,some (t,b),op⟩::rest) ks ⟨ρ,m⟩=
  lK (ρ t) (fun c=>uE AP Fin c t b d op rest ks ρ m) (dy AP Fin rest ks ⟨put d AV.undef ρ,m⟩):=by
 rw[Fs]
 congr 1
 funext c
 cases c<;>cases b<;>rfl
theorem aeZ {d t:Nat} {op:cj}:uE AP Fin true t true d op rest ks ρ m=dy AP Fin (⟨some d,none,op⟩::rest) ks ⟨put t (.v (.bool true)) ρ,m⟩:=rfl
theorem aeY {d t:Nat} {op:cj}:uE AP Fin false t false d op rest ks ρ m=dy AP Fin (⟨some d,none,op⟩::rest) ks ⟨put t (.v (.bool false)) ρ,m⟩:=rfl
theorem aeX {d t:Nat} {op:cj}:uE AP Fin false t true d op rest ks ρ m=dy AP Fin rest ks ⟨put d AV.undef (put t (.v (.bool false)) ρ),m⟩:=rfl
theorem aeW {d t:Nat} {op:cj}:uE AP Fin true t false d op rest ks ρ m=dy AP Fin rest ks ⟨put d AV.undef (put t (.v (.bool true)) ρ),m⟩:=rfl
theorem ag9 {t:Nat} {x:AV} {m':ae}:qE AP Fin (some t) rest ks ρ (some (x,m'))=dy AP Fin rest ks ⟨put t x ρ,m'⟩:=rfl
theorem ard {t:Nat} {x y:AV}:put t x (put t y ρ)=put t x ρ:=by
 funext u;unfold put;by_cases h:u=t<;>simp[h]
theorem GM {d t:Nat} {x y:AV} (h:(d==t)=false):put d x (put t y ρ)=put t y (put d x ρ):=by
 have h:d≠t:=by simpa using h
 funext u
 unfold put
 by_cases h1:u=d
 ·subst h1;simp[h]
 ·by_cases h2:u=t
  ·subst h2;simp[h1]
  ·simp[h1,h2]
def qj (c b:Bool):List (Nat×AV)→List (Nat×AV)
 |[]=>[]
 |(d,x)::ws=>(d,cond b (cond c x AV.undef) (cond c AV.undef x))::qj c b ws
theorem Qf (c b:Bool):∀ws:List (Nat×AV),qj c b ws=cond (c==b) ws (gy ws)
 |[]=>by cases c<;>cases b<;>rfl
 |(d,x)::ws=>by rw[qj,Qf c b ws];cases c<;>cases b<;>rfl
structure GF where
 c:Bool
 t:Nat
 b:Bool
 ws:List (Nat×AV)
def lS:List GF→(Nat→AV)→Nat→AV
 |[],ρ=>ρ
 |f::fs,ρ=>put f.t (.v (.bool f.b)) (eJ f.ws (lS fs ρ))
def jD:List GF→Bool
 |[]=>true
 |f::fs=>jD fs&&(f.c==f.b)
def jc:List GF→(Nat→AV)→Nat→AV
 |[],ρ=>ρ
 |f::fs,ρ=>cond (jD fs) (cond (f.c==f.b) (put f.t (.v (.bool f.b)) (eJ f.ws (jc fs ρ))) (put f.t (.v (.bool !f.b)) (eJ (gy f.ws) (jc fs ρ)))) (eJ (gy f.ws) (jc fs ρ))
def eY (t:Nat):List (Nat×AV)→Bool
 |[]=>false
 |(d,_)::ws=>decide (t=d)||eY t ws
def lookW (t:Nat):List (Nat×AV)→AV
 |[]=>AV.undef
 |(d,x)::ws=>if t=d then x else lookW t ws
def okF:List GF→Bool
 |[]=>true
 |[_]=>true
 |f::g::fs=>eY f.t g.ws&&!decide (f.t=g.t)&&okF (g::fs)
theorem HK:∀{fs:List GF} {ρ:Nat→AV},jD fs=true→jc fs ρ=lS fs ρ
 |[],_,_=>rfl
 |f::fs,ρ,h=>by
  simp only[jD,dI]at h
  simp only[jc,lS,h.1,h.2,fY,HK h.1]
theorem Yo {t:Nat}:∀{ws:List (Nat×AV)} {ρ:Nat→AV},eY t ws=true→eJ ws ρ t=lookW t ws
 |[],_,h=>by simp[eY]at h
 | (d, x) :: ws, ρ, h => by
  simp only[eJ,put,lookW]
  by_cases e:t=d
  ·rw[ak e,ak e]
  ·rw[aq e,aq e]
   simp only[eY,e,th,nU]at h
   exact Yo h
theorem La {t:Nat}:∀{ws:List (Nat×AV)} {ρ:Nat→AV},eY t ws=true→eJ (gy ws) ρ t=AV.undef
 |[],_,h=>by simp[eY]at h
 | (d, x) :: ws, ρ, h => by
  simp only[gy,eJ,put]
  by_cases e:t=d
  ·rw[ak e]
  ·rw[aq e]
   simp only[eY,e,th,nU]at h
   exact La h
theorem aaL {t:Nat}:∀{ws:List (Nat×AV)} {ρ:Nat→AV},ρ t=AV.undef→eJ (gy ws) ρ t=AV.undef
 |[],_,h=>h
 |(d,x)::ws,ρ,h=>by
  simp only[gy,eJ,put]
  by_cases e:t=d
  ·rw[ak e]
  ·rw[aq e];exact aaL h
theorem api {f g:GF} {fs:List GF} {ρ:Nat→AV} (h:okF (f::g::fs)=true) (ho:jD (g::fs)=false):jc (g::fs) ρ f.t=AV.undef:=by
 simp only[okF,dI,vE,qv]at h
 simp only[jD]at ho
 simp only[jc]
 cases h1:jD fs with
 |true=>
  rw[h1]at ho
  simp only[iF]at ho
  simp only[ho,fY,iw,put]
  rw[aq h.1.2]
  exact La h.1.1
 |false=>
  simp only[iw]
  exact La h.1.1
noncomputable def hH (AP:FuncId→Option aI) (Fin:c8→St→Option (AV×ae)) (fs:List GF) (l:List bA) (ks:List K) (ρ:Nat→AV) (m:ae):Option (AV×ae):=dy AP Fin l ks ⟨jc fs ρ,m⟩
noncomputable def qD (AP:FuncId→Option aI) (Fin:c8→St→Option (AV×ae)) (f:GF) (fs:List GF) (d:Nat) (l:List bA) (ks:List K) (ρ:Nat→AV) (m:ae) (r:Option (AV×ae)):Option (AV×ae):=
 cond (jD (f::fs)) (qE AP Fin (some d) l ks (lS (f::fs) ρ) r) (dy AP Fin l ks ⟨put d AV.undef (jc (f::fs) ρ),m⟩)
theorem VX {f:GF} {fs:List GF} {d:Nat} {op:cj} (h:okF (f::fs)=true):hH AP Fin (f::fs) (⟨some d,some (f.t,f.b),op⟩::rest) ks ρ m=qD AP Fin f fs d rest ks ρ m (aM (aw AP) (aE (lS (f::fs) ρ)) m op):=by
 unfold hH qD
 cases ha:jD (f::fs)with
 | true =>
  rw[HK ha,Fs]
  have hg:lS (f::fs) ρ f.t=.v (.bool f.b):=by simp[lS,put]
  have hp:put f.t (.v (.bool f.b)) (lS (f::fs) ρ)=lS (f::fs) ρ:=by
   funext u;unfold put;by_cases e:u=f.t
   ·subst e;rw[ak rfl,hg]
   ·rw[aq e]
  rw[hg,KI]
  cases hb:f.b<;>rw[hb]at hp<;>simp only[fY,iw,VZ]<;>rw[hp]
 | false =>
  simp only[iw]
  rw[Fs]
  have hg:jc (f::fs) ρ f.t=AV.undef∨jc (f::fs) ρ f.t=.v (.bool !f.b):=by
   cases h1:jD fs with
   |true=>
    simp only[jD,h1,iF]at ha
    right
    simp[jc,h1,ha,put]
   |false=>
    left
    simp only[jc,h1,iw]
    cases fs with
    |nil=>simp[jD]at h1
    |cons g fs=>exact aaL (api h h1)
  rcases hg with hg|hg
  ·rw[hg];rfl
  ·have hp:put f.t (.v (.bool !f.b)) (jc (f::fs) ρ)=jc (f::fs) ρ:=by
    funext u;unfold put;by_cases e:u=f.t
    ·subst e;rw[ak rfl,hg]
    ·rw[aq e]
   rw[hg,KI]
   cases hb:f.b<;>rw[hb]at hp<;>simp only[jH,nV,fY,iw]at hp⊢<;>rw[hp]<;>rfl
theorem VU {f:GF} {fs:List GF} {d:Nat} {x:AV} (h:(decide (d=f.t))=false):qD AP Fin f fs d rest ks ρ m (some (x,m))=hH AP Fin (⟨f.c,f.t,f.b,(d,x)::f.ws⟩::fs) rest ks ρ m:=by
 have h':(d==f.t)=false:=by simpa using h
 unfold qD hH
 cases ha:jD (f::fs)with
 |true=>
  have JF:jD (⟨f.c,f.t,f.b,(d,x)::f.ws⟩::fs)=true:=ha
  rw[HK JF]
  simp only[fY,ag9,lS,eJ]
  rw[GM h']
 | false =>
  simp only[iw,jc]
  cases h1:jD fs with
  |true=>
   simp only[jD,h1,iF]at ha
   simp only[fY,ha,iw,gy,eJ]
   rw[GM h']
  |false=>simp only[iw,gy,eJ]
theorem ari {ws vs:List (Nat×AV)}:eJ (ws++vs) ρ=eJ ws (eJ vs ρ):=by
 induction ws with
 |nil=>rfl
 |cons p ws ih=>obtain⟨d,x⟩:=p;simp only[kg,eJ,ih]
theorem atp {ws vs:List (Nat×AV)}:gy (ws++vs)=gy ws++gy vs:=by
 induction ws with
 |nil=>rfl
 |cons p ws ih=>obtain⟨d,x⟩:=p;simp only[kg,gy,ih]
theorem aaM {c b:Bool}:∀{ws:List (Nat×AV)},gy (qj c b ws)=gy ws
 |[]=>rfl
 |(d,x)::ws=>by simp only[qj,gy,aaM]
theorem BZ {t:Nat} {x:AV}:∀{ws:List (Nat×AV)} {ρ:Nat→AV},eY t ws=false→put t x (eJ ws ρ)=eJ ws (put t x ρ)
 |[],_,_=>rfl
 |(d,y)::ws,ρ,h=>by
  simp only[eY,Lh,qv]at h
  simp only[eJ]
  rw[GM (by simpa using h.1),BZ h.2]
theorem JH {t:Nat}:∀{ws:List (Nat×AV)},eY t (gy ws)=eY t ws
 |[]=>rfl
 |(d,y)::ws=>by simp only[gy,eY,JH]
theorem QB {t:Nat} {x:AV} (h:ρ t=x):put t x ρ=ρ:=by
 funext u;unfold put;by_cases e:u=t
 ·subst e;rw[ak rfl,h]
 ·rw[aq e]
theorem agJ {f g:GF} {fs:List GF} (l:List bA) (h:okF (f::g::fs)=true) (hw:eY f.t f.ws=false) (hv:eY g.t f.ws=false):
  hH AP Fin (f::g::fs) l ks ρ m=hH AP Fin (⟨g.c,g.t,g.b,qj f.c f.b f.ws++(f.t,.v (.bool f.c))::g.ws⟩::fs) l ks ρ m:=by
 simp only[okF,dI,vE,qv]at h
 have aB:(f.t==g.t)=false:=by simpa using h.1.2
 have hu:=La (t:=f.t) (ws:=g.ws) (ρ:=jc fs ρ) h.1.1
 have hp:put f.t AV.undef (eJ (gy g.ws) (jc fs ρ))=eJ (gy g.ws) (jc fs ρ):=QB hu
 unfold hH
 congr 2
 simp only[jc,jD,atp,ari,gy,eJ,aaM,hp]
 cases h1:jD fs with
 |false=>simp only[jZ,iw]
 | true =>
  simp only[iF,fY]
  cases h2:g.c==g.b with
  |false=>
   simp only[iw]
   exact(BZ (ws:=gy f.ws) (by rw[JH];exact hv)).symm
  | true =>
   simp only[fY,Qf]
   cases h3:f.c==f.b with
   |true=>
    simp only[fY]
    have e:f.c=f.b:=by simpa using h3
    rw[e,←BZ (ws:=f.ws) hv,GM aB,BZ (ws:=f.ws) hw]
   |false=>
    simp only[iw]
    have e:f.c=!f.b:=by cases hc:f.c<;>cases hb:f.b<;>simp_all
    rw[e,←BZ (ws:=gy f.ws) (by rw[JH];exact hv),GM aB,BZ (ws:=gy f.ws) (by rw[JH];exact hw)]
theorem VV {f:GF} (l:List bA):hH AP Fin [f] l ks ρ m=dy AP Fin l ks ⟨put f.t (.v (.bool f.c)) (eJ (qj f.c f.b f.ws) ρ),m⟩:=by
 unfold hH
 congr 2
 simp only[jc,jD,fY,Qf]
 cases hc:f.c<;>cases hb:f.b<;>rfl
theorem agK {f:GF} {fs:List GF} {c:Bool} {t:Nat} {b:Bool} (l:List bA) (ht:eY t f.ws=true) (aB:decide (t=f.t)=false) (hc:lookW t f.ws=.v (.bool c)):
  hH AP Fin (f::fs) l ks ρ m=hH AP Fin (⟨c,t,b,[]⟩::f::fs) l ks ρ m:=by
 have aB:t≠f.t:=by simpa using aB
 unfold hH
 congr 2
 simp only[jc.eq_2 ρ ⟨c,t,b,[]⟩,eJ,gy]
 cases ha:jD (f::fs)with
 |false=>rfl
 | true =>
  have hv:jc (f::fs) ρ t=.v (.bool c):=by
   rw[HK ha]
   simp only[lS,put]
   rw[aq aB,Yo ht,hc]
  simp only[fY]
  cases hb:c==b with
  |true=>have e:c=b:=(by simpa using hb);subst e;exact(QB hv).symm
  |false=>have e:c=!b:=(by cases c<;>cases b<;>simp_all);subst e;exact(QB hv).symm
noncomputable def tn (AP:FuncId→Option aI) (Fin:c8→St→Option (AV×ae)) (fs:List GF) (l:List bA) (ks:List K) (ρ:Nat→AV) (m:ae):Option (AV×ae):=
 match fs with
 |f::g::r=>hH AP Fin (⟨g.c,g.t,g.b,qj f.c f.b f.ws++(f.t,.v (.bool f.c))::g.ws⟩::r) l ks ρ m
 |[f]=>dy AP Fin l ks ⟨put f.t (.v (.bool f.c)) (eJ (qj f.c f.b f.ws) ρ),m⟩
 |[]=>dy AP Fin l ks ⟨ρ,m⟩
def oI:List GF→Bool
 |f::g::_=>!eY f.t f.ws&&!eY g.t f.ws
 |_=>true
theorem A1 {fs:List GF} (l:List bA) (h:(okF fs&&oI fs)=true):hH AP Fin fs l ks ρ m=tn AP Fin fs l ks ρ m:=by
 rw[dI]at h
 match fs with
 |[]=>rfl
 |[f]=>exact VV l
 |f::g::r=>
  have hp:=h.2
  simp only[oI,dI,vE]at hp
  exact agJ l h.1 hp.1 hp.2
theorem agE {c:Bool} {t:Nat} {b:Bool} {ws:List (Nat×AV)} {fs:List GF} {d t':Nat} {b':Bool} {op:cj} (h:(okF (⟨c,t,b,ws⟩::fs)&&oI (⟨c,t,b,ws⟩::fs))=true):
  hH AP Fin (⟨c,t,b,ws⟩::fs) (⟨some d,some (t',b'),op⟩::rest) ks ρ m=
   if t'=t∧b'=b then qD AP Fin ⟨c,t,b,ws⟩ fs d rest ks ρ m (aM (aw AP) (aE (lS (⟨c,t,b,ws⟩::fs) ρ)) m op)
   else if t'≠t∧eY t' ws=true then lK (lookW t' ws) (fun c'=>hH AP Fin (⟨c',t',b',[]⟩::⟨c,t,b,ws⟩::fs) (⟨some d,some (t',b'),op⟩::rest) ks ρ m) (tn AP Fin (⟨c,t,b,ws⟩::fs) (⟨some d,some (t',b'),op⟩::rest) ks ρ m)
   else tn AP Fin (⟨c,t,b,ws⟩::fs) (⟨some d,some (t',b'),op⟩::rest) ks ρ m:=by
 by_cases h1:t'=t∧b'=b
 ·rw[ak h1]
  obtain⟨rfl,rfl⟩:=h1
  exact VX (f:=⟨c,t',b',ws⟩) (by rw[dI]at h;exact h.1)
 ·rw[aq h1]
  by_cases h2:t'≠t∧eY t' ws=true
  ·rw[ak h2]
   unfold lK
   split
   ·rename_i c' hc
    exact agK _ h2.2 (by simpa using h2.1) hc
   ·exact A1 _ h
  ·rw[aq h2]
   exact A1 _ h
theorem agF {c:Bool} {t:Nat} {b:Bool} {ws:List (Nat×AV)} {fs:List GF} {d t':Nat} {b':Bool} {op:cj} (h:(okF (⟨c,t,b,ws⟩::fs)&&oI (⟨c,t,b,ws⟩::fs))=true):
  hH AP Fin (⟨c,t,b,ws⟩::fs) (⟨some d,some (t',b'),op⟩::rest) ks ρ m=
   if t'=t∧b'=b then qD AP Fin ⟨c,t,b,ws⟩ fs d rest ks ρ m (aM (aw AP) (aE (lS (⟨c,t,b,ws⟩::fs) ρ)) m op)
   else if t'=t then tn AP Fin (⟨c,t,b,ws⟩::fs) (⟨some d,some (t',b'),op⟩::rest) ks ρ m
   else cond (eY t' ws) (lK (lookW t' ws) (fun c'=>hH AP Fin (⟨c',t',b',[]⟩::⟨c,t,b,ws⟩::fs) (⟨some d,some (t',b'),op⟩::rest) ks ρ m) (tn AP Fin (⟨c,t,b,ws⟩::fs) (⟨some d,some (t',b'),op⟩::rest) ks ρ m))
    (tn AP Fin (⟨c,t,b,ws⟩::fs) (⟨some d,some (t',b'),op⟩::rest) ks ρ m):=by
 rw[agE h]
 by_cases h1:t'=t∧b'=b
 ·rw[ak h1,ak h1]
 ·rw[aq h1,aq h1]
  by_cases h2:t'=t
  ·rw[ak h2,aq (fun e=>e.1 h2)]
  ·rw[aq h2]
   cases h3:eY t' ws
   ·simp[h2]
   ·simp[h2]
theorem agC {f:GF} {fs:List GF} {d:Nat} {r r':Option (AV×ae)} (h:(f.c==f.b)=false):qD AP Fin f fs d rest ks ρ m r=qD AP Fin f fs d rest ks ρ m r':=by
 unfold qD
 have:jD (f::fs)=false:=by simp only[jD,h,nT]
 rw[this];rfl
theorem VW {f:GF} {fs:List GF} {d t':Nat} {b':Bool} {op:cj} (h:(okF (f::fs)&&oI (f::fs))=true) (hd:decide (d=f.t)=false) (ho:(f.c==f.b)=false):
  hH AP Fin (f::fs) (⟨some d,some (t',b'),op⟩::rest) ks ρ m=
   if t'=f.t∧b'=f.b then hH AP Fin (⟨f.c,f.t,f.b,(d,AV.undef)::f.ws⟩::fs) rest ks ρ m else tn AP Fin (f::fs) (⟨some d,some (t',b'),op⟩::rest) ks ρ m:=by
 by_cases h1:t'=f.t∧b'=f.b
 ·rw[ak h1]
  obtain⟨rfl,rfl⟩:=h1
  rw[VX (by rw[dI]at h;exact h.1),agC ho (r':=some (AV.undef,m)),VU hd]
 ·rw[aq h1]
  exact A1 _ h
theorem agI {t:Nat} {ws:List (Nat×AV)} {fs:List GF} {d t':Nat} {b':Bool} {op:cj} (h:(okF (⟨false,t,true,ws⟩::fs)&&oI (⟨false,t,true,ws⟩::fs))=true) (hd:decide (d=t)=false):
  hH AP Fin (⟨false,t,true,ws⟩::fs) (⟨some d,some (t',b'),op⟩::rest) ks ρ m=
   if t'=t∧b'=true then hH AP Fin (⟨false,t,true,(d,AV.undef)::ws⟩::fs) rest ks ρ m else tn AP Fin (⟨false,t,true,ws⟩::fs) (⟨some d,some (t',b'),op⟩::rest) ks ρ m:=VW (f:=⟨false,t,true,ws⟩) h hd rfl
theorem agH {t:Nat} {ws:List (Nat×AV)} {fs:List GF} {d t':Nat} {b':Bool} {op:cj} (h:(okF (⟨true,t,false,ws⟩::fs)&&oI (⟨true,t,false,ws⟩::fs))=true) (hd:decide (d=t)=false):
  hH AP Fin (⟨true,t,false,ws⟩::fs) (⟨some d,some (t',b'),op⟩::rest) ks ρ m=
   if t'=t∧b'=false then hH AP Fin (⟨true,t,false,(d,AV.undef)::ws⟩::fs) rest ks ρ m else tn AP Fin (⟨true,t,false,ws⟩::fs) (⟨some d,some (t',b'),op⟩::rest) ks ρ m:=VW (f:=⟨true,t,false,ws⟩) h hd rfl
theorem aib {t:Nat}:eY t []=false:=rfl
theorem aia {t d:Nat} {x:AV} {ws:List (Nat×AV)}:eY t ((d,x)::ws)=if t=d then true else eY t ws:=by
 rw[eY.eq_2];by_cases h:t=d<;>simp[h]
theorem aoF {t d:Nat} {x:AV} {ws:List (Nat×AV)}:lookW t ((d,x)::ws)=if t=d then x else lookW t ws:=.trans rfl rfl
theorem apl {f:GF}:okF [f]=true:=rfl
theorem apm {c c':Bool} {t t':Nat} {b b':Bool} {ws vD:List (Nat×AV)} {fs:List GF}:okF (⟨c,t,b,ws⟩::⟨c',t',b',vD⟩::fs)=cond (eY t vD) (if t=t' then false else okF (⟨c',t',b',vD⟩::fs)) false:=by
 rw[okF.eq_3];simp only;cases eY t vD<;>by_cases h:t=t'<;>simp[h]
theorem apn {f:GF}:oI [f]=true:=rfl
theorem apo {c c':Bool} {t t':Nat} {b b':Bool} {ws vD:List (Nat×AV)} {fs:List GF}:oI (⟨c,t,b,ws⟩::⟨c',t',b',vD⟩::fs)=cond (eY t ws) false (cond (eY t' ws) false true):=by
 show(!eY t ws&&!eY t' ws)=_;cases eY t ws<;>cases eY t' ws<;>rfl
theorem abJ:lS [] ρ=ρ:=rfl
theorem abI {c:Bool} {t:Nat} {b:Bool} {ws:List (Nat×AV)} {fs:List GF}:lS (⟨c,t,b,ws⟩::fs) ρ=put t (.v (.bool b)) (eJ ws (lS fs ρ)):=rfl
theorem agG {c:Bool} {t:Nat} {b:Bool} {ws:List (Nat×AV)} {t':Nat} {b':Bool} {op:cj}:hH AP Fin [⟨c,t,b,ws⟩] (⟨none,some (t',b'),op⟩::rest) ks ρ m=
  cond (c==b) (dy AP Fin (⟨none,some (t',b'),op⟩::rest) ks ⟨put t (.v (.bool b)) (eJ ws ρ),m⟩) (dy AP Fin (⟨none,some (t',b'),op⟩::rest) ks ⟨put t (.v (.bool !b)) (eJ (gy ws) ρ),m⟩):=by
 unfold hH
 simp only[jc,jD,fY]
 cases c==b<;>rfl
theorem agD {c:Bool} {t:Nat} {b:Bool} {ws:List (Nat×AV)} {d:Nat} {x:AV} {m':ae}:qD AP Fin ⟨c,t,b,ws⟩ [] d rest ks ρ m (some (x,m'))=cond (c==b) (dy AP Fin rest ks ⟨put d x (put t (.v (.bool b)) (eJ ws ρ)),m'⟩) (dy AP Fin rest ks ⟨put d AV.undef (put t (.v (.bool !b)) (eJ (gy ws) ρ)),m⟩):=by
 unfold qD
 simp only[jD,iF,jc,lS,fY]
 cases c==b<;>rfl
theorem aeU {c:Bool} {d t:Nat} {b:Bool} {op:cj}:uE AP Fin c t b d op rest ks ρ m=hH AP Fin [⟨c,t,b,[]⟩] (⟨some d,some (t,b),op⟩::rest) ks ρ m:=by
 unfold uE
 rw[VV]
 simp only[qj,eJ]
 rw[VY]
 have e:put t (.v (.bool c)) ρ t=.v (.bool c):=by simp[put]
 rw[e,KI]
 unfold uE
 cases c<;>cases b<;>simp[ard]
section
variable{c:Bool} {t:Nat} {b:Bool} {ws:List (Nat×AV)} {fs:List GF} {d t':Nat} {b':Bool} {op:cj}
noncomputable def ny (AP:FuncId→Option aI) (Fin:c8→St→Option (AV×ae)) (c:Bool) (t:Nat) (b:Bool) (ws:List (Nat×AV)) (fs:List GF) (l:List bA) (ks:List K) (ρ:Nat→AV) (m:ae):Option (AV×ae):=hH AP Fin (⟨c,t,b,ws⟩::fs) l ks ρ m
noncomputable def Fq (AP:FuncId→Option aI) (Fin:c8→St→Option (AV×ae)) (c:Bool) (t:Nat) (b:Bool) (ws:List (Nat×AV)) (fs:List GF) (d:Nat) (l:List bA) (ks:List K) (ρ:Nat→AV) (m:ae) (r:Option (AV×ae)):Option (AV×ae):=qD AP Fin ⟨c,t,b,ws⟩ fs d l ks ρ m r
noncomputable def pU (AP:FuncId→Option aI) (Fin:c8→St→Option (AV×ae)) (c:Bool) (t:Nat) (b:Bool) (ws:List (Nat×AV)) (fs:List GF) (l:List bA) (ks:List K) (ρ:Nat→AV) (m:ae):Option (AV×ae):=tn AP Fin (⟨c,t,b,ws⟩::fs) l ks ρ m
theorem agR {c':Bool} {l:List bA} (h:c=c'):ny AP Fin c t b ws fs l ks ρ m=ny AP Fin c' t b ws fs l ks ρ m:=by rw[h]
theorem agO {r r':Option (AV×ae)} (h:r=r'):Fq AP Fin c t b ws fs d rest ks ρ m r=Fq AP Fin c t b ws fs d rest ks ρ m r':=by rw[h]
theorem agN {l:List bA}:pU AP Fin c t b ws fs l ks ρ m=pU AP Fin c t b ws fs l ks ρ m:=rfl
theorem aeV:uE AP Fin c t b d op rest ks ρ m=ny AP Fin c t b [] [] (⟨some d,some (t,b),op⟩::rest) ks ρ m:=aeU
noncomputable def GL (AP:FuncId→Option aI) (Fin:c8→St→Option (AV×ae)) (x:AV) (t':Nat) (b':Bool) (c:Bool) (t:Nat) (b:Bool) (ws:List (Nat×AV)) (fs:List GF) (l:List bA) (ks:List K) (ρ:Nat→AV) (m:ae):Option (AV×ae):=
 lK x (fun c'=>ny AP Fin c' t' b' [] (⟨c,t,b,ws⟩::fs) l ks ρ m) (pU AP Fin c t b ws fs l ks ρ m)
theorem aq9 {c':Bool} {l:List bA}:GL AP Fin (.v (.bool c')) t' b' c t b ws fs l ks ρ m=ny AP Fin c' t' b' [] (⟨c,t,b,ws⟩::fs) l ks ρ m:=rfl
theorem ara {l:List bA}:GL AP Fin AV.undef t' b' c t b ws fs l ks ρ m=pU AP Fin c t b ws fs l ks ρ m:=rfl
theorem aq8 {x x':AV} {l:List bA} (h:x=x'):GL AP Fin x t' b' c t b ws fs l ks ρ m=GL AP Fin x' t' b' c t b ws fs l ks ρ m:=by rw[h]
theorem agS (h:(okF (⟨c,t,b,ws⟩::fs)&&oI (⟨c,t,b,ws⟩::fs))=true):
  ny AP Fin c t b ws fs (⟨some d,some (t',b'),op⟩::rest) ks ρ m=
   if t'=t∧b'=b then Fq AP Fin c t b ws fs d rest ks ρ m (aM (aw AP) (aE (lS (⟨c,t,b,ws⟩::fs) ρ)) m op)
   else if t'=t then pU AP Fin c t b ws fs (⟨some d,some (t',b'),op⟩::rest) ks ρ m
   else if eY t' ws=true then GL AP Fin (lookW t' ws) t' b' c t b ws fs (⟨some d,some (t',b'),op⟩::rest) ks ρ m
   else pU AP Fin c t b ws fs (⟨some d,some (t',b'),op⟩::rest) ks ρ m:=by
 refine(agF h).trans ?_
 by_cases h1:t'=t∧b'=b
 ·rw[ak h1,ak h1];rfl
 ·rw[aq h1,aq h1]
  by_cases h2:t'=t
  ·rw[ak h2,ak h2];rfl
  ·rw[aq h2,aq h2]
   cases h3:eY t' ws
   ·rw[aq (by simp)];rfl
   ·rw[ak rfl];rfl
theorem agY (h:(okF (⟨false,t,true,ws⟩::fs)&&oI (⟨false,t,true,ws⟩::fs))=true) (hd:decide (d=t)=false):
  ny AP Fin false t true ws fs (⟨some d,some (t',b'),op⟩::rest) ks ρ m=
   if t'=t∧b'=true then ny AP Fin false t true ((d,AV.undef)::ws) fs rest ks ρ m else pU AP Fin false t true ws fs (⟨some d,some (t',b'),op⟩::rest) ks ρ m:=agI h hd
theorem agX (h:(okF (⟨true,t,false,ws⟩::fs)&&oI (⟨true,t,false,ws⟩::fs))=true) (hd:decide (d=t)=false):
  ny AP Fin true t false ws fs (⟨some d,some (t',b'),op⟩::rest) ks ρ m=
   if t'=t∧b'=false then ny AP Fin true t false ((d,AV.undef)::ws) fs rest ks ρ m else pU AP Fin true t false ws fs (⟨some d,some (t',b'),op⟩::rest) ks ρ m:=agH h hd
theorem agW {d:Option Nat} (h:(okF (⟨c,t,b,ws⟩::fs)&&oI (⟨c,t,b,ws⟩::fs))=true):ny AP Fin c t b ws fs (⟨d,none,op⟩::rest) ks ρ m=pU AP Fin c t b ws fs (⟨d,none,op⟩::rest) ks ρ m:=A1 _ h
theorem agU {g:GF} (h:(okF (⟨c,t,b,ws⟩::g::fs)&&oI (⟨c,t,b,ws⟩::g::fs))=true):ny AP Fin c t b ws (g::fs) (⟨none,some (t',b'),op⟩::rest) ks ρ m=pU AP Fin c t b ws (g::fs) (⟨none,some (t',b'),op⟩::rest) ks ρ m:=A1 _ h
theorem agV:ny AP Fin c t b ws [] (⟨none,some (t',b'),op⟩::rest) ks ρ m=
  cond (c==b) (dy AP Fin (⟨none,some (t',b'),op⟩::rest) ks ⟨put t (.v (.bool b)) (eJ ws ρ),m⟩) (dy AP Fin (⟨none,some (t',b'),op⟩::rest) ks ⟨put t (.v (.bool !b)) (eJ (gy ws) ρ),m⟩):=agG
theorem agT (h:(okF (⟨c,t,b,ws⟩::fs)&&oI (⟨c,t,b,ws⟩::fs))=true):ny AP Fin c t b ws fs [] ks ρ m=pU AP Fin c t b ws fs [] ks ρ m:=A1 _ h
theorem agL {l:List bA}:pU AP Fin c t b ws [] l ks ρ m=dy AP Fin l ks ⟨put t (.v (.bool c)) (eJ (qj c b ws) ρ),m⟩:=rfl
theorem agM {c':Bool} {vD:List (Nat×AV)} {l:List bA}:pU AP Fin c t b ws (⟨c',t',b',vD⟩::fs) l ks ρ m=ny AP Fin c' t' b' (qj c b ws++(t,.v (.bool c))::vD) fs l ks ρ m:=rfl
theorem agQ {x:AV} (h:(decide (d=t))=false):Fq AP Fin c t b ws fs d rest ks ρ m (some (x,m))=ny AP Fin c t b ((d,x)::ws) fs rest ks ρ m:=VU h
theorem agP {x:AV} {m':ae}:Fq AP Fin c t b ws [] d rest ks ρ m (some (x,m'))=cond (c==b) (dy AP Fin rest ks ⟨put d x (put t (.v (.bool b)) (eJ ws ρ)),m'⟩) (dy AP Fin rest ks ⟨put d AV.undef (put t (.v (.bool !b)) (eJ (gy ws) ρ)),m⟩):=agD
end
theorem ag8 {t:Nat} {x:AV} {m':ae}:qE AP Fin (some t) rest ks ρ (some (x,m'))=dy AP Fin rest ks ⟨put t x ρ,m'⟩:=rfl
theorem ag6 {x:AV} {m':ae}:qE AP Fin none rest ks ρ (some (x,m'))=dy AP Fin rest ks ⟨ρ,m'⟩:=rfl
theorem ag7 {d:Option Nat}:qE AP Fin d rest ks ρ none=none:=rfl
theorem ag4 {d:Option Nat} {c:Bool} {x y:Option (AV×ae)}:qE AP Fin d rest ks ρ (cond c x y)=cond c (qE AP Fin d rest ks ρ x) (qE AP Fin d rest ks ρ y):=by cases c<;>rfl
theorem ag5 {d:Option Nat} {r r':Option (AV×ae)} (h:r=r'):qE AP Fin d rest ks ρ r=qE AP Fin d rest ks ρ r':=by rw[h]
theorem ag0:dy AP Fin rest ks st=dy AP Fin rest ks st:=rfl
theorem go_congr:go AP Fin ks st=go AP Fin ks st:=rfl
theorem aL {f:FuncId} {np nt:Nat} {b:au} {rs:List iE} {own:Bool} (hf:AP f=some (.code np nt b rs own)) {as:List AV} {s:ae} (hl:as.length=np):
  aw AP (.fn f) as s=go AP (aU rs own) [.c b] ⟨jM as,s.push ⟨[],[]⟩⟩:=by
 rw[adq hf,ak hl]
 simp only[go,je]
 cases h:fJ AP b ⟨jM as,s.push ⟨[],[]⟩⟩with
 |none=>rfl
 |some p=>obtain⟨e,aO⟩:=p;cases e<;>rfl
end
section
variable{ρ:Nat→AV} {m:ae} {s:ae} {call:aW}
theorem afg {t:Nat}:aE ρ (.tmp t)=ρ t:=.trans rfl rfl
theorem aff {x:AV}:aE ρ (.const x)=x:=.trans rfl rfl
theorem arc {t u:Nat} {x:AV}:put t x ρ u=if u=t then x else ρ u:=.trans rfl rfl
theorem acq {x:AV} {r:List AV}:jM (x::r) 0=x:=.trans rfl rfl
theorem acr {x:AV} {r:List AV} {n:Nat}:jM (x::r) (n+1)=jM r n:=.trans rfl rfl
theorem ap9 {x:aF}:aM call (aE ρ) m (.move x)=some (aE ρ x,m):=.trans rfl rfl
theorem aqb {c a b:aF}:aM call (aE ρ) m (.pick c a b)=(GJ (aE ρ c) (aE ρ a) (aE ρ b)).map (·,m):=.trans rfl rfl
theorem apx {z:AV} {zs:List AV}:aM call (aE ρ) m (.alloc (z::zs))=some (m.dF (z::zs)):=.trans rfl rfl
theorem aqd {n:Nat}:aM call (aE ρ) m (.lO n)=some (AV.undef,m.lO n):=.trans rfl rfl
theorem KK {q:Nat} {g:Bool} {n:Nat} {x:aF}:aM call (aE ρ) m (.gd q g n x)=(xq m q g n (aE ρ x)).map (·,m):=.trans rfl rfl
theorem Qo {q n:Nat} {x y:aF}:aM call (aE ρ) m (.fill q n x y)=(yC m q n (aE ρ x) (aE ρ y)).map (AV.undef,·):=.trans rfl rfl
theorem Qr {b:Nat} {zs:List AV}:aM call (aE ρ) m (.slot b zs)=mA m b zs:=.trans rfl rfl
theorem apD {n:Nat} {x:aF}:aM call (aE ρ) m (.box n x)=yf m n (aE ρ x):=.trans rfl rfl
theorem apE {zs:List AV} {ps:List (Nat×Nat×aF)}:aM call (aE ρ) m (.build zs ps)=(ns zs (aE ρ) ps).map fun cs=>(.agg cs,m):=.trans rfl rfl
theorem apG {es:Nat} {rows:List (List AV)} {ps:List (Nat×aF)}:aM call (aE ρ) m (.buildSlice es rows ps)=(mL rows (aE ρ) ps).map fun rs=>(.slice .full es rs,m):=.trans rfl rfl
theorem Qp {g:Bool} {n:Nat} {x:aF}:aM call (aE ρ) m (.load g n x)=(m.load g n (aE ρ x)).map (·,m):=.trans rfl rfl
theorem aqi {n:Nat} {x y:aF}:aM call (aE ρ) m (.store n x y)=(m.store n (aE ρ x) (aE ρ y)).map (AV.undef,·):=.trans rfl rfl
theorem aqa {x:aF}:aM call (aE ρ) m (.nilCheck x)=(zw (aE ρ x)).map (·,m):=.trans rfl rfl
theorem apC {op:BinOp} {x y:aF}:aM call (aE ρ) m (.arith op x y)=(dC op (aE ρ x) (aE ρ y)).map (·,m):=.trans rfl rfl
theorem apS {neg:Bool} {k:Hd} {x y:aF}:aM call (aE ρ) m (.eqv neg k x y)=(pS k (aE ρ x) (aE ρ y)).map fun t=>(.v (.bool (if neg then !t else t)),m):=.trans rfl rfl
theorem aqj {op:UnOp} {x:aF}:aM call (aE ρ) m (.un op x)=(unOp op (aE ρ x)).map (·,m):=.trans rfl rfl
theorem apQ {k:Hc} {x:aF}:aM call (aE ρ) m (.conv k x)=(mM k (aE ρ x)).map (·,m):=.trans rfl rfl
theorem ap6 {t:TypeId} {x:aF}:aM call (aE ρ) m (.KA t x)=(Km t (aE ρ x)).map (·,m):=.trans rfl rfl
theorem ap5 {f:FuncId} {first caps:List aF}:aM call (aE ρ) m (.oG f first caps)=if(first.map (aE ρ)).all AV.vk then some (.fn f (first.map (aE ρ)) (caps.map (aE ρ)),m)else none:=.trans rfl rfl
theorem ap8 {es:Nat} {zs:List AV} {len cap:aF}:aM call (aE ρ) m (.BT es zs len cap)=GC m es zs (aE ρ len) (aE ρ cap):=.trans rfl rfl
theorem ap7 {es:Nat} {zs:List AV} {len cap:aF}:aM call (aE ρ) m (.mkSlice es zs len cap)=BS m es zs (aE ρ len) (aE ρ cap):=.trans rfl rfl
theorem aqf {k:Cy} {x:aF} {lo hi mx:Option aF}:aM call (aE ρ) m (.slice k x lo hi mx)=(iU k (aE ρ x) (qw (aE ρ) lo) (qw (aE ρ) hi) (qw (aE ρ) mx)).map (·,m):=.trans rfl rfl
theorem apW {off:Nat} {x:aF}:aM call (aE ρ) m (.fieldAddr off x)=(BY off (aE ρ x)).map (·,m):=.trans rfl rfl
theorem apZ {arr:Option Nat} {es:Nat} {x i:aF}:aM call (aE ρ) m (.indexAddr arr es x i)=(jS arr es (aE ρ x) (aE ρ i)).map (·,m):=.trans rfl rfl
theorem ap0 {x i:aF}:aM call (aE ρ) m (.Gt x i)=(BF (aE ρ x) (aE ρ i)).map (·,m):=.trans rfl rfl
theorem apY {n es:Nat} {g:Bool} {x i:aF}:aM call (aE ρ) m (.index n es g x i)=(Gs n es g (aE ρ x) (aE ρ i)).map (·,m):=.trans rfl rfl
theorem apV {g:Bool} {n off:Nat} {x:aF}:aM call (aE ρ) m (.field g n off x)=(Fl g n off (aE ρ x)).map (·,m):=.trans rfl rfl
theorem apT {i:Nat} {x:aF}:aM call (aE ρ) m (.extract i x)=(yA i (aE ρ x)).map (·,m):=.trans rfl rfl
theorem apH {ro:Bool} {f:FuncId} {as:List aF}:aM call (aE ρ) m (.call ro f as)=dK call ro m (.fn f) (as.map (aE ρ)):=.trans rfl rfl
theorem apU {ro:Bool} {zs:List (List AV)} {f:FuncId} {as:List aF}:aM call (aE ρ) m (.rQ ro zs f as)=nw call ro m zs (.fn f) (as.map (aE ρ)):=.trans rfl rfl
theorem apJ {f:FuncId} {as:List aF}:aM call (aE ρ) m (.wv f as)=dK call false m (.inl f) (as.map (aE ρ)):=.trans rfl rfl
theorem apK {f:FuncId} {as:List aF}:aM call (aE ρ) m (.wx f as)=dK call true m (.nat f) (as.map (aE ρ)):=.trans rfl rfl
theorem apL {f:FuncId} {as:List aF}:aM call (aE ρ) m (.rM f as)=kL call m f (as.map (aE ρ)):=.trans rfl rfl
theorem apN {ro:Bool} {x:aF} {as:List aF}:aM call (aE ρ) m (.ko ro x as)=lV call ro m (aE ρ x) (as.map (aE ρ)):=.trans rfl rfl
theorem Qq {agg:Bool} {n:Nat} {x:aF}:aM call (aE ρ) m (.jU agg n x)=(zq m agg n (aE ρ x)).map (·,m):=.trans rfl rfl
theorem apz {es:Nat} {x y:aF}:aM call (aE ρ) m (.vX es x y)=x4 m es (aE ρ x) (aE ρ y):=.trans rfl rfl
theorem apB {es:Nat} {x y:aF}:aM call (aE ρ) m (.vY es x y)=vZ m es (aE ρ x) (aE ρ y):=.trans rfl rfl
theorem apR {x y:aF}:aM call (aE ρ) m (.copy x y)=AN m (aE ρ x) (aE ρ y):=.trans rfl rfl
theorem apF {es:Nat} {row:List AV} {t:Nat}:aM call (aE ρ) m (.yg es row t)=yh m es row (ρ t):=.trans rfl rfl
theorem apy {es:Nat} {x y:aF}:aM call (aE ρ) m (.append es x y)=ej m es (aE ρ x) (aE ρ y):=.trans rfl rfl
theorem ap1 {b:Bool} {x:aF}:aM call (aE ρ) m (.len b x)=(mm b (aE ρ x)).map (·,m):=.trans rfl rfl
theorem ap2 {n:Nat}:aM call (aE ρ) m (.BM n)=some (.v (.int .i64 n),m):=.trans rfl rfl
theorem ap4 {mx:Bool} {xs:List aF}:aM call (aE ρ) m (.GB mx xs)=(sC mx (xs.map (aE ρ))).map (·,m):=.trans rfl rfl
theorem aeM {t:Target} {as:List AV}:dK call false m t as=call t as m:=.trans rfl rfl
def cB (m:ae):ae:={m with ro:=m.ag.length,bg:=m.loops.length}
theorem sF:Ok (cB m):=⟨aH _,aH _⟩
theorem aeN {t:Target} {as:List AV}:dK call true m t as=(call t as (cB m)).map fun p=>(p.1,m):=.trans rfl rfl
theorem adM {f:FuncId} {a b as:List AV} {ro:Bool}:lV call ro m (.fn f a b) as=dK call ro m (.fn f) (a++as++b):=.trans rfl rfl
theorem adN {l:Nat} {as:List AV} {ro:Bool}:lV call ro m (.yield l) as=dK call ro m (.yield l) as:=.trans rfl rfl
theorem aqF {c:Bool} {a b:AV}:GJ (.v (.bool c)) a b=some (cond c a b):=by cases c<;>rfl
theorem ao4 {r:Rec} {cs:List AV}:(s.push r).dF cs=(.ptr s.ag.length r.boxes.length 0,s.push ⟨r.boxes++[cs],r.toks⟩):=by
 rw[ae.dF,fw,xw,CG]
def kM:Nat→List AV→Bool
 |0,[]=>true
 |n+1,x::r=>x.bu&&kM n r
 |_,_=>false
theorem qB:∀{n:Nat} {l:List AV},kM n l=true↔l.length=n∧l.all AV.bu=true
 |0,[]=>by simp[kM]
 |0,_::_=>by simp[kM]
 |n+1,[]=>by simp[kM]
 |n+1,x::r=>by simp only[kM,dI,qB (n:=n) (l:=r),dJ,vG];constructor<;>(rintro⟨h1,h2,h3⟩;exact⟨by omega,by simp_all⟩)
theorem ac0 {n:Nat} {y:AV}:yf m (n+1) y=cond (kM (n+1) y.cells) (some (m.dF y.cells)) none:=by
 unfold yf
 cases h:kM (n+1) y.cells with
 |true=>rw[ak ⟨(qB.1 h).1,(qB.1 h).2,Nat.succ_pos n⟩];rfl
 |false=>rw[aq (fun e=>by rw[qB.2 ⟨e.1,e.2.1⟩]at h;cases h)];rfl
theorem arT {r:Rec} {n:Nat}:(s.push r).lO n=s.push ⟨r.boxes++List.replicate n [],r.toks⟩:=by
 rw[ae.lO,fw,zz]
def K1 (bs:List (List AV)) (tk:List (Option Nat)) (back:Nat) (zs:List AV):Option (Nat×List (List AV)):=
 if tk.any Option.isNone then none else
 match bs[bs.length-back]? with
 |some []=>if zs.isEmpty then none else some (bs.length-back,bs.set (bs.length-back) zs)
 |_=>none
theorem apc (s:ae) (r:Rec):(s.push r).lJ s.ag.length=r.toks.any Option.isNone:=by simp[ae.push,ae.lJ]
theorem asZ {r:Rec} {back:Nat} {zs:List AV}:mA (s.push r) back zs=(K1 r.boxes r.toks back zs).map fun p=>(.ptr s.ag.length p.1 0,s.push ⟨p.2,r.toks⟩):=by
 obtain⟨bs,tk⟩:=r
 unfold mA K1
 simp only[fw,xw,iI,Q5,apc]
 cases hq:tk.any Option.isNone with
 | false =>
  simp only[eB,zB,dt]
  split
  ·rename_i h;rw[h];simp only;split<;>rfl
  ·rename_i h
   split
   ·rename_i h';exact absurd h' (by simpa using h)
   ·rfl
 |true=>
  simp only[or_true,bZ]
  split<;>rfl
theorem aoB {g:Bool} {n d b off:Nat}:m.load g n (.ptr d b off)=(m.box d b).bind fun cs=>part g n cs off:=by
 simp only[ae.load,ae.row]
 cases m.box d b<;>rfl
theorem fN {d b:Nat} {cs:List AV} (h:m.box d b=some cs) (r:Rec):(m.push r).box d b=some cs:=by
 simp only[ae.box,ae.push]at h⊢
 rw[dB]
 ·exact h
 ·apply qm
  intro hn
  rw[nZ (by omega)]at h
  cases h
theorem aoC {g:Bool} {n off:Nat} {cs:List AV}:m.load g n (.bo cs off)=part g n cs off:=rfl
theorem aqv {n off:Nat} {cs:List AV}:part false n cs off=cs[off]? :=rfl
def qu:Nat→Nat→List AV→Option (List AV)
 |0,0,_=>some []
 |0,n+1,x::r=>(qu 0 n r).map (x::·)
 |off+1,n,_::r=>qu off n r
 |_,_,[]=>none
theorem Je:∀(off n:Nat) (cs:List AV),qu off n cs=if off+n≤cs.length then some ((cs.drop off).take n)else none
 |0,0,_=>by simp[qu]
 |0,n+1,[]=>by simp[qu]
 |0,n+1,x::r=>by
  have:=Je 0 n r
  simp only[qu,this,kI,dJ,R1,fK]
  by_cases h:n≤r.length
  ·rw[ak h,ak (by omega)];rfl
  ·rw[aq h,aq (by omega)];rfl
 |off+1,n,[]=>by simp[qu]
 |off+1,n,x::r=>by
  have:=Je off n r
  simp only[qu,this,dJ,RF]
  by_cases h:off+n≤r.length
  ·rw[ak h,ak (by omega)]
  ·rw[aq h,aq (by omega)]
theorem aqx {n off:Nat} {cs:List AV}:part true n cs off=(qu off n cs).map .agg:=by
 rw[Je];unfold part;by_cases h:off+n≤cs.length<;>simp[h]
def mq:List AV→Nat→List AV→Option (List AV)
 |row,0,[]=>some row
 |_::row,0,c::cs=>(mq row 0 cs).map (c::·)
 |x::row,off+1,cs=>(mq row off cs).map (x::·)
 |[],_,_=>none
theorem Q6 (x:AV):∀(cs:List AV) (row:List AV) (off:Nat),setCells (x::row) (off+1) cs=x::setCells row off cs
 |[],_,_=>rfl
 |c::cs,row,off=>by simp only[setCells,RW];exact Q6 x cs _ _
theorem vr:∀(row:List AV) (off:Nat) (cs:List AV),mq row off cs=if off+cs.length≤row.length then some (setCells row off cs)else none
 |row,0,[]=>by simp[mq,setCells]
 |[],0,c::cs=>by simp[mq]
 |x::row,0,c::cs=>by
  simp only[mq,vr row 0 cs,setCells,Hu,dJ,fK]
  by_cases h:cs.length≤row.length
  ·rw[ak h,ak (by omega)];simp[Q6 c cs row 0]
  ·rw[aq h,aq (by omega)];rfl
 |[],off+1,cs=>by simp[mq]
 |x::row,off+1,cs=>by
  simp only[mq,vr row off cs,dJ,Q6]
  by_cases h:off+cs.length≤row.length
  ·rw[ak h,ak (by omega)];rfl
  ·rw[aq h,aq (by omega)];rfl
theorem ro_le {r:Rec} (h:Ok s):(s.push r).ro≤s.ag.length:=h.ro
theorem atc {r:Rec} {n b off:Nat} {y:AV} (h:Ok s):
  (s.push r).store n (.ptr s.ag.length b off) y=cond (kM n y.cells) (((r.boxes[b]?).bind fun row=>mq row off y.cells).map fun row=>s.push ⟨r.boxes.set b row,r.toks⟩) none:=by
 cases hy:kM n y.cells with
 |false=>
  have:¬(y.cells.length=n∧y.cells.all AV.bu=true):=fun e=>by rw[qB.2 e]at hy;cases hy
  simp only[ae.store,iw]
  rw[aq (fun e=>this e.2)]
 | true =>
  have hy:=qB.1 hy
  simp only[ae.store,fY]
  rw[ak ⟨ro_le h,hy.1,hy.2⟩,fw,ak rfl]
  simp only[iI]
  cases r.boxes[b]? with
  |none=>rfl
  |some row=>
   simp only[eL,vr,hy.1]
   by_cases hq:off+n≤row.length
   ·simp only[ak hq,Q5,dP]
   ·simp only[aq hq,LK]
theorem af6 {cs:List AV} {off size:Nat} {x:AV}:AU cs off size x=cond (kM size x.cells) (mq cs off x.cells) none:=by
 unfold AU
 cases h:kM size x.cells with
 |true=>
  have:=qB.1 h
  rw[fY,vr,this.1]
  by_cases hq:off+size≤cs.length
  ·rw[ak ⟨rfl,hq,this.2⟩,ak hq]
  ·rw[aq (fun e=>hq e.2.1),aq hq]
 |false=>rw[aq (fun e=>by rw[qB.2 ⟨e.1,e.2.2⟩]at h;cases h)];rfl
theorem ac6 {cs:List AV} {f:aF→AV}:ns cs f []=some cs:=rfl
theorem ac5 {cs:List AV} {f:aF→AV} {off size:Nat} {x:aF} {r:List (Nat×Nat×aF)}:ns cs f ((off,size,x)::r)=(cond (kM size (f x).cells) (mq cs off (f x).cells) none).bind fun cs'=>ns cs' f r:=by
 rw[←af6];simp only[ns];cases AU cs off size (f x)<;>rfl
theorem ac9 {rows:List (List AV)} {f:aF→AV}:mL rows f []=some rows:=rfl
def GP:List AV→List AV→Bool
 |[],[]=>true
 |_::a,_::b=>GP a b
 |_,_=>false
theorem Z8:∀(a b:List AV),GP a b=decide (a.length=b.length)
 |[],[]=>rfl
 |[],_::_=>rfl
 |_::_,[]=>rfl
 |_::a,_::b=>by simp[GP,Z8 a b]
theorem ac8 {rows:List (List AV)} {f:aF→AV} {i:Nat} {x:aF} {r:List (Nat×aF)}:mL rows f ((i,x)::r)=(rows[i]?).bind fun row=>(closeAll (f x).cells).bind fun cs=>cond (GP cs row) (mL (rows.set i cs) f r) none:=by
 simp only[mL,Z8]
 cases rows[i]? with
 |none=>rfl
 |some row=>cases closeAll (f x).cells with
  |none=>rfl
  |some cs=>by_cases h:cs.length=row.length<;>simp[h]
theorem n9:closeAll []=some []:=rfl
theorem lZ {x:AV} {r:List AV}:closeAll (x::r)=x.close.bind fun y=>(closeAll r).map fun s=>y::s:=by
 simp only[closeAll];cases x.close<;>cases closeAll r<;>rfl
theorem oR {k:IntKind} {n:Int}:AV.close (.v (.int k n))=some (.v (.int k n)):=rfl
theorem aef {b:Bool}:AV.close (.v (.bool b))=some (.v (.bool b)):=rfl
theorem NA {b:ByteArray}:AV.close (.v (.string b))=some (.v (.string b)):=rfl
theorem aei {es:Nat} {xs:List (List AV)}:AV.close (.slice .aA es xs)=some (.slice .aA es xs):=rfl
theorem aee {es:Nat} {xs:List (List AV)}:AV.close (.slice .any es xs)=some (.slice .any es xs):=rfl
theorem aeh {es:Nat} {xs:List (List AV)}:AV.close (.slice .full es xs)=some (.slice .full es xs):=rfl
theorem aek {d g es:Nat} {xs:List (List AV)}:AV.close (.slice (.tok d g) es xs)=some (.slice .any es xs):=rfl
theorem aq7 {off d b o:Nat}:BY off (.ptr d b o)=some (.ptr d b (o+off)):=rfl
theorem aq6 {off o:Nat} {cs:List AV}:BY off (.bo cs o)=some (.bo cs (o+off)):=rfl
end
end Go.Ax.Sx
/-
  The rules to compute with, as one set.
-/
namespace Go.Ax.Sx
attribute [go_sem ↓] fY iw go_skip ahh go_ret ahe ahj go_region ahl ahf ag3 VZ VY aeZ aeY aeX aeW ag2 ag1 ahb ahc aha
attribute [go_sem] ahk ahd ahg ag8 ag6 ag7 ag4 KI
attribute [go_sem ↓ low] aeV
attribute [go_sem high] agY agX
attribute [go_sem] aq9 ara agS agW agU agV agT agL agM agQ eJ gy qj aib aia aoF apl apm apn apo abJ abI
attribute [go_sem low] agP
attribute [congr] aq8 agR agO agN apq ag5 ag0 go_congr
attribute [go_sem ↓] afg aff arc acq acr
attribute [go_sem ↓] ap9 aqb apx aqd Qr KK Qq Qo apD apE apG Qp aqi aqa apC apS aqj apQ ap6 ap5 ap7 ap8 aqf apW apZ ap0 apY apV apT apH apU apJ apK apL apN apy apB apz apR apF ap1 ap2 ap4
attribute [go_sem] aeN sF Ok.push aeM adM adN aqF ao4 arT asZ aoB iI aoC aqv aqx atc kM qu mq aq7 aq6 ac0
section
variable{a b:Int} {c d:Bool}
theorem ab5:dC .add (.v (.int .i64 a)) (.v (.int .i64 b))=some (.v (.int .i64 (IntKind.i64.wrap (a+b)))):=rfl
theorem acp:dC .sub (.v (.int .i64 a)) (.v (.int .i64 b))=some (.v (.int .i64 (IntKind.i64.wrap (a-b)))):=rfl
theorem aci:dC .mul (.v (.int .i64 a)) (.v (.int .i64 b))=some (.v (.int .i64 (IntKind.i64.wrap (a*b)))):=rfl
theorem SH (h:(b==0)=false):dC .quo (.v (.int .i64 a)) (.v (.int .i64 b))=some (.v (.int .i64 (IntKind.i64.wrap (a.tdiv b)))):=by
 have:b≠0:=by simpa using h
 simp[dC,qe,sx,this]
theorem SJ (h:(b==0)=false):dC .rem (.v (.int .i64 a)) (.v (.int .i64 b))=some (.v (.int .i64 (a.tmod b))):=by
 have:b≠0:=by simpa using h
 simp[dC,qe,sx,this]
theorem ab6:dC .eql (.v (.int .i64 a)) (.v (.int .i64 b))=some (.v (.bool (decide (a=b)))):=by
 simp only[dC,qe,sx];by_cases h:a=b<;>simp[h]
theorem acj:dC .neq (.v (.int .i64 a)) (.v (.int .i64 b))=some (.v (.bool (decide (a≠b)))):=by
 simp only[dC,qe,sx];by_cases h:a=b<;>simp[h]
theorem acg:dC .lss (.v (.int .i64 a)) (.v (.int .i64 b))=some (.v (.bool (decide (a<b)))):=rfl
theorem ace:dC .leq (.v (.int .i64 a)) (.v (.int .i64 b))=some (.v (.bool (decide (a≤b)))):=rfl
theorem acb:dC .gtr (.v (.int .i64 a)) (.v (.int .i64 b))=some (.v (.bool (decide (b<a)))):=rfl
theorem ab9:dC .geq (.v (.int .i64 a)) (.v (.int .i64 b))=some (.v (.bool (decide (b≤a)))):=rfl
theorem ato:unOp .not (.v (.bool c))=some (.v (.bool !c)):=rfl
theorem atn:unOp .neg (.v (.int .i64 a))=some (.v (.int .i64 (IntKind.i64.wrap (-a)))):=by simp[unOp]
theorem aoV:sC true [.v (.int .i64 a),.v (.int .i64 b)]=some (.v (.int .i64 (max a b))):=by
 have:(if b>a then b else a)=max a b:=by split<;>omega
 simp only[sC,xt,BP,bZ,this]
theorem aoX:sC false [.v (.int .i64 a),.v (.int .i64 b)]=some (.v (.int .i64 (min a b))):=by
 have:(if b<a then b else a)=min a b:=by split<;>omega
 simp[sC,xt,BP,this]
theorem aeG {k k':IntKind}:mM (.int k) (.v (.int k' a))=some (.v (.int k (k.wrap a))):=rfl
theorem aco:dC .shr (.v (.int .u64 a)) (.v (.int .u64 1))=some (.v (.int .u64 (a/2))):=by
 have:a.fdiv 2=a/2:=by rw[abj _ (by decide)]
 simp[dC,qe,tU,IntKind.bits,this]
theorem aoW {c':Int}:sC true [.v (.int .i64 a),.v (.int .i64 b),.v (.int .i64 c')]=some (.v (.int .i64 (max (max a b) c'))):=by
 have h1:(if b>a then b else a)=max a b:=by split<;>omega
 have h2:(if c'>max a b then c' else max a b)=max (max a b) c':=by split<;>omega
 simp only[sC,xt,BP,bZ,h1,h2]
theorem afh {x:AV} {r:List AV}:yA 0 (.tuple (x::r))=some x:=rfl
theorem afi {x y:AV} {r:List AV}:yA 1 (.tuple (x::y::r))=some y:=rfl
theorem afj {x y z:AV} {r:List AV}:yA 2 (.tuple (x::y::z::r))=some z:=rfl
theorem aox {o:Own} {es:Nat} {xs:List (List AV)}:mm false (.slice o es xs)=some (.v (.int .i64 xs.length)):=rfl
theorem aoy {x:ByteArray}:mm true (.v (.string x))=some (.v (.int .i64 x.size)):=rfl
theorem af8 {rs:List iE} {own:Bool} {st:St}:aU rs own .normal st=finish rs own st:=rfl
theorem af9 {rs:List iE} {own:Bool} {st:St}:aU rs own .ret st=finish rs own st:=rfl
theorem agf {rs:List iE} {st:St}:finish rs false st=(sK st rs).map fun l=>(packed l,st.sig.pop):=rfl
theorem arX {st:St}:sK st []=some []:=rfl
theorem arW {st:St} {r:iE} {rest:List iE}:sK st (r::rest)=(((sJ st r).bind (ed st.sig)).bind fun x=>(sK st rest).map fun s=>x::s):=by
 simp only[sK]
 cases(sJ st r).bind (ed st.sig)<;>cases sK st rest<;>rfl
theorem arL {ρ:Nat→AV} {m:ae} {t:Nat}:sJ ⟨ρ,m⟩ (.tmp t)=some (ρ t):=rfl
theorem arK {ρ:Nat→AV} {m:ae} {g:Bool} {n t:Nat}:sJ ⟨ρ,m⟩ (.cell g n t)=m.load g n (ρ t):=rfl
theorem aqs:packed []=.tuple []:=rfl
theorem aqt {x:AV}:packed [x]=x:=rfl
theorem aqu {x y:AV} {r:List AV}:packed (x::y::r)=.tuple (x::y::r):=rfl
section
variable{m:ae} {x:Value} {cs:List AV}
theorem aoe {k:IntKind} {n:Int}:ed m (.v (.int k n))=some (.v (.int k n)):=rfl
theorem an8 {b:Bool}:ed m (.v (.bool b))=some (.v (.bool b)):=rfl
theorem aoj {b:ByteArray}:ed m (.v (.string b))=some (.v (.string b)):=rfl
theorem an6:ed m (.agg cs)=(py m cs).map .agg:=rfl
theorem aof {es:Nat} {xs:List (List AV)}:ed m (.slice .aA es xs)=some (.slice .aA es xs):=rfl
theorem an7 {es:Nat} {xs:List (List AV)}:ed m (.slice .any es xs)=some (.slice .any es xs):=rfl
theorem aod {es:Nat} {xs:List (List AV)}:ed m (.slice .full es xs)=some (.slice .full es xs):=rfl
theorem aok {d g es:Nat} {xs:List (List AV)}:ed m (.slice (.tok d g) es xs)=some (.slice .any es xs):=rfl
theorem aov:py m []=some []:=rfl
theorem leaves_cons {x:AV} {r:List AV}:py m (x::r)=(eD m x).bind fun y=>(py m r).map fun s=>y::s:=by
 simp only[py]
 cases eD m x<;>cases py m r<;>rfl
theorem aoo {k:IntKind} {n:Int}:eD m (.v (.int k n))=some (.v (.int k n)):=rfl
theorem aom {b:Bool}:eD m (.v (.bool b))=some (.v (.bool b)):=rfl
theorem aot {b:ByteArray}:eD m (.v (.string b))=some (.v (.string b)):=rfl
theorem aoq {es:Nat} {xs:List (List AV)}:eD m (.slice .aA es xs)=some (.slice .aA es xs):=rfl
theorem aol {es:Nat} {xs:List (List AV)}:eD m (.slice .any es xs)=some (.slice .any es xs):=rfl
theorem aon {es:Nat} {xs:List (List AV)}:eD m (.slice .full es xs)=some (.slice .full es xs):=rfl
theorem aou {d g es:Nat} {xs:List (List AV)}:eD m (.slice (.tok d g) es xs)=some (.slice .any es xs):=rfl
end
end
attribute [go_sem] aeG aco ab5 acp aci SH SJ ab6 acj acg ace acb ab9 ato atn aoV aoW aoX afh afi afj aox aoy
attribute [go_sem] af8 af9 agf arX arW arL arK aqs aqt aqu aoe an8 aoj an6 aof an7 aod aok aov leaves_cons aoo aom aot aoq aol aon aou
attribute [go_sem] pop_push dP eL LK Option.bind_none gO nj kh kg AV.cells dJ iY AV.bu vG Co sQ iF Hk Lt kI RF R1 Ly Hu RW ac6 ac5 ac9 ac8 GP n9 lZ oR aef NA aei aee aeh aek
section
variable{o:Own} {es:Nat} {xs:List (List AV)} {k:Nat} {row:List AV}
theorem BJ (h:xs[k]? =some row):jS none es (.slice o es xs) (.v (.int .i64 (k:Int)))=some (.bo row 0):=by
 have hk:k<xs.length:=(aY.1 h).1
 have:(0:Int)≤(k:Int)∧(k:Int)<(xs.length:Int):=by omega
 simp only[jS,bZ,idx,ak this,eL,Hf,h,dP]
theorem idx_eq {k:IntKind} {n:Int} {len:Nat}:idx (.v (.int k n)) len=if 0≤n∧n<len then some n.toNat else none:=rfl
theorem akD {n es:Nat} {g:Bool} {cs:List AV} {j:AV}:Gs n es g (.agg cs) j=(idx j n).bind fun k=>part g es cs (k*es):=rfl
theorem af3 {n off:Nat} {g:Bool} {cs:List AV}:Fl g n off (.agg cs)=part g n cs off:=rfl
theorem akp {n d b off es:Nat} {j:AV}:jS (some n) es (.ptr d b off) j=(idx j n).map fun k=>.ptr d b (off+k*es):=rfl
theorem ako {n off es:Nat} {cs:List AV} {j:AV}:jS (some n) es (.bo cs off) j=(idx j n).map fun k=>.bo cs (off+k*es):=rfl
theorem atM (x:Int):IntKind.i64.wrap x=if 9223372036854775808≤x%18446744073709551616 then x%18446744073709551616-18446744073709551616 else x%18446744073709551616:=by
 have e1:((2:Int)^(64:Nat))=18446744073709551616:=by decide
 have e2:((2:Int)^(64-1:Nat))=9223372036854775808:=by decide
 show(if(true&&decide (x%(2:Int)^(64:Nat)≥(2:Int)^(64-1:Nat)))=true then x%(2:Int)^(64:Nat)-(2:Int)^(64:Nat)else x%(2:Int)^(64:Nat))=_
 simp only[e1,e2,iF,dx,ge_iff_le]
theorem bR {x:Int} (h1:-9223372036854775808≤x) (h2:x<9223372036854775808):IntKind.i64.wrap x=x:=by
 rw[atM];split<;>omega
theorem bJ {k n:Nat} (h:k<n) (hn:(n:Int)<9223372036854775808):IntKind.i64.wrap ((k:Int)+1)=((k+1:Nat):Int):=by
 rw[bR]<;>omega
end
section
variable{c:Bool} {x y z:AV} {a b:Bool} {n k:Int}
theorem adR:cond c (cond c x y) z=cond c x z:=by cases c<;>rfl
theorem adS:cond c x (cond c y z)=cond c x z:=by cases c<;>rfl
theorem adO:cond c (AV.v (.bool a)) (AV.v (.bool b))=.v (.bool (cond c a b)):=by cases c<;>rfl
theorem adQ:cond c (AV.v (.int .i64 n)) (AV.v (.int .i64 k))=.v (.int .i64 (cond c n k)):=by cases c<;>rfl
theorem adP:cond c a false=(c&&a):=by cases c<;>simp
theorem adT:cond c true a=(c||a):=by cases c<;>simp
end
attribute [go_sem] bR idx_eq akD af3 akp ako and_true K7 nr jH nV beq_self_eq_true Bool.cond_self pR th adR adS adO adQ adP adT
end Go.Ax.Sx
/-
  How plain data look to the executor; loops over slices.
-/
namespace Go.Ax.Sx
abbrev I (n:Int):AV:=.v (.int .i64 n)
abbrev B (b:Bool):AV:=.v (.bool b)
def PL (x:Int):Prop:=-9223372036854775808≤x∧x<9223372036854775808
def ints (l:List Int):List (List AV):=l.map fun n=>[I n]
theorem akJ {l:List Int}:(ints l).length=l.length:=by simp[ints]
theorem akI {l:List Int} {k:Nat} {x:Int} (h:l[k]? =some x):(ints l)[k]? =some [I x]:=by simp[ints,h]
section
variable{AP:FuncId→Option aI} {F:c8→St→Option (AV×ae)} {L:au} {ks:List K}
theorem cq (N:Nat) (P:Nat→(Nat→AV)→ae→Prop) (R:Nat→Option (AV×ae))
  (step:∀k ρ m,k<N→P k ρ m→(∀ρ' m',P (k+1) ρ' m'→go AP F (.c (.loop L)::ks) ⟨ρ',m'⟩=R (k+1))→go AP F (.c L::.lp L::ks) ⟨ρ,m⟩=R k)
  (last:∀ρ m,P N ρ m→go AP F (.c L::.lp L::ks) ⟨ρ,m⟩=R N):
  ∀k ρ m,k≤N→P k ρ m→go AP F (.c (.loop L)::ks) ⟨ρ,m⟩=R k:=by
 intro k ρ m hk hP
 induction h:N-k generalizing k ρ m with
 |zero=>
  have e:k=N:=by omega
  subst e
  rw[go_loop];exact last ρ m hP
 |succ n ih=>
  rw[go_loop]
  exact step k ρ m (by omega) hP (fun ρ' m' uP=>ih (k+1) ρ' m' (by omega) uP (by omega))
theorem P5 (hi:Int) (P:Int→(Nat→AV)→ae→Prop) (R:Int→Option (AV×ae))
  (step:∀i ρ m,i≤hi→P i ρ m→(∀ρ' m',P (i+1) ρ' m'→go AP F (.c (.loop L)::ks) ⟨ρ',m'⟩=R (i+1))→go AP F (.c L::.lp L::ks) ⟨ρ,m⟩=R i)
  (last:∀i ρ m,hi<i→P i ρ m→go AP F (.c L::.lp L::ks) ⟨ρ,m⟩=R i):
  ∀i ρ m,P i ρ m→go AP F (.c (.loop L)::ks) ⟨ρ,m⟩=R i:=by
 intro i ρ m hP
 induction h:(hi+1-i).toNat generalizing i ρ m with
 |zero=>rw[go_loop];exact last i ρ m (by omega) hP
 |succ n ih=>
  rw[go_loop]
  exact step i ρ m (by omega) hP (fun ρ' m' uP=>ih (i+1) ρ' m' uP (by omega))
theorem Yq (N:Nat) (P:Nat→(Nat→AV)→ae→Prop) (R:Option (AV×ae)→Prop)
  (step:∀k ρ m,k<N→P k ρ m→(∀ρ' m',P (k+1) ρ' m'→R (go AP F (.c (.loop L)::ks) ⟨ρ',m'⟩))→R (go AP F (.c L::.lp L::ks) ⟨ρ,m⟩))
  (last:∀ρ m,P N ρ m→R (go AP F (.c L::.lp L::ks) ⟨ρ,m⟩)):
  ∀k ρ m,k≤N→P k ρ m→R (go AP F (.c (.loop L)::ks) ⟨ρ,m⟩):=by
 intro k ρ m hk hP
 induction h:N-k generalizing k ρ m with
 |zero=>
  have e:k=N:=by omega
  subst e
  rw[go_loop];exact last ρ m hP
 |succ n ih=>
  rw[go_loop]
  exact step k ρ m (by omega) hP (fun ρ' m' uP=>ih (k+1) ρ' m' (by omega) uP (by omega))
theorem aoG (hi:Int) (P:Int→(Nat→AV)→ae→Prop) (R:Option (AV×ae)→Prop)
  (step:∀i ρ m,i≤hi→P i ρ m→(∀ρ' m',P (i+1) ρ' m'→R (go AP F (.c (.loop L)::ks) ⟨ρ',m'⟩))→R (go AP F (.c L::.lp L::ks) ⟨ρ,m⟩))
  (last:∀i ρ m,hi<i→P i ρ m→R (go AP F (.c L::.lp L::ks) ⟨ρ,m⟩)):
  ∀i ρ m,P i ρ m→R (go AP F (.c (.loop L)::ks) ⟨ρ,m⟩):=by
 intro i ρ m hP
 induction h:(hi+1-i).toNat generalizing i ρ m with
 |zero=>rw[go_loop];exact last i ρ m (by omega) hP
 |succ n ih=>
  rw[go_loop]
  exact step i ρ m (by omega) hP (fun ρ' m' uP=>ih (i+1) ρ' m' uP (by omega))
theorem eo {α:Type} {l:List α} {k:Nat} {x:α} (h:l[k]? =some x):l.drop k=x::l.drop (k+1):=by
 have hk:=(aY.1 h).1
 rw[List.drop_eq_getElem_cons hk];congr 1
 exact(aY.1 h).2
theorem get_some {α:Type} {l:List α} {k:Nat} (h:k<l.length):∃x,l[k]? =some x:=⟨l[k],cM h⟩
theorem fi {α:Type} {l:List α} {k:Nat} {x:α} (h:l[k]? =some x):l.take (k+1)=l.take k++[x]:=by
 rw[List.take_add_one,h];rfl
theorem aR {k n:Nat} (h:k<n):decide ((k:Int)<(n:Int))=true:=by simp;omega
theorem bM (n:Nat):decide ((n:Int)<(n:Int))=false:=by simp
end
theorem dec_lt (a b:Int):decide (b<a)=!decide (a≤b):=by
 by_cases h:a≤b
 ·simp[h]
 ·simp[h];omega
section
variable{α:Type} {l r:List α} {x x1 x2 x3 y:α}
theorem at_len:(l++x::r)[l.length]? =some x:=by simp
theorem rH:(l++x1::x::r)[l.length+1]? =some x:=by simp
theorem acx:(l++x1::x2::x::r)[l.length+1+1]? =some x:=by
 rw[gM (by omega)];simp[show l.length+1+1-l.length=2 by omega]
theorem acy:(l++x1::x2::x3::x::r)[l.length+1+1+1]? =some x:=by
 rw[gM (by omega)];simp[show l.length+1+1+1-l.length=3 by omega]
theorem oK:(l++x::r).set l.length y=l++y::r:=by simp
theorem rk:(l++x1::x::r).set (l.length+1) y=l++x1::y::r:=by
 rw[Ht _ _ (by omega)];simp
theorem asI:(l++x1::x2::x::r).set (l.length+1+1) y=l++x1::x2::y::r:=by
 rw[Ht _ _ (by omega)];simp[show l.length+1+1-l.length=2 by omega]
theorem asJ:(l++x1::x2::x3::x::r).set (l.length+1+1+1) y=l++x1::x2::x3::y::r:=by
 rw[Ht _ _ (by omega)];simp[show l.length+1+1+1-l.length=3 by omega]
theorem qW:(l++[x]).length=l.length+1:=by simp
theorem Gy:(l++[x,x1]).length=l.length+1+1:=by simp
theorem aow:(l++[x,x1,x2]).length=l.length+1+1+1:=by simp
end
attribute [go_sem] at_len rH acx acy oK rk asI asJ qW Gy aow gL
def bp (es:Nat):List (List AV)→AV
 |[]=>.slice .aA 0 []
 |x::r=>.slice .any es (x::r)
def Acc (d es:Nat) (xs:List (List AV)) (x:AV) (og:Option Nat) (toks:List (Option Nat)):Prop:=
 match og with
 |none=>xs=[]∧x=.slice .aA 0 []
 |some g=>xs≠[]∧x=.slice (.tok d g) es xs∧toks[g]? =some (some xs.length)
theorem Acc.start {d es:Nat} {toks:List (Option Nat)}:Acc d es [] (.slice .aA 0 []) none toks:=⟨rfl,rfl⟩
theorem Acc.append {s:ae} {es:Nat} {xs:List (List AV)} {x:AV} {og:Option Nat} {toks:List (Option Nat)} (h:Acc s.ag.length es xs x og toks) (hs:Ok s) (o:Own) {ys:List (List AV)} (hy:ys≠[]) (hl:xs.length+ys.length≤4294967296):
  ∃x' gv toks',(∀boxes,ej (s.push ⟨boxes,toks⟩) es x (.slice o es ys)=some (x',s.push ⟨boxes,toks'⟩))∧Acc s.ag.length es (xs++ys) x' gv toks'∧gv≠none∧
   (∀oS pI x2 eS,Acc s.ag.length oS pI x2 eS toks→(eS≠og∨eS=none)→Acc s.ag.length oS pI x2 eS toks'∧eS≠gv):=by
 have sv:ys.isEmpty=false:=by cases ys<;>simp_all
 cases og with
 | none =>
  obtain⟨rfl,rfl⟩:=h
  refine⟨.slice (.tok s.ag.length toks.length) es ys,some toks.length,toks++[some ys.length],fun boxes=>?_,⟨by simpa using hy,rfl,by simp⟩,by simp,?_⟩
  ·have:ys.length≤4294967296:=by simpa using hl
   simp[ej,sv,Own.isNil,di,this,oH,nq]
  ·intro oS pI x2 eS h2 _
   cases eS with
   |none=>exact⟨h2,by simp⟩
   |some g=>
    obtain⟨a,b,c⟩:=h2
    have:=(aY.1 c).1
    exact⟨⟨a,b,by rw[dB this];exact c⟩,by simp;omega⟩
 | some g =>
  obtain⟨hx,rfl,hg⟩:=h
  refine⟨.slice (.tok s.ag.length g) es (xs++ys),some g,toks.set g (some (xs.length+ys.length)),fun boxes=>?_,⟨by simp[hx],rfl,?_⟩,by simp,?_⟩
  ·simp[ej,sv,di,hl,xF,hg,KY,hs.ro,GR]
  ·rw[mE (aY.1 hg).1];simp
  ·intro oS pI x2 eS h2 aB
   cases eS with
   |none=>exact⟨h2,by simp⟩
   |some g2=>
    obtain⟨a,b,c⟩:=h2
    have aB:g2≠g:=by rcases aB with h|h<;>simp_all
    exact⟨⟨a,b,by rw[eK (fun e=>aB e.symm)];exact c⟩,by simpa using aB⟩
section
variable{d es:Nat} {xs:List (List AV)} {x:AV} {og:Option Nat} {toks:List (Option Nat)}
theorem Acc.leave (h:Acc d es xs x og toks) (m:ae):ed m x=some (bp es xs):=by
 cases og with
 |none=>obtain⟨rfl,rfl⟩:=h;rfl
 |some g=>
  obtain⟨hx,rfl,_⟩:=h
  cases xs with
  |nil=>exact absurd rfl hx
  |cons a r=>rfl
theorem Acc.BL (h:Acc d es xs x og toks) (m:ae):eD m x=some (bp es xs):=by
 cases og with
 |none=>obtain⟨rfl,rfl⟩:=h;rfl
 |some g=>
  obtain⟨hx,rfl,_⟩:=h
  cases xs with
  |nil=>exact absurd rfl hx
  |cons a r=>rfl
theorem Acc.close (h:Acc d es xs x og toks):x.close=some (bp es xs):=by
 cases og with
 |none=>obtain⟨rfl,rfl⟩:=h;rfl
 |some g=>
  obtain⟨hx,rfl,_⟩:=h
  cases xs with
  |nil=>exact absurd rfl hx
  |cons a r=>rfl
theorem Acc.len (h:Acc d es xs x og toks):mm false x=some (.v (.int .i64 xs.length)):=by
 cases og with
 |none=>obtain⟨rfl,rfl⟩:=h;rfl
 |some g=>obtain⟨hx,rfl,_⟩:=h;rfl
theorem Acc.bu (h:Acc d es xs x og toks):x.bu=true:=by
 cases og with
 |none=>obtain⟨rfl,rfl⟩:=h;rfl
 |some g=>obtain⟨hx,rfl,_⟩:=h;rfl
end
def wD:List (List AV)→Own
 |[]=>.full
 |_::_=>.any
def tY (d es:Nat) (xs:List (List AV)) (x:AV) (og:Option Nat) (toks:List (Option Nat)):Prop:=
 match og with
 |none=>xs=[]∧x=.slice .full es []
 |some g=>xs≠[]∧x=.slice (.tok d g) es xs∧toks[g]? =some (some xs.length)
theorem tY.start {d es:Nat} {toks:List (Option Nat)}:tY d es [] (.slice .full es []) none toks:=⟨rfl,rfl⟩
theorem tY.append {s:ae} {es:Nat} {xs:List (List AV)} {x:AV} {og:Option Nat} {toks:List (Option Nat)} (h:tY s.ag.length es xs x og toks) (hs:Ok s) (o:Own) {ys:List (List AV)} (hy:ys≠[]) (hl:xs.length+ys.length≤4294967296):
  ∃x' gv toks',(∀boxes,ej (s.push ⟨boxes,toks⟩) es x (.slice o es ys)=some (x',s.push ⟨boxes,toks'⟩))∧tY s.ag.length es (xs++ys) x' gv toks'∧gv≠none∧
   (∀oS pI x2 eS,tY s.ag.length oS pI x2 eS toks→(eS≠og∨eS=none)→tY s.ag.length oS pI x2 eS toks'∧eS≠gv):=by
 have sv:ys.isEmpty=false:=by cases ys<;>simp_all
 cases og with
 | none =>
  obtain⟨rfl,rfl⟩:=h
  refine⟨.slice (.tok s.ag.length toks.length) es ys,some toks.length,toks++[some ys.length],fun boxes=>?_,⟨by simpa using hy,rfl,by simp⟩,by simp,?_⟩
  ·have:ys.length≤4294967296:=by simpa using hl
   simp[ej,sv,Own.isNil,di,this,oH,nq]
  ·intro oS pI x2 eS h2 _
   cases eS with
   |none=>exact⟨h2,by simp⟩
   |some g=>
    obtain⟨a,b,c⟩:=h2
    have:=(aY.1 c).1
    exact⟨⟨a,b,by rw[dB this];exact c⟩,by simp;omega⟩
 | some g =>
  obtain⟨hx,rfl,hg⟩:=h
  refine⟨.slice (.tok s.ag.length g) es (xs++ys),some g,toks.set g (some (xs.length+ys.length)),fun boxes=>?_,⟨by simp[hx],rfl,?_⟩,by simp,?_⟩
  ·simp[ej,sv,di,hl,xF,hg,KY,hs.ro,GR]
  ·rw[mE (aY.1 hg).1];simp
  ·intro oS pI x2 eS h2 aB
   cases eS with
   |none=>exact⟨h2,by simp⟩
   |some g2=>
    obtain⟨a,b,c⟩:=h2
    have aB:g2≠g:=by rcases aB with h|h<;>simp_all
    exact⟨⟨a,b,by rw[eK (fun e=>aB e.symm)];exact c⟩,by simpa using aB⟩
theorem tY.leave {d es:Nat} {xs:List (List AV)} {x:AV} {og:Option Nat} {toks:List (Option Nat)} (h:tY d es xs x og toks) (m:ae):ed m x=some (.slice (wD xs) es xs):=by
 cases og with
 |none=>obtain⟨rfl,rfl⟩:=h;rfl
 |some g=>
  obtain⟨hx,rfl,_⟩:=h
  cases xs with
  |nil=>exact absurd rfl hx
  |cons a r=>rfl
theorem aew {s:ae} {r:Rec} {es:Nat} {x:AV} {xs:List (List AV)} {o:Own} (hx:x=.slice o es xs) (hl:xs.length≤4294967296):
  ∃x' t',ej (s.push r) es (.slice .full es []) x=some (x',s.push ⟨r.boxes,t'⟩)∧∀m,ed m x'=some (.slice (wD xs) es xs):=by
 subst hx
 cases xs with
 |nil=>exact⟨.slice .full es [],r.toks,by simp[ej],fun m=>rfl⟩
 |cons a l=>
  refine⟨.slice (.tok s.ag.length r.toks.length) es (a::l),r.toks++[some (l.length+1)],?_,fun m=>rfl⟩
  have qJ:l.length+1≤4294967296:=by simpa using hl
  simp[ej,Own.isNil,di,qJ,oH,nq]
theorem BI {es k:Nat} {xs:List (List AV)} {row:List AV} (h:xs[k]? =some row):jS none es (bp es xs) (.v (.int .i64 (k:Int)))=some (.bo row 0):=by
 cases xs with
 |nil=>simp at h
 |cons a r=>exact BJ h
theorem Gx {es:Nat} {xs:List (List AV)}:mm false (bp es xs)=some (.v (.int .i64 xs.length)):=by cases xs<;>rfl
theorem Yh {es:Nat} {xs:List (List AV)} {m:ae}:ed m (bp es xs)=some (bp es xs):=by cases xs<;>rfl
theorem Yj {es:Nat} {xs:List (List AV)} {m:ae}:eD m (bp es xs)=some (bp es xs):=by cases xs<;>rfl
theorem aed {es:Nat} {xs:List (List AV)}:(bp es xs).close=some (bp es xs):=by cases xs<;>rfl
theorem XV {es:Nat} {xs:List (List AV)}:(bp es xs).bu=true:=by cases xs<;>rfl
theorem I3 {es:Nat} {xs:List (List AV)}:(bp es xs).cells=[bp es xs]:=by cases xs<;>rfl
attribute [go_sem] Gx Yh Yj aed XV I3
def dS:List Int→Int
 |[]=>0
 |e::r=>if e=0 then dS r else e
end Go.Ax.Sx
/-
  Loops over functions: the rounds.
-/
namespace Go.Ax.Sx
section
variable{AP:FuncId→Option aI} {Fin:c8→St→Option (AV×ae)} {ks:List K} {ρ:Nat→AV} {m S:ae} {l:Nat} {lp:dA}
noncomputable def A2 (AP:FuncId→Option aI) (Fin:c8→St→Option (AV×ae)) (l:Nat) (ks:List K) (ρ:Nat→AV) (s:ae):Option (AV×ae):=
 (xn s l).bind fun p=>je AP Fin ks (p.1.getD .normal) ⟨ρ,p.2⟩
theorem N6 {x:aF} {ps:List Nat} {a b:au} {g:FuncId} {first caps:List AV} (h:aE ρ x=.fn g first caps):
  go AP Fin (.c (.rangeFunc x ps a b)::ks) ⟨ρ,m⟩=(aw AP (.fn g) (first++.yield m.loops.length::caps) (enterLoop m ⟨true,none,ρ,ps,a,b⟩)).bind fun p=>A2 AP Fin m.loops.length ks ρ p.2:=by
 simp only[go,je,asd,h,A2]
 cases aw AP (.fn g) (first++.yield m.loops.length::caps) (enterLoop m ⟨true,none,ρ,ps,a,b⟩)with
 |none=>rfl
 |some p=>
  obtain⟨x,s⟩:=p
  simp only[eL]
  cases xn s m.loops.length with
  |none=>rfl
  |some q=>rfl
theorem Yi (h:m.loops.length=l) (hr:lp.ready=true∨lp.eI.isSome=true):xn (enterLoop m lp) l=some (lp.eI,m):=by
 subst h
 have:(lp.ready=true∨lp.eI.isSome=true):=hr
 simp[xn,enterLoop,this]
theorem N5 (h:m.loops.length=l) (hr:lp.ready=true) (hp:lp.eI=none):A2 AP Fin l ks ρ (enterLoop m lp)=go AP Fin ks ⟨ρ,m⟩:=by
 rw[A2,Yi h (.inl hr),hp];rfl
theorem agZ (h:m.loops.length=l) (hp:lp.eI=some .ret):A2 AP Fin l ks ρ (enterLoop m lp)=Fin .ret ⟨ρ,m⟩:=by
 rw[A2,Yi h (.inr (by simp[hp])),hp]
 exact Ft (ks:=ks)
structure mG (l:Nat) (lp:dA) (S:ae):Prop where
 get:S.loops[l]? =some lp
 ready:lp.ready=true
 eI:lp.eI=none
 bg:S.bg≤l
def busy (l:Nat) (S:ae):ae:=eA S l fun p=>{p with ready:=false}
def over (l:Nat) (e:c8) (S:ae):ae:=eA S l fun p=>{p with ready:=false,eI:=some e}
theorem ade {d b:Nat}:(busy l S).box d b=S.box d b:=rfl
theorem Ok.busy (h:Ok S):Ok (busy l S):=⟨h.ro,by have:=h.bg;simp[Sx.busy,eA];exact this⟩
theorem Ok.over {e:c8} (h:Ok S):Ok (over l e S):=⟨h.ro,by have:=h.bg;simp[Sx.over,eA];exact this⟩
theorem Ok.enter (h:Ok S):Ok (enterLoop S lp):=⟨h.ro,by have:=h.bg;simp[enterLoop];omega⟩
theorem ae0 {d b:Nat}:(enterLoop S lp).box d b=S.box d b:=rfl
theorem Q7 {r:Rec} {f:dA→dA}:eA (S.push r) l f=(eA S l f).push r:=rfl
theorem U7 {ρ:Nat→AV} {ps:List Nat} {a b:au} (h:Ok m):mG m.loops.length ⟨true,none,ρ,ps,a,b⟩ (enterLoop m ⟨true,none,ρ,ps,a,b⟩):=⟨by simp[enterLoop],rfl,rfl,h.bg⟩
theorem mG.push (h:mG l lp S) (r:Rec):mG l lp (S.push r):=⟨h.get,h.ready,h.eI,h.bg⟩
theorem adb (h:mG l lp S):eA (busy l S) l (fun p=>{p with ready:=true,eI:=none})=S:=by
 have e:(S.loops.modify l fun p=>{p with ready:=false}).modify l (fun p=>{p with ready:=true,eI:=none})=S.loops:=by
  apply pK
  intro i
  simp only[vH]
  by_cases hi:l=i
  ·subst hi
   have:=h.get
   rw[this]
   obtain⟨a,b,c,d,f,g⟩:=lp
   have h1:=h.ready
   have h2:=h.eI
   simp at h1 h2
   simp[h1,h2]
  ·simp[hi]
 simp only[busy,eA,e]
noncomputable def Jp (AP:FuncId→Option aI) (l:Nat) (body:au) (e:c8) (st:St):Option (AV×ae):=
 match e with
 |.normal=>if BO st.sig l=true then go AP (qA l) [.c body] ⟨st.tmps,busy l st.sig⟩else none
 |_=>none
theorem ahi {body:au} {st:St}:go AP (qA l) [.c body] st=endRound l (fJ AP body st):=by
 simp only[go,je,qA]
 cases fJ AP body st with
 |none=>rfl
 |some p=>rfl
theorem Nw {as:List AV} (h:mG l lp S) (hl:as.length=lp.params.length):
  aw AP (.yield l) as S=go AP (Jp AP l lp.body) [.c lp.assign] ⟨tT lp.tmps lp.params as,S.push ⟨[],[]⟩⟩:=by
 rw[adt,h.get]
 simp only
 rw[ak ⟨h.ready,h.bg,hl⟩]
 simp only[go,je,Jp]
 cases fJ AP lp.assign ⟨tT lp.tmps lp.params as,S.push ⟨[],[]⟩⟩with
 |none=>rfl
 | some p =>
  obtain⟨e,st⟩:=p
  cases e with
  |normal=>
   simp only[eL]
   have:=ahi (AP:=AP) (l:=l) (body:=lp.body) (st:=⟨st.tmps,busy l st.sig⟩)
   simp only[go,je]at this
   rw[this];rfl
  |exit j=>rfl
  |ret=>rfl
theorem Jq {body:au} {r:Rec} (h:mG l lp S):Jp AP l body .normal ⟨ρ,S.push r⟩=go AP (qA l) [.c body] ⟨ρ,(busy l S).push r⟩:=by
 have:BO (S.push r) l=true:=by
  simp only[BO,ae.push,h.get,h.ready]
 simp only[Jp,this,bZ];rfl
theorem NZ {r:Rec} (h:mG l lp S):qA l .normal ⟨ρ,(busy l S).push r⟩=some (.v (.bool true),S):=by
 simp only[qA,endRound,Q7,adb h,pop_push]
theorem Y6 {e:c8}:eA (busy l S) l (fun p=>{p with ready:=false,eI:=some e})=over l e S:=by
 have:(S.loops.modify l fun p=>{p with ready:=false}).modify l (fun p=>{p with ready:=false,eI:=some e})=S.loops.modify l fun p=>{p with ready:=false,eI:=some e}:=by
  apply pK
  intro i
  simp only[vH]
  by_cases hi:l=i
  ·cases S.loops[i]? <;>simp[hi]
  ·simp[hi]
 simp only[busy,over,eA,this]
theorem aga {r:Rec}:qA l .ret ⟨ρ,(busy l S).push r⟩=some (.v (.bool false),over l .ret S):=by
 simp only[qA,endRound,Q7,Y6,pop_push]
theorem agb {r:Rec} {j:Nat}:qA l (.exit j) ⟨ρ,(busy l S).push r⟩=some (.v (.bool false),over l (.exit j) S):=by
 simp only[qA,endRound,Q7,Y6,pop_push]
theorem GQ {p:Nat} {x:AV}:tT ρ [p] [x]=put p x ρ:=rfl
theorem asG:tT ρ [] []=ρ:=rfl
end
section
variable{S s:ae} {r:Rec} {d b l:Nat} {lp:dA}
theorem aoK:s.ag.length<(s.push r).ag.length:=by simp[ae.push]
theorem aoJ (h:d<S.ag.length):d<(S.push r).ag.length:=by simp[ae.push];omega
theorem aoH (h:d<S.ag.length):d<(busy l S).ag.length:=h
theorem aoI (h:d<S.ag.length):d<(enterLoop S lp).ag.length:=h
theorem ac2 (h:d<S.ag.length):(S.push r).box d b=S.box d b:=by
 simp only[ae.box,ae.push]
 rw[dB h]
theorem ac1:((busy l S).push r).box S.ag.length b=r.boxes[b]? :=iI (busy l S) r b
theorem acw {α:Type} {l r:List α} {k:Nat}:(l++r)[l.length+k]? =r[k]? :=by
 rw[gM (by omega)];congr 1;omega
theorem asH {α:Type} {l r:List α} {k:Nat} {y:α}:(l++r).set (l.length+k) y=l++r.set k y:=by
 rw[Ht _ _ (by omega)];congr 2;omega
end
attribute [go_sem] asH
attribute [go_sem] aoK aoJ aoH aoI ac2 ac1 acw ck
attribute [go_sem] ade Ok.busy Ok.over Ok.enter ae0 aga agb GQ asG
end Go.Ax.Sx
/-
  Slices that came in: their cells and who owns them.
-/
namespace Go.Ax.Sx
structure Sl (α:Type)where
 o:Own
 e:Nat
 l:List α
abbrev Sl.v {α:Type} (f:α→List AV) (x:Sl α):AV:=.slice x.o x.e (x.l.map f)
def Sl.ok {α:Type} (n:Nat) (x:Sl α):Prop:=(x.l=[]∨x.e=n)∧(x.o=.any∨x.o=.full∨(x.o=.aA∧x.l=[]))
section
variable{α:Type} {f:α→List AV} {x:Sl α} {n k:Nat} {a:α} {m:ae}
theorem cr {o:Own} {es:Nat} {l:List α} (hk:l[k]? =some a):jS none es (.slice o es (l.map f)) (.v (.int .i64 (k:Int)))=some (.bo (f a) 0):=BJ (by rw[gN,hk];rfl)
theorem Sl.ix (h:x.ok n) (hk:x.l[k]? =some a):jS none n (x.v f) (.v (.int .i64 (k:Int)))=some (.bo (f a) 0):=by
 have he:x.e=n:=by
  rcases h.1 with h|h
  ·rw[h]at hk;simp at hk
  ·exact h
 rw[Sl.v,he]
 exact BJ (by simp[hk])
theorem Sl.iT (h:x.ok n):(x.v f).iT=true:=by
 rcases h.2 with h|h|h<;>simp[Sl.v,AV.iT,h]
theorem Sl.close (h:x.ok n):(x.v f).close=some (x.v f):=by
 rcases h.2 with h|h|h<;>simp[Sl.v,AV.close,AV.isClosed,AV.iT,h]
theorem Sl.BL (h:x.ok n):eD m (x.v f)=some (x.v f):=by
 rcases h.2 with h|h|h<;>simp[Sl.v,eD,AV.close,AV.isClosed,AV.iT,h]
theorem Sl.leave (h:x.ok n):ed m (x.v f)=some (x.v f):=by
 rw[show ed m (x.v f)=eD m (x.v f)from rfl];exact Sl.BL h
end
attribute [go_sem] bE
section
variable{a b:Int} {x y:ByteArray} {k:Nat} {c:UInt8}
theorem ach:dC .lss (.v (.int .u8 a)) (.v (.int .u8 b))=some (.v (.bool (decide (a<b)))):=rfl
theorem acf:dC .leq (.v (.int .u8 a)) (.v (.int .u8 b))=some (.v (.bool (decide (a≤b)))):=rfl
theorem acd:dC .gtr (.v (.int .u8 a)) (.v (.int .u8 b))=some (.v (.bool (decide (b<a)))):=rfl
theorem aca:dC .geq (.v (.int .u8 a)) (.v (.int .u8 b))=some (.v (.bool (decide (b≤a)))):=rfl
theorem ab7:dC .eql (.v (.int .u8 a)) (.v (.int .u8 b))=some (.v (.bool (decide (a=b)))):=by
 simp only[dC,qe,sx];by_cases h:a=b<;>simp[h]
theorem ack:dC .neq (.v (.int .u8 a)) (.v (.int .u8 b))=some (.v (.bool (decide (a≠b)))):=by
 simp only[dC,qe,sx];by_cases h:a=b<;>simp[h]
theorem ab8:dC .eql (.v (.string x)) (.v (.string y))=some (.v (.bool (decide (x=y)))):=by
 have:sN .eql x y=some (.bool (decide (x=y))):=by
  simp only[sN]
  congr 2
  by_cases h:x=y
  ·simp[h]
  ·have:¬x.data=y.data:=fun e=>h (Li e)
   simp[h,this]
 simp[dC,this]
theorem acm:dC .neq (.v (.string x)) (.v (.string y))=some (.v (.bool (decide (x≠y)))):=by
 have:sN .neq x y=some (.bool (decide (x≠y))):=by
  simp only[sN]
  congr 2
  by_cases h:x=y
  ·simp[h]
  ·have:¬x.data=y.data:=fun e=>h (Li e)
   simp[h,this]
 simp[dC,this]
theorem aeF:mM .bytes (.v (.string x))=some (.slice .any 1 (byteCells x)):=rfl
theorem adh:(byteCells x).length=x.data.size:=by simp[byteCells]
theorem adg (h:x.data.toList[k]? =some c):(byteCells x)[k]? =some [.v (.int .u8 c.toNat)]:=by simp[byteCells]at h⊢;simp[h]
end
attribute [go_sem] ach acf acd aca ab7 ack ab8 acm aeF adh
theorem aog {m:ae}:ed m (.v (.pointer none))=some (.v (.pointer none)):=rfl
theorem aor {m:ae}:eD m (.v (.pointer none))=some (.v (.pointer none)):=rfl
theorem aej:(AV.v (.pointer none)).close=some (.v (.pointer none)):=rfl
theorem aoa {m:ae} {cs:List AV} {off:Nat}:ed m (.bo cs off)=some (.bo cs off):=rfl
theorem P2 {m:ae} {cs:List AV} {off:Nat}:eD m (.bo cs off)=some (.bo cs off):=rfl
theorem aeg {cs:List AV} {off:Nat}:(AV.bo cs off).close=some (.bo cs off):=rfl
theorem aoh {s:ae} {r:Rec} {b off:Nat}:ed (s.push r) (.ptr s.ag.length b off)=(r.boxes[b]?).bind fun cs=>(closeAll cs).map fun cs'=>.bo cs' off:=by
 have:ed (s.push r) (.ptr s.ag.length b off)=eD (s.push r) (.ptr s.ag.length b off):=rfl
 rw[this,eD,ak (by rw[fw]),iI]
theorem aos {s:ae} {r:Rec} {b off:Nat}:eD (s.push r) (.ptr s.ag.length b off)=(r.boxes[b]?).bind fun cs=>(closeAll cs).map fun cs'=>.bo cs' off:=by
 rw[eD,ak (by rw[fw]),iI]
attribute [go_sem] aog aor aej aoa P2 aeg aoh aos
theorem apb {d b off:Nat}:zw (.ptr d b off)=some (.ptr d b off):=rfl
theorem apa {cs:List AV} {off:Nat}:zw (.bo cs off)=some (.bo cs off):=rfl
attribute [go_sem] apb apa
theorem afd {ρ:aF→AV}:qw ρ none=none:=.trans rfl rfl
theorem afe {ρ:aF→AV} {x:aF}:qw ρ (some x)=some (ρ x):=.trans rfl rfl
attribute [go_sem ↓] afd afe
theorem ae4 {a b:Bool}:pS .bool (.v (.bool a)) (.v (.bool b))=some (a==b):=rfl
attribute [go_sem] ae4
theorem arY {m:ae} {d b:Nat}:(cB m).box d b=m.box d b:=rfl
theorem Nv {s:ae} {b0:List AV} {r:List (List AV)} {t:List (Option Nat)}:(s.push ⟨b0::r,t⟩).box s.ag.length 0=some b0:=by rw[iI];rfl
theorem T6 {s:ae} {b0 b1:List AV} {r:List (List AV)} {t:List (Option Nat)}:(s.push ⟨b0::b1::r,t⟩).box s.ag.length 1=some b1:=by rw[iI];rfl
def eW (l:List Int):Sl Int:=⟨wD (ints l),1,l⟩
theorem yv {l:List Int}:(eW l).ok 1:=by
 refine⟨.inr rfl,?_⟩
 cases l
 ·exact .inr (.inl rfl)
 ·exact .inl rfl
end Go.Ax.Sx
/-
  Functions that yield: what a round gets, and what stands behind all rounds.
-/
namespace Go.Ax.Sx
def up (S:ae) (B:List Rec) (ls:List dA):ae:={S with ag:=S.ag++B,loops:=S.loops++ls}
section
variable{S:ae} {B:List Rec} {ls:List dA} {r:Rec} {lp:dA} {d b:Nat}
theorem Lb:(up S B ls).push r=up S (B++[r]) ls:=by simp[up,ae.push]
theorem QA:S.push r=up S [r] []:=by simp[up,ae.push]
theorem ats {B':List Rec} {P6:List dA}:up (up S B ls) B' P6=up S (B++B') (ls++P6):=by simp[up]
theorem aaO:enterLoop (up S B ls) lp=up S B (ls++[lp]):=by simp[up,enterLoop]
theorem atq:(up S B ls).ag.length=S.ag.length+B.length:=by simp[up]
theorem atr:(up S B ls).loops.length=S.loops.length+ls.length:=by simp[up]
theorem Ok.up (h:Ok S):Ok (up S B ls):=⟨by have:=h.ro;simp[Sx.up];omega,by have:=h.bg;simp[Sx.up];omega⟩
theorem Lc:(up S (r::B) ls).box S.ag.length b=r.boxes[b]? :=by
 simp[ae.box,up]
theorem aaP {l:Nat} (h:mG l lp S):mG l lp (up S B ls):=
 ⟨by have:=(aY.1 h.get).1;simp only[up];rw[dB this];exact h.get,h.ready,h.eI,h.bg⟩
theorem KB {α:Type} {l l':List α} {k:Nat} {f:α→α} (h:k<l.length):(l++l').modify k f=l.modify k f++l':=by
 apply pK
 intro i
 rw[vH]
 by_cases hi:i<l.length
 ·rw[dB hi,dB (by simpa using hi),vH]
 ·rw[gM (by omega),gM (by simp;omega),Lv]
  have:¬k=i:=by omega
  simp[this]
theorem aaN {l:Nat} (h:l<S.loops.length):busy l (up S B ls)=up (busy l S) B ls:=by
 simp only[busy,eA,up,KB h]
end
section
variable{α ι:Type} (I:List α→ι→Prop) (stop:List α→α→Bool) (O:List α→α→ι→Prop)
def Ends:List α→List α→Bool→ι→Prop
 |done,[],b,i=>b=true∧I done i
 |done,x::r,b,i=>if stop done x=true then b=false∧O done x i else Ends (done++[x]) r b i
variable{I stop O}
theorem Ends.all {done xs:List α} {i:ι} (h:Ends I stop O done xs true i):I (done++xs) i:=by
 induction xs generalizing done with
 |nil=>simpa using h.2
 |cons x r ih=>
  simp only[Ends]at h
  split at h
  ·exact absurd h.1 (by simp)
  ·have:=ih h;simpa using this
theorem Ends.HM {done xs ys:List α} {i i':ι} {b:Bool} (h:Ends I stop O done xs true i) (h':Ends I stop O (done++xs) ys b i'):Ends I stop O done (xs++ys) b i':=by
 induction xs generalizing done with
 |nil=>simpa using h'
 | cons x r ih =>
  simp only[Ends,kg]at h⊢
  split at h
  ·exact absurd h.1 (by simp)
  ·rename_i hs
   rw[aq hs]
   exact ih h (by simpa using h')
theorem Ends.SB {done xs:List α} (ys:List α) {i:ι} (h:Ends I stop O done xs false i):Ends I stop O done (xs++ys) false i:=by
 induction xs generalizing done with
 |nil=>exact absurd h.1 (by simp)
 |cons x r ih=>
  simp only[Ends,kg]at h⊢
  split at h
  ·rename_i hs;rw[ak hs];exact h
  ·rename_i hs;rw[aq hs];exact ih h
theorem Ends.never {done xs:List α} {i:ι} {b:Bool} (hs:∀d x,stop d x=false) (h:Ends I stop O done xs b i):b=true∧I (done++xs) i:=by
 have:b=true:=by
  induction xs generalizing done with
  |nil=>exact h.1
  |cons x r ih=>
   simp only[Ends,hs]at h
   exact ih (by simpa using h)
 subst this
 exact⟨rfl,h.all⟩
theorem Ends.first {done xs:List α} {i:ι} (h:Ends I stop O done xs false i):∃pre x post,xs=pre++x::post∧O (done++pre) x i∧stop (done++pre) x=true∧∀p y q,pre=p++y::q→stop (done++p) y=false:=by
 induction xs generalizing done with
 |nil=>exact absurd h.1 (by simp)
 | cons x r ih =>
  simp only[Ends]at h
  split at h
  ·rename_i hs
   exact⟨[],x,r,rfl,by simpa using h.2,by simpa using hs,fun p y q e=>by simp at e⟩
  ·rename_i hs
   obtain⟨pre,y,post,e1,e2,e3,e4⟩:=ih h
   refine⟨x::pre,y,post,by simp[e1],by simpa using e2,by simpa using e3,fun p z q e=>?_⟩
   cases p with
   |nil=>
    simp only[kh,xP]at e
    rw[←e.1];simpa using hs
   |cons a p=>
    simp only[kg,xP]at e
    have:=e4 p z q e.2
    rw[e.1]at this;simpa using this
end
theorem Ends.map {α β ι κ:Type} {I:List α→ι→Prop} {stop:List α→α→Bool} {O:List α→α→ι→Prop} {mk:β→α} {f:κ→ι} {d0:List α} {I2:List β→κ→Prop} {aaw:List β→β→Bool} {O2:List β→β→κ→Prop}
  (hI:∀dn j,I2 dn j→I (d0++dn.map mk) (f j)) (hs:∀dn g,aaw dn g=stop (d0++dn.map mk) (mk g)) (hO:∀dn g j,O2 dn g j→O (d0++dn.map mk) (mk g) (f j)) {xs:List β} {b:Bool} {j:κ}:
  ∀{dn:List β},Ends I2 aaw O2 dn xs b j→Ends I stop O (d0++dn.map mk) (xs.map mk) b (f j):=by
 induction xs with
 |nil=>intro dn h;exact⟨h.1,hI _ _ h.2⟩
 | cons x r ih =>
  intro dn h
  simp only[Ends,gO]at h⊢
  rw[hs]at h
  by_cases hc:stop (d0++dn.map mk) (mk x)=true
  ·rw[ak hc]at h⊢;exact⟨h.1,hO _ _ _ h.2⟩
  ·rw[aq hc]at h⊢
   have:=ih h
   simpa using this
section
variable{S:ae} {B:List Rec} {ls:List dA} {lp:dA} {l:Nat}
theorem adf (h:S.loops.length=l):busy l (up S B (lp::ls))=up S B ({lp with ready:=false}::ls):=by
 subst h
 have:∀(L:List dA) (f:dA→dA),(L++lp::ls).modify L.length f=L++f lp::ls:=by
  intro L f
  induction L with
  |nil=>rfl
  |cons a L ih=>simpa using ih
 simp only[busy,eA,up,this]
theorem aql {e:c8} (h:S.loops.length=l):over l e (up S B (lp::ls))=up S B ({lp with ready:=false,eI:=some e}::ls):=by
 subst h
 have:∀(L:List dA) (f:dA→dA),(L++lp::ls).modify L.length f=L++f lp::ls:=by
  intro L f
  induction L with
  |nil=>rfl
  |cons a L ih=>simpa using ih
 simp only[over,eA,up,this]
theorem ZJ (hs:Ok S) (h:S.loops.length=l) (hr:lp.ready=true) (hp:lp.eI=none):mG l lp (up S B (lp::ls)):=by
 subst h
 exact⟨by simp[up],hr,hp,hs.bg⟩
end
structure Hand {α ι:Type} (AP:FuncId→Option aI) (L:Nat) (V:α→AV) (base:ι→ae) (I:List α→ι→Prop) (stop:List α→α→Bool) (O:List α→α→ι→Prop) (X:α→Prop) (N NL M:Nat):Prop where
 ok:∀i,Ok (base i)
 len:∀i,(base i).ag.length=N
 jT:∀i,(base i).loops.length=NL
 go:∀done x i B ls,done.length<M→I done i→X x→stop done x=false→∃i',aw AP (.yield L) [V x] (up (base i) B ls)=some (.v (.bool true),up (base i') B ls)∧I (done++[x]) i'
 st:∀done x i B ls,done.length<M→I done i→X x→stop done x=true→∃i',aw AP (.yield L) [V x] (up (base i) B ls)=some (.v (.bool false),up (base i') B ls)∧O done x i'
section
variable{α ι:Type} {AP:FuncId→Option aI} {L:Nat} {V:α→AV} {base:ι→ae} {I:List α→ι→Prop} {stop:List α→α→Bool} {O:List α→α→ι→Prop} {X:α→Prop} {N NL M:Nat}
theorem Hand.one (h:Hand AP L V base I stop O X N NL M) {done:List α} {x:α} {i:ι} {B:List Rec} {ls:List dA} (hm:done.length<M) (hi:I done i) (hx:X x) (r:Rec):
  ∃b i',aw AP (.yield L) [V x] ((up (base i) B ls).push r)=some (.v (.bool b),(up (base i') B ls).push r)∧Ends I stop O done [x] b i':=by
 rw[Lb]
 cases hs:stop done x with
 |false=>
  obtain⟨i',h1,h2⟩:=h.go done x i (B++[r]) ls hm hi hx hs
  exact⟨true,i',by rw[h1,Lb],by simp[Ends,hs,h2]⟩
 |true=>
  obtain⟨i',h1,h2⟩:=h.st done x i (B++[r]) ls hm hi hx hs
  exact⟨false,i',by rw[h1,Lb],by simp[Ends,hs,h2]⟩
end
structure gQ (X:Rec→ae) (d:Nat):Prop where
 get:∀r,(X r).ag[d]? =some r
 on:∀r f,(X r).br d f=X (f r)
 ro:∀r,(X r).ro≤d
theorem Yz {s:ae} {l:Nat} {lp:dA} {B:List Rec} {ls:List dA} (hs:Ok s):gQ (fun r=>up (busy l (enterLoop (s.push r) lp)) B ls) s.ag.length:=by
 refine⟨fun r=>?_,fun r f=>?_,fun r=>hs.ro⟩
 ·simp[up,busy,eA,enterLoop,ae.push]
 ·have:((s.ag++[r])++B).modify s.ag.length f=(s.ag++[f r])++B:=by
   rw[KB (by simp)]
   congr 1
   exact(iy ae.ag (zz s r f):_)
  simp only[ae.br,up,busy,eA,enterLoop,ae.push,this]
section
variable{X:Rec→ae} {d:Nat} {r r0:Rec}
theorem gQ.lt (h:gQ X d) (r:Rec):d<(X r).ag.length:=(aY.1 (h.get r)).1
theorem gQ.GG (h:gQ X d) (f:Rec→Rec):((X r).push r0).br d f=(X (f r)).push r0:=by
 rw[←h.on r f]
 simp only[ae.br,ae.push,KB (h.lt r)]
theorem gQ.box (h:gQ X d) {b:Nat}:((X r).push r0).box d b=r.boxes[b]? :=by
 have:=h.lt r
 simp only[ae.box,ae.push]
 rw[dB this,h.get r];rfl
theorem gQ.tok (h:gQ X d) {g:Nat}:((X r).push r0).tok d g=(r.toks[g]?).join:=by
 have:=h.lt r
 simp only[ae.tok,ae.push]
 rw[dB this,h.get r];rfl
theorem gQ.jW (h:gQ X d):((X r).push r0).jW d=r.toks.length:=by
 have:=h.lt r
 simp only[ae.jW,ae.push]
 rw[dB this,h.get r]
theorem gQ.dG (h:gQ X d) {b:Nat} {cs:List AV}:((X r).push r0).dG d b cs=(X ⟨r.boxes.set b cs,r.toks⟩).push r0:=h.GG _
theorem gQ.mz (h:gQ X d) {g:Nat} {n:Option Nat}:((X r).push r0).mz d g n=(X ⟨r.boxes,r.toks.set g n⟩).push r0:=h.GG _
theorem gQ.lg (h:gQ X d) {n:Nat}:((X r).push r0).lg d n=(X ⟨r.boxes,r.toks++[some n]⟩).push r0:=h.GG _
theorem Jt {m:ae} {d:Nat}:∀{cs:List AV},(cs.all AV.isClosed=true)→m.fitAll d cs=some (cs,m)
 |[],_=>rfl
 | x :: r, h => by
  simp only[vG,dI]at h
  have hx:m.fit d x=some (x,m):=by
   cases x with
   |slice o es xs=>
    cases o with
    |tok=>simp[AV.isClosed,AV.iT]at h
    |_=>simp[ae.fit,AV.close,AV.isClosed,AV.iT]
   |ptr=>simp[AV.isClosed,AV.iT]at h
   |aN=>simp[AV.isClosed,AV.iT]at h
   |_=>simp only[ae.fit,AV.close,h.1,bZ,dP]
  simp only[ae.fitAll,hx,Jt h.2]
theorem gQ.store (h:gQ X d) {b off n:Nat} {y:AV} (hc:y.cells.all AV.isClosed=true) (hn:kM n y.cells=true) {row ZP:List AV} (hb:r.boxes[b]? =some row) (ho:mq row off y.cells=some ZP):
  ((X r).push r0).store n (.ptr d b off) y=some ((X ⟨r.boxes.set b ZP,r.toks⟩).push r0):=by
 have aC:=h.lt r
 have gD:((X r).push r0).cur=(X r).ag.length:=fw _ _
 have bf:((X r).push r0).ro≤d:=h.ro r
 obtain⟨h1,h2⟩:=qB.1 hn
 have aB:¬d=(X r).ag.length:=by omega
 rw[vr]at ho
 by_cases hl:off+y.cells.length≤row.length
 ·rw[ak hl]at ho
  injection ho with ho
  subst ho
  have hle:off+n≤row.length:=by omega
  simp only[ae.store,bf,h1,h2,nr,bZ,gD,aB,dt,Jt hc,h.box,hb,hle,h.dG]
 ·rw[aq hl]at ho;cases ho
theorem gQ.append (h:gQ X d) {es b:Nat} {xs:List (List AV)} {x:AV} {og:Option Nat} (ha:Acc d es xs x og r.toks) (o:Own) {ys:List (List AV)} (hy:ys≠[]) (hl:xs.length+ys.length≤4294967296) (hb:b<r.boxes.length) (cm:∃c,r.boxes[b]? =some [c]):
  ∃x1 m1 Zx x' gv tk',ej ((X r).push r0) es x (.slice o es ys)=some (x1,m1)∧m1.store 1 (.ptr d b 0) x1=some ((X ⟨r.boxes.set b [x'],tk'⟩).push Zx)∧Zx.boxes=r0.boxes∧Acc d es (xs++ys) x' gv tk'∧gv≠none∧
   (∀oS pI x2 eS,Acc d oS pI x2 eS r.toks→(eS≠og∨eS=none)→Acc d oS pI x2 eS tk'∧eS≠gv):=by
 have aC:=h.lt r
 have gD:∀q,((X r).push q).cur=(X r).ag.length:=fun q=>fw _ _
 have bf:∀q,((X r).push q).ro≤d:=fun q=>h.ro r
 have aB:¬d=(X r).ag.length:=by omega
 have F3:¬(X r).ag.length≤d:=by omega
 obtain⟨c,cm⟩:=cm
 have sv:ys.isEmpty=false:=by cases ys<;>simp_all
 cases og with
 | none =>
  obtain⟨rfl,rfl⟩:=ha
  have qJ:ys.length≤4294967296:=by simpa using hl
  refine⟨.slice (.tok (X r).ag.length r0.toks.length) es ys,(X r).push ⟨r0.boxes,r0.toks++[some ys.length]⟩,⟨r0.boxes,(r0.toks++[some ys.length]).set r0.toks.length none⟩,.slice (.tok d r.toks.length) es ys,some r.toks.length,r.toks++[some ys.length],?_,?_,rfl,⟨by simpa using hy,rfl,by simp⟩,by simp,?_⟩
  ·simp[ej,sv,Own.isNil,di,qJ,gD,oH,nq]
  ·have bt:(AV.slice (.tok (X r).ag.length r0.toks.length) es ys).cells=[.slice (.tok (X r).ag.length r0.toks.length) es ys]:=rfl
   have va:((X r).push ⟨r0.boxes,r0.toks++[some ys.length]⟩).tok (X r).ag.length r0.toks.length=some ys.length:=by rw[xF];simp
   have l8:((X r).push ⟨r0.boxes,r0.toks++[some ys.length]⟩).fitAll d [.slice (.tok (X r).ag.length r0.toks.length) es ys]=some ([.slice (.tok d r.toks.length) es ys],(X ⟨r.boxes,r.toks++[some ys.length]⟩).push ⟨r0.boxes,(r0.toks++[some ys.length]).set r0.toks.length none⟩):=by
    simp only[ae.fitAll,ae.fit,F3,dt,gD,va,nr,bZ,h.jW,GR,h.lg]
   simp only[ae.store,bf,bt,dJ,iY,vG,Co,AV.bu,xK,nr,bZ,gD,aB,dt,l8,h.box,cm,h.dG,fK,aH,setCells,Hu]
  ·intro oS pI x2 eS h2 _
   cases eS with
   |none=>exact⟨h2,by simp⟩
   |some g=>
    obtain⟨a,b,c⟩:=h2
    have:=(aY.1 c).1
    exact⟨⟨a,b,by rw[dB this];exact c⟩,by simp;omega⟩
 | some g =>
  obtain⟨hx,rfl,hg⟩:=ha
  refine⟨.slice (.tok d g) es (xs++ys),(X ⟨r.boxes,r.toks.set g (some (xs.length+ys.length))⟩).push r0,r0,.slice (.tok d g) es (xs++ys),some g,r.toks.set g (some (xs.length+ys.length)),?_,?_,rfl,⟨by simp[hx],rfl,?_⟩,by simp,?_⟩
  ·simp[ej,sv,di,hl,h.tok,hg,bf,h.mz]
  ·have bt:(AV.slice (.tok d g) es (xs++ys)).cells=[.slice (.tok d g) es (xs++ys)]:=rfl
   have air:∀q tk,((X ⟨r.boxes,tk⟩).push q).cur=(X ⟨r.boxes,tk⟩).ag.length:=fun q tk=>fw _ _
   have ajO:∀q tk,((X ⟨r.boxes,tk⟩).push q).ro≤d:=fun q tk=>h.ro _
   have O6:∀tk,¬d=(X ⟨r.boxes,tk⟩).ag.length:=fun tk=>by have:=h.lt ⟨r.boxes,tk⟩;omega
   have l8:∀m:ae,m.fitAll d [.slice (.tok d g) es (xs++ys)]=some ([.slice (.tok d g) es (xs++ys)],m):=fun m=>by
    simp only[ae.fitAll,ae.fit,aH,bZ]
   simp only[ae.store,ajO,bt,dJ,iY,vG,Co,AV.bu,xK,nr,bZ,air,O6,dt,l8,h.box,cm,h.dG,fK,aH,setCells,Hu]
  ·rw[mE (aY.1 hg).1];simp
  ·intro oS pI x2 eS h2 aB
   cases eS with
   |none=>exact⟨h2,by simp⟩
   |some g2=>
    obtain⟨a,b,c⟩:=h2
    have aB:g2≠g:=by rcases aB with h|h<;>simp_all
    exact⟨⟨a,b,by rw[eK (fun e=>aB e.symm)];exact c⟩,by simpa using aB⟩
end
end Go.Ax.Sx
/-
  Lists whose elements may be written to, each in a box of some activation; calls in the caller's own activation.
-/
namespace Go.Ax.Sx
section
variable{call:aW} {ρ:Nat→AV} {m:ae}
theorem apA {es:Nat} {x y h:aF}:aM call (aE ρ) m (.rG es x y h)=qq m es (aE ρ x) (aE ρ y) (aE ρ h):=.trans rfl rfl
theorem aqe {es:Nat} {x:aF}:aM call (aE ρ) m (.sL es x)=ri m es (aE ρ x):=.trans rfl rfl
theorem apO {zs:List AV} {x:aF}:aM call (aE ρ) m (.clear zs x)=wz m zs (aE ρ x):=.trans rfl rfl
theorem apI {f:FuncId} {as:List aF}:aM call (aE ρ) m (.td f as)=lU call m f (as.map (aE ρ)):=.trans rfl rfl
theorem apM {f:FuncId} {as:List aF} {ws:List (Bool×Nat×Nat)}:aM call (aE ρ) m (.qt f as ws)=oP call m (.fn f) (as.map (aE ρ)) (ws.map fun q=>(q.1,q.2.1,ρ q.2.2)):=.trans rfl rfl
end
attribute [go_sem ↓] apA aqe apO apI apM
theorem adr {AP:FuncId→Option aI} {f:FuncId} {np nt:Nat} {b:au} {rs:List iE} {own:Bool} (hf:AP f=some (.code np nt b rs own)) {as:List AV} {m:ae} (hl:as.length=np) (hm:m.ro<m.ag.length):
  aw AP (.inl f) as m=go AP (fun e st=>match e with|.exit _=>none|_=>(tQ st rs).map fun l=>(packed l,st.sig)) [.c b] ⟨jM as,m⟩:=by
 rw[ads hf,ak ⟨hl,hm⟩]
 simp only[go,je]
 cases h:fJ AP b ⟨jM as,m⟩with
 |none=>rfl
 |some p=>obtain⟨e,aO⟩:=p;cases e<;>rfl
section
variable{s:ae} {bs:List (List AV)} {tk:List (Option Nat)} {cs:List AV} {b:Nat}
theorem arP:(s.push ⟨bs,tk⟩).sI s.ag.length b cs=s.push ⟨bs.set b []++[cs],tk++[none]⟩:=by rw[ae.sI,zz]
theorem QN {es:Nat} (h:kM es cs=true) (h0:0<es):ri (s.push ⟨bs,tk⟩) es (.agg cs)=some (.aN s.ag.length bs.length 0 es 1 1,s.push ⟨bs++[cs],tk⟩):=by
 obtain⟨h1,h2⟩:=qB.1 h
 simp only[ri,AV.cells,h1,h2,h0,nr,bZ,fw,xw,ae.dF,CG]
def GX (d es:Nat) (row:List AV) (n:Nat) (x:AV) (bs:List (List AV)):Prop:=
 (n=0∧row=[]∧x=.slice .aA 0 [])∨(0<n∧∃b,bs[b]? =some row∧x=.aN d b 0 es n 0)
def Rz (d:Nat) (x:AV) (bs gl:List (List AV)):Prop:=bs.length<gl.length∧∀j,j<bs.length→(∀es n,x≠.aN d j 0 es n 0)→gl[j]? =bs[j]?
theorem GX.len {d es n:Nat} {row:List AV} {x:AV} (h:GX d es row n x bs):mm false x=some (.v (.int .i64 (n:Int))):=by
 obtain⟨rfl,rfl,rfl⟩|⟨_,b,_,rfl⟩:=h<;>rfl
theorem GX.cell {d es n:Nat} {row:List AV} {x:AV} (h:GX d es row n x bs):x.bu=true:=by
 obtain⟨rfl,rfl,rfl⟩|⟨_,b,_,rfl⟩:=h<;>rfl
theorem GX.cells {d es n:Nat} {row:List AV} {x:AV} (h:GX d es row n x bs):x.cells=[x]:=by
 obtain⟨rfl,rfl,rfl⟩|⟨_,b,_,rfl⟩:=h<;>rfl
theorem uA {r:List (List AV)} {j:Nat} {c:List AV} (h:bs[j]? =some c):(bs++r)[j]? =some c:=by
 rw[dB (aY.1 h).1];exact h
theorem ab1 {es n b0 c p q:Nat} {row r2:List AV} {x:AV} (hs:Ok s) (h:GX s.ag.length es row n x bs) (hb:bs[b0]? =some r2) (h2:r2.length=es) (hl:row.length=n*es) (hm:n+1≤4294967296):
  ∃x' gl tk',qq (s.push ⟨bs,tk⟩) es x (.aN s.ag.length b0 0 es 1 c) (.ptr s.ag.length p q)=some (x',s.push ⟨gl,tk'⟩)∧GX s.ag.length es (row++r2) (n+1) x' gl∧Rz s.ag.length x bs gl∧
   ∃b',gl[b']? =some (row++r2)∧x'=.aN s.ag.length b' 0 es (n+1) 0∧bs.length≤b':=by
 have bf:(s.push ⟨bs,tk⟩).ro≤s.ag.length:=hs.ro
 have Gg:(s.push ⟨bs,tk⟩).zH es (.aN s.ag.length b0 0 es 1 c)=some (r2,1):=by
  simp only[ae.zH,fw,nr,bZ,iI,hb,eL,fK,oN,h2,aH,kI]
  rw[RZ (by omega)]
 obtain⟨rfl,rfl,rfl⟩|⟨hn,b,fB,rfl⟩:=h
 ·refine⟨.aN s.ag.length bs.length 0 es 1 0,bs++[r2],tk,?_,.inr ⟨by omega,bs.length,?_,rfl⟩,⟨by simp,fun j hj _=>dB hj⟩,bs.length,?_,rfl,aH _⟩
  ·have yZ:(1:Nat)≤di:=by decide
   simp only[qq,Gg,eL,LF,dt,bf,fw,aH,true_or,nr,bZ,Hn,Own.isNil,yZ,xw,CG]
  ·simp
  ·simp
 ·have yZ:n+1≤di:=hm
  refine⟨.aN s.ag.length bs.length 0 es (n+1) 0,bs.set b []++[row++r2],tk++[none],?_,.inr ⟨by omega,bs.length,?_,rfl⟩,⟨by simp,fun j hj aB=>?_⟩,bs.length,?_,rfl,aH _⟩
  ·simp only[qq,Gg,eL,LF,dt,bf,fw,aH,true_or,nr,bZ,hn,yZ,iI,fB,hl,xw,arP]
  ·rw[gM (by simp)];simp
  ·rw[dB (by simpa using hj),eK (fun e=>aB es n (by rw[e]))]
  ·rw[gM (by simp)];simp
end
section
variable{X:Rec→ae} {d:Nat} {r r0:Rec}
theorem gQ.rG (h:gQ X d) {es n b0 c p q:Nat} {row r2:List AV} {x:AV} (hg:GX d es row n x r.boxes) (hb:r0.boxes[b0]? =some r2) (h2:r2.length=es) (aP:r2.all AV.iT=true) (hl:row.length=n*es) (hm:n+1≤4294967296):
  ∃x' gl tk',qq ((X r).push r0) es x (.aN (X r).ag.length b0 0 es 1 c) (.ptr d p q)=some (x',(X ⟨gl,tk'⟩).push r0)∧GX d es (row++r2) (n+1) x' gl∧Rz d x r.boxes gl∧∃b',x'=.aN d b' 0 es (n+1) 0∧r.boxes.length≤b':=by
 have aC:=h.lt r
 have gD:((X r).push r0).cur=(X r).ag.length:=fw _ _
 have bf:((X r).push r0).ro≤d:=h.ro r
 have hle:d≤(X r).ag.length:=by omega
 have oA:((X r).push r0).bN d=r.boxes.length:=by
  simp only[ae.bN,ae.push]
  rw[dB aC,h.get r]
 have Gg:((X r).push r0).zH es (.aN (X r).ag.length b0 0 es 1 c)=some (r2,1):=by
  simp only[ae.zH,gD,nr,bZ,iI,hb,eL,fK,oN,h2,aH,kI]
  rw[RZ (by omega)]
 obtain⟨rfl,rfl,rfl⟩|⟨hn,b,fB,rfl⟩:=hg
 ·have gB:((X r).push r0).js d r2=(X ⟨r.boxes++[r2],r.toks⟩).push r0:=h.GG _
  refine⟨.aN d r.boxes.length 0 es 1 0,r.boxes++[r2],r.toks,?_,.inr ⟨by omega,r.boxes.length,by simp,rfl⟩,⟨by simp,fun j hj _=>dB hj⟩,_,rfl,aH _⟩
  have yZ:(1:Nat)≤di:=by decide
  simp only[qq,Gg,eL,LF,dt,bf,gD,hle,aP,or_true,nr,bZ,Hn,Own.isNil,true_or,yZ,oA,gB]
 ·have yZ:n+1≤di:=hm
  have dp:((X r).push r0).box d b=some row:=by rw[h.box,fB]
  have hrg:((X r).push r0).sI d b (row++r2)=(X ⟨r.boxes.set b []++[row++r2],r.toks++[none]⟩).push r0:=h.GG _
  refine⟨.aN d r.boxes.length 0 es (n+1) 0,r.boxes.set b []++[row++r2],r.toks++[none],?_,.inr ⟨by omega,r.boxes.length,?_,rfl⟩,⟨by simp,fun j hj aB=>?_⟩,_,rfl,aH _⟩
  ·simp only[qq,Gg,eL,LF,dt,bf,gD,hle,aP,or_true,nr,bZ,hn,yZ,dp,hl,oA,hrg]
  ·rw[gM (by simp)];simp
  ·rw[dB (by simpa using hj),eK (fun e=>aB es n (by rw[e]))]
theorem gQ.atb (h:gQ X d) {b:Nat} {y:AV} {es n:Nat} (hy:∃b',y=.aN d b' 0 es n 0) {c:AV} (hb:r.boxes[b]? =some [c]):
  ((X r).push r0).store 1 (.ptr d b 0) y=some ((X ⟨r.boxes.set b [y],r.toks⟩).push r0):=by
 obtain⟨b',rfl⟩:=hy
 have aC:=h.lt r
 have gD:((X r).push r0).cur=(X r).ag.length:=fw _ _
 have bf:((X r).push r0).ro≤d:=h.ro r
 have aB:¬d=(X r).ag.length:=by omega
 simp only[ae.store,bf,AV.cells,dJ,iY,fK,vG,Co,AV.bu,xK,nr,bZ,gD,aB,dt,ae.fitAll,ae.fit,aH,h.box,hb,h.dG,setCells,Hu]
end
section
variable{AP:FuncId→Option aI} {s:ae} {bs:List (List AV)} {tk:List (Option Nat)} {f:FuncId} {args:List AV}
theorem aqm {Q:ae} {bx:List (List AV)} {tk:List (Option Nat)} {r:Rec} {b es n:Nat} {cs:List AV} (hQ:Ok Q) (hb:r.boxes[b]? =some cs) (hn:0<n) (hl:cs.length=n*es) (aB:cs≠[]) (hc:closeAll cs=some cs):
  kD ((Q.push ⟨bx,tk⟩).push r) (.aN (Q.push ⟨bx,tk⟩).ag.length b 0 es n 0)=some (.aN Q.ag.length bx.length 0 es n 0,Q.push ⟨bx++[cs],tk⟩):=by
 have hd:(Q.push ⟨bx,tk⟩).ag.length=Q.ag.length+1:=by simp[ae.push]
 have bf:((Q.push ⟨bx,tk⟩).push r).ro<(Q.push ⟨bx,tk⟩).ag.length:=by
  have:=hQ.ro;rw[hd];show Q.ro<_;omega
 have he:cs.isEmpty=false:=by cases cs<;>simp_all
 have h1:1≤(Q.push ⟨bx,tk⟩).ag.length:=by omega
 simp only[kD,fw,K7]
 rw[ak (by first|exact⟨h1,bf,hn⟩|exact⟨h1,bf,trivial,trivial,hn⟩),iI,hb,eL,ak ⟨he,hl⟩,hc]
 simp only[dP,pop_push,hd,Hy]
 have e1:((Q.push ⟨bx,tk⟩).push r).bN Q.ag.length=bx.length:=by
  have:((Q.push ⟨bx,tk⟩).push r).ag[Q.ag.length]? =some ⟨bx,tk⟩:=by
   show((Q.ag++[_])++[_])[_]? =_
   rw[dB (by simp)];simp
  simp only[ae.bN,this]
 rw[e1,CG]
theorem adC {es n:Nat} {cs:List AV} (hm:(s.push ⟨bs,tk⟩).ro<(s.push ⟨bs,tk⟩).ag.length)
  (h:aw AP (.fn f) args ((cB (s.push ⟨bs,tk⟩)).push ⟨[],[]⟩)=some (.aN (s.push ⟨bs,tk⟩).ag.length 0 0 es n 0,(cB (s.push ⟨bs,tk⟩)).push ⟨[cs],[]⟩)) (hn:0<n) (hl:cs.length=n*es) (aB:cs≠[]) (hc:closeAll cs=some cs):
  lU (aw AP) (s.push ⟨bs,tk⟩) f args=some (.aN s.ag.length bs.length 0 es n 0,s.push ⟨bs++[cs],tk⟩):=by
 have he:cs.isEmpty=false:=by cases cs<;>simp_all
 have h:aw AP (.fn f) args {(s.push ⟨bs,tk⟩).push ⟨[],[]⟩with ro:=(s.push ⟨bs,tk⟩).ag.length,bg:=(s.push ⟨bs,tk⟩).loops.length}=some (.aN (s.push ⟨bs,tk⟩).ag.length 0 0 es n 0,(cB (s.push ⟨bs,tk⟩)).push ⟨[cs],[]⟩):=h
 have hb:((cB (s.push ⟨bs,tk⟩)).push ⟨[cs],[]⟩).box (s.push ⟨bs,tk⟩).ag.length 0=some cs:=iI (cB (s.push ⟨bs,tk⟩)) ⟨[cs],[]⟩ 0
 unfold lU
 rw[h]
 simp only
 rw[ak ⟨trivial,by omega,hm,trivial,trivial,hn⟩,hb,eL,ak ⟨he,hl⟩,hc]
 simp only[dP,fw,xw,ae.dF,CG]
theorem adB (h:aw AP (.fn f) args ((cB s).push ⟨[],[]⟩)=some (.slice .aA 0 [],(cB s).push ⟨[],[]⟩)):lU (aw AP) s f args=some (.slice .aA 0 [],s):=by
 have h:aw AP (.fn f) args {s.push ⟨[],[]⟩with ro:=s.ag.length,bg:=s.loops.length}=some (.slice .aA 0 [],(cB s).push ⟨[],[]⟩):=h
 unfold lU
 rw[h]
 rfl
theorem Uo {m m':ae} {t:Target} {v:AV} {ws:List (Bool×Nat×AV)} (h:aw AP t args m=some (v,m')) (hw:∀q∈ws,m'.load q.1 q.2.1 q.2.2=m.load q.1 q.2.1 q.2.2):oP (aw AP) m t args ws=some (v,m'):=E6.2 ⟨h,hw⟩
end
theorem Fa {es:Nat}:∀{xs:List (List AV)},(∀r∈xs,r.length=es)→chunks es xs.length xs.flatten=xs
 |[],_=>rfl
 |r::t,h=>by
  have hr:=h r (by simp)
  simp only[dJ,chunks,sU]
  rw[RY (by omega),RZ (by omega),RD (by omega),xQ (by omega),kh]
  rw[Fa fun q hq=>h q (gP _ hq)]
theorem UZ {m:ae}:∀{cs c:List AV},closeAll cs=some c→j6 m cs=some c
 |[],c,h=>h
 | x :: r, c, h => by
  simp only[closeAll]at h
  split at h
  ·rename_i y t e1 e2
   have hx:oj m x=some y:=by
    cases x<;>first|exact e1|(simp[AV.close,AV.isClosed,AV.iT]at e1;done)
   simp only[j6,hx,UZ e2]
   exact h
  ·cases h
theorem Y4 {m:ae} {cs:List AV}:(closeAll cs).or (j6 m cs)=j6 m cs:=by
 cases h:closeAll cs with
 |none=>rfl
 |some c=>rw[UZ h];rfl
theorem NM {m:ae}:∀{a b x y:List AV},j6 m a=some x→j6 m b=some y→j6 m (a++b)=some (x++y)
 |[],b,x,y,h1,h2=>by
  simp only[j6]at h1
  injection h1 with h1
  subst h1
  exact h2
 | c :: a, b, x, y, h1, h2 => by
  simp only[j6]at h1
  split at h1
  ·rename_i z t e1 e2
   injection h1 with h1
   subst h1
   simp only[kg,j6,e1,NM e2 h2]
  ·cases h1
end Go.Ax.Sx
