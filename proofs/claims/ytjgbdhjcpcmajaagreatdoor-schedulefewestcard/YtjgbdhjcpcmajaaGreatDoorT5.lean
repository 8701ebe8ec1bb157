/-
  The executor without its bound: what it gives with some bound. Equations to compute with.
-/
import Derived.Test.YtjgbdhjcpcmajaaGreatDoorT1
import Derived.Test.YtjgbdhjcpcmajaaGreatDoorT4
import Derived.Deep.Slices
import Derived.OpenShut
import Derived.SizedLaws
import Derived.Attr
set_option linter.unusedSimpArgs false
set_option linter.unusedVariables false
set_option maxRecDepth 100000
namespace Go.Ax
def kq (c c':aZ):Prop:=∀t a s r,c t a s=some r→c' t a s=some r
theorem kq.refl (c:aZ):kq c c:=fun _ _ _ _ h=>h
theorem kq.trans {a b c:aZ} (h:kq a b) (k:kq b c):kq a c:=fun t x s r e=>k t x s r (h t x s r e)
theorem wG {c c':aZ} (h:kq c c') {ro:Bool} {m:ae} {t:Target} {as:List AV} {r:AV×ae} (e:dF c ro m t as=some r):dF c' ro m t as=some r:=by
 unfold dF at e⊢
 split
 ·rw[ak (by assumption)]at e
  obtain⟨p,hp,rfl⟩:=aU.1 e
  rw[h _ _ _ _ hp]
  rfl
 ·rw[aq (by assumption)]at e
  exact h _ _ _ _ e
theorem adO {c c':aZ} (h:kq c c') {m:ae} {f:FuncId} {as:List AV} {r:AV×ae} (e:nh c m f as=some r):nh c' m f as=some r:=by
 unfold nh at e⊢
 cases hc:c (.fn f) as {m.push ⟨[],[]⟩with ro:=m.ag.length,bo:=m.loops.length}with
 |none=>rw[hc]at e;cases e
 |some p=>rw[hc]at e;rw[h _ _ _ _ hc];exact e
theorem adS {c c':aZ} (h:kq c c') {ro:Bool} {m:ae} {x:AV} {as:List AV} {r:AV×ae} (e:lM c ro m x as=some r):lM c' ro m x as=some r:=by
 cases x<;>first
  |exact wG h e
  |(simp[lM]at e)
theorem Ji {c:aZ} {ro:Bool} {m:ae} {zs:List (List AV)} {t:Target} {as:List AV} {r:AV×ae}:ni c ro m zs t as=some r↔
  dF c ro m t as=some r∧m.tail zs.length∈qv zs∧(∀bx,bx∈qv zs→dF c ro (m.ja zs.length bx) t as=some (r.1,r.2.ja zs.length bx))∧r.2.ag.length=m.ag.length∧r.2.bL m.cur=m.bL m.cur∧r.2.tail zs.length=m.tail zs.length∧(ro=true→r.2=m)∧(r.2.lC m.cur=false→m.lC m.cur=false):=by
 unfold ni
 constructor
 ·intro h
  split at h
  ·rename_i v m' e
   split at h
   ·rename_i hc
    injection h with h
    subst h
    exact⟨e,hc⟩
   ·cases h
  ·cases h
 ·rintro⟨h1,h2⟩
  rw[h1]
  simp only
  rw[ak h2]
theorem afV {c c':aZ} (h:kq c c') {ro:Bool} {m:ae} {zs:List (List AV)} {t:Target} {as:List AV} {r:AV×ae} (e:ni c ro m zs t as=some r):ni c' ro m zs t as=some r:=by
 obtain⟨h1,h2,h3,h4⟩:=Ji.1 e
 exact Ji.2 ⟨wG h h1,h2,fun bx hb=>wG h (h3 bx hb),h4⟩
theorem adH {c c':aZ} (h:kq c c') {m:ae} {f:FuncId} {as:List AV} {r:AV×ae} (e:lL c m f as=some r):lL c' m f as=some r:=by
 unfold lL at e⊢
 cases hc:c (.fn f) as {m.push ⟨[],[]⟩with ro:=m.ag.length,bo:=m.loops.length}with
 |none=>rw[hc]at e;cases e
 |some p=>rw[hc]at e;rw[h _ _ _ _ hc];exact e
theorem E4 {c:aZ} {m:ae} {t:Target} {as:List AV} {ws:List (Bool×Nat×AV)} {r:AV×ae}:oG c m t as ws=some r↔c t as m=some r∧∀q,q∈ws→r.2.load q.1 q.2.1 q.2.2=m.load q.1 q.2.1 q.2.2:=by
 unfold oG
 constructor
 ·intro h
  split at h
  ·rename_i v m' e
   split at h
   ·rename_i hc
    injection h with h
    subst h
    exact⟨e,hc⟩
   ·cases h
  ·cases h
 ·rintro⟨h1,h2⟩
  rw[h1]
  simp only
  rw[ak h2]
theorem adR {c c':aZ} (h:kq c c') {m:ae} {t:Target} {as:List AV} {ws:List (Bool×Nat×AV)} {r:AV×ae} (e:oG c m t as ws=some r):oG c' m t as ws=some r:=by
 obtain⟨h1,h2⟩:=E4.1 e
 exact E4.2 ⟨h _ _ _ _ h1,h2⟩
theorem Ze {c c':aZ} (h:kq c c') {ρ:aF→AV} {m:ae} {op:bX} {r:AV×ae} (e:aN c ρ m op=some r):aN c' ρ m op=some r:=by
 cases op<;>first
  |exact e
  |exact wG h e
  |exact adS h e
  |exact adO h e
  |exact afV h e
  |exact adH h e
  |exact adR h e
theorem GI {c c':aZ} (h:kq c c'):∀{l:List bz} {st r:St},ops c l st=some r→ops c' l st=some r
 |[],st,r,e=>e
 | o :: l, st, r, e => by
  unfold ops at e⊢
  split
  ·rename_i hw
   rw[ak hw]at e
   split at e
   ·rename_i x m hv
    rw[Ze h hv]
    exact GI h e
   ·cases e
  ·rename_i hw
   rw[aq hw]at e
   exact GI h e
theorem Kw {f g:St→Option (cV×St)} (h:∀st r,f st=some r→g st=some r):∀{n m:Nat} {st:St} {r:cV×St},n≤m→lB f n st=some r→lB g m st=some r
 |0,_,_,_,_,e=>by simp[lB]at e
 |n+1,0,_,_,hn,_=>by omega
 | n + 1, m + 1, st, r, hn, e => by
  simp only[lB]at e⊢
  split at e
  ·rename_i c9 h1
   rw[h _ _ h1]
   exact Kw h (by omega) e
  ·rename_i aB
   rw[h _ _ e]
   split
   ·rename_i c9 heq
    exact absurd (e.trans heq) (aB _)
   ·rfl
theorem wI {c c':aZ} (h:kq c c') {n m:Nat} (hn:n≤m):∀{a:au} {st:St} {r:cV×St},exec c n a st=some r→exec c' m a st=some r:=by
 intro a
 induction a with
 |skip=>intro st r e;exact e
 |exit=>intro st r e;exact e
 |ret=>intro st r e;exact e
 |region d l=>
  intro st r e
  simp only[exec]at e⊢
  obtain⟨p,hp,rfl⟩:=aU.1 e
  rw[GI h hp]
  rfl
 | seq a b vj zo =>
  intro st r e
  simp only[exec]at e⊢
  split at e
  ·rename_i c9 h1
   rw[vj h1]
   exact zo e
  ·rename_i aB
   rw[vj e]
   split
   ·rename_i c9 heq
    exact absurd (e.trans heq) (aB _)
   ·rfl
 | cond x a b vj zo =>
  intro st r e
  simp only[exec]at e⊢
  split
  ·rename_i t hx
   rw[hx]at e
   simp only at e
   split
   ·rw[ak (by assumption)]at e;exact vj e
   ·rw[aq (by assumption)]at e;exact zo e
  ·rename_i hx
   split at e
   ·rename_i t ht
    exact absurd ht (hx _)
   ·cases e
 | block id a ih =>
  intro st r e
  simp only[exec]at e⊢
  split at e
  ·rename_i j c9 h1
   rw[ih h1]
   exact e
  ·rename_i aB
   rw[ih e]
   split
   ·rename_i j c9 heq
    exact absurd (e.trans heq) (aB _ _)
   ·rfl
 |loop a ih=>
  intro st r e
  simp only[exec]at e⊢
  exact Kw (fun st r=>ih) hn e
 | rangeFunc f ps a b _ _ =>
  intro st r e
  simp only[exec]at e⊢
  split
  ·rename_i g first caps hf
   rw[hf]at e
   simp only at e
   split at e
   ·rename_i x s hc
    rw[h _ _ _ _ hc]
    exact e
   ·cases e
  ·rename_i hf
   split at e
   ·rename_i g first caps hg
    exact absurd hg (hf _ _ _)
   ·cases e
theorem adE {AP:FuncId→Option aJ} {c c':aZ} (h:kq c c') {n m:Nat} (hn:n≤m):kq (iP AP c n) (iP AP c' m):=by
 intro t as s r e
 unfold iP at e⊢
 cases t with
 | fn f =>
  simp only at e⊢
  split at e
  ·split at e
   ·rename_i hlen
    rw[ak hlen]
    split at e
    ·rename_i st he;rw[wI h hn he];exact e
    ·rename_i st he;rw[wI h hn he];exact e
    ·cases e
   ·cases e
  ·exact e
  ·cases e
 | inl f =>
  simp only at e⊢
  split at e
  ·split at e
   ·rename_i hlen
    rw[ak hlen]
    split at e
    ·rename_i st he;rw[wI h hn he];exact e
    ·rename_i st he;rw[wI h hn he];exact e
    ·cases e
   ·cases e
  ·cases e
 |nat f=>exact e
 | yield l =>
  simp only at e⊢
  split at e
  ·rename_i lp sh
   split at e
   ·rename_i bn
    rw[ak bn]
    split at e
    ·rename_i st he
     rw[wI h hn he]
     simp only
     split at e
     ·rename_i hr
      rw[ak hr]
      split at e
      ·rename_i aQ hb
       rw[wI h hn hb]
       exact e
      ·rename_i ex aQ aB hb
       rw[wI h hn hb]
       simp only
       exact e
      ·cases e
     ·cases e
    ·cases e
   ·cases e
  ·cases e
theorem Uu {AP:FuncId→Option aJ}:∀n,kq (eU AP n) (eU AP (n+1))
 |0=>fun _ _ _ _ e=>by simp[eU]at e
 |n+1=>adE (Uu n) (sY n)
theorem uF {AP:FuncId→Option aJ} {n m:Nat} (h:n≤m):kq (eU AP n) (eU AP m):=by
 induction h with
 |refl=>exact .refl _
 |step _ ih=>exact ih.trans (Uu _)
section
variable(AP:FuncId→Option aJ)
open Classical in
noncomputable def aw:aZ:=fun t as s=>if h:∃r n,eU AP n t as s=some r then some h.choose else none
open Classical in
noncomputable def fB (c:au) (st:St):Option (cV×St):=if h:∃r n,exec (eU AP n) n c st=some r then some h.choose else none
variable{AP}
theorem rH {t:Target} {as:List AV} {s:ae} {r:AV×ae}:aw AP t as s=some r↔∃n,eU AP n t as s=some r:=by
 unfold aw
 constructor
 ·intro h
  split at h
  ·rename_i hex
   injection h with h
   rw[←h]
   exact hex.choose_spec
  ·cases h
 ·intro⟨n,hn⟩
  have hex:∃r n,eU AP n t as s=some r:=⟨r,n,hn⟩
  rw[Jc hex]
  obtain⟨m,hm⟩:=hex.choose_spec
  have h1:=uF (Cm n m) _ _ _ _ hn
  have h2:=uF (HB n m) _ _ _ _ hm
  rw[h1]at h2
  exact h2.symm
theorem uK {n m:Nat} (h:n≤m) {c:au} {st:St} {r:cV×St} (e:exec (eU AP n) n c st=some r):exec (eU AP m) m c st=some r:=wI (uF h) h e
theorem jL {c:au} {st:St} {r:cV×St}:fB AP c st=some r↔∃n,exec (eU AP n) n c st=some r:=by
 unfold fB
 constructor
 ·intro h
  split at h
  ·rename_i hex
   injection h with h
   rw[←h]
   exact hex.choose_spec
  ·cases h
 ·intro⟨n,hn⟩
  have hex:∃r n,exec (eU AP n) n c st=some r:=⟨r,n,hn⟩
  rw[Jc hex]
  obtain⟨m,hm⟩:=hex.choose_spec
  have h1:=uK (Cm n m) hn
  have h2:=uK (HB n m) hm
  rw[h1]at h2
  exact h2.symm
theorem adB (n:Nat):kq (eU AP n) (aw AP):=fun _ _ _ _ e=>rH.2 ⟨n,e⟩
theorem Fg {ro:Bool} {m:ae} {t:Target} {as:List AV} {r:AV×ae} (e:dF (aw AP) ro m t as=some r):∃n,dF (eU AP n) ro m t as=some r:=by
 unfold dF at e⊢
 split at e
 ·obtain⟨p,hp,rfl⟩:=aU.1 e
  obtain⟨n,hn⟩:=rH.1 hp
  exact⟨n,by rw[ak (by assumption),hn];rfl⟩
 ·obtain⟨n,hn⟩:=rH.1 e
  exact⟨n,by rw[aq (by assumption),hn]⟩
theorem adN {m:ae} {f:FuncId} {as:List AV} {r:AV×ae} (e:nh (aw AP) m f as=some r):∃n,nh (eU AP n) m f as=some r:=by
 unfold nh at e⊢
 cases hc:aw AP (.fn f) as {m.push ⟨[],[]⟩with ro:=m.ag.length,bo:=m.loops.length}with
 |none=>rw[hc]at e;cases e
 |some p=>
  rw[hc]at e
  obtain⟨n,hn⟩:=rH.1 hc
  exact⟨n,by rw[hn];exact e⟩
theorem adG {m:ae} {f:FuncId} {as:List AV} {r:AV×ae} (e:lL (aw AP) m f as=some r):∃n,lL (eU AP n) m f as=some r:=by
 unfold lL at e⊢
 cases hc:aw AP (.fn f) as {m.push ⟨[],[]⟩with ro:=m.ag.length,bo:=m.loops.length}with
 |none=>rw[hc]at e;cases e
 |some p=>
  rw[hc]at e
  obtain⟨n,hn⟩:=rH.1 hc
  exact⟨n,by rw[hn];exact e⟩
theorem adQ {m:ae} {t:Target} {as:List AV} {ws:List (Bool×Nat×AV)} {r:AV×ae} (e:oG (aw AP) m t as ws=some r):∃n,oG (eU AP n) m t as ws=some r:=by
 obtain⟨h1,h2⟩:=E4.1 e
 obtain⟨n,hn⟩:=rH.1 h1
 exact⟨n,E4.2 ⟨hn,h2⟩⟩
theorem VO {ro:Bool} {t:Target} {as:List AV} {M:List (List AV)→ae} {R:List (List AV)→AV×ae}:∀{l:List (List (List AV))},(∀bx,bx∈l→dF (aw AP) ro (M bx) t as=some (R bx))→∃n,∀bx,bx∈l→dF (eU AP n) ro (M bx) t as=some (R bx)
 |[],_=>⟨0,fun _ h=>by cases h⟩
 |b::l,h=>by
  obtain⟨n1,k1⟩:=Fg (h b (by simp))
  obtain⟨n2,k2⟩:=VO (l:=l) fun bx hb=>h bx (jg _ hb)
  refine⟨n1+n2,fun bx hb=>?_⟩
  rcases eC.1 hb with rfl|hb
  ·exact wG (uF (by omega)) k1
  ·exact wG (uF (by omega)) (k2 bx hb)
theorem afU {ro:Bool} {m:ae} {zs:List (List AV)} {t:Target} {as:List AV} {r:AV×ae} (e:ni (aw AP) ro m zs t as=some r):∃n,ni (eU AP n) ro m zs t as=some r:=by
 obtain⟨h1,h2,h3,h4⟩:=Ji.1 e
 obtain⟨n1,k1⟩:=Fg h1
 obtain⟨n3,k3⟩:=VO h3
 exact⟨n1+n3,Ji.2 ⟨wG (uF (by omega)) k1,h2,fun bx hb=>wG (uF (by omega)) (k3 bx hb),h4⟩⟩
theorem apE {ρ:aF→AV} {m:ae} {op:bX} {r:AV×ae} (e:aN (aw AP) ρ m op=some r):∃n,aN (eU AP n) ρ m op=some r:=by
  cases op<;>first
    |exact⟨0,e⟩
    |exact Fg e
    |exact adN e
    |exact afU e
    |exact adG e
    |exact adQ e
    | (simp only [aN, lM] at e ⊢
       split at e
       · exact Fg e
       · exact Fg e
       · cases e)
theorem Qu:∀{l:List bz} {st r:St},ops (aw AP) l st=some r→∃n,ops (eU AP n) l st=some r
 |[],st,r,e=>⟨0,e⟩
 | o :: l, st, r, e => by
  unfold ops at e
  split at e
  ·rename_i hw
   split at e
   ·rename_i x m hv
    obtain⟨n1,h1⟩:=apE hv
    obtain⟨n2,h2⟩:=Qu e
    refine⟨max n1 n2,?_⟩
    unfold ops
    rw[ak hw,Ze (uF (Cm n1 n2)) h1]
    exact GI (uF (HB n1 n2)) h2
   ·cases e
  ·rename_i hw
   obtain⟨n2,h2⟩:=Qu e
   refine⟨n2,?_⟩
   unfold ops
   rw[aq hw]
   exact h2
theorem tO {α:Type} {x y:Option α} (h:∀r,x=some r↔y=some r):x=y:=by
 cases hx:x with
 |some a=>exact((h a).1 hx).symm
 |none=>
  cases hy:y with
  |none=>rfl
  |some b=>have:=(h b).2 hy;rw[hx]at this;cases this
theorem gD {c:au} {st:St} {r:cV×St} {n:Nat} (h:exec (eU AP n) n c st=some r):fB AP c st=some r:=jL.2 ⟨n,h⟩
theorem arY (st:St):fB AP .skip st=some (.normal,st):=gD (n:=0) rfl
theorem arS (id:Nat) (st:St):fB AP (.exit id) st=some (.exit id,st):=gD (n:=0) rfl
theorem arW (st:St):fB AP .ret st=some (.ret,st):=gD (n:=0) rfl
theorem arV (d:Bool) (l:List bz) (st:St):fB AP (.region d l) st=(ops (aw AP) l st).map (cV.normal,·):=by
 refine tO fun r=>⟨fun h=>?_,fun h=>?_⟩
 ·obtain⟨n,hn⟩:=jL.1 h
  simp only[exec]at hn
  obtain⟨p,hp,rfl⟩:=aU.1 hn
  rw[GI (adB n) hp]
  rfl
 ·obtain⟨p,hp,rfl⟩:=aU.1 h
  obtain⟨n,hn⟩:=Qu hp
  exact gD (n:=n) (by simp only[exec,hn];rfl)
theorem arX (a b:au) (st:St):fB AP (.seq a b) st=match fB AP a st with
  |some (.normal,aQ)=>fB AP b aQ
  |r=>r:=by
 refine tO fun r=>⟨fun h=>?_,fun h=>?_⟩
 ·obtain⟨n,hn⟩:=jL.1 h
  simp only[exec]at hn
  split at hn
  ·rename_i c9 h1
   rw[gD h1]
   exact gD hn
  ·rename_i aB
   rw[gD hn]
   split
   ·rename_i c9 heq
    exact absurd (hn.trans heq) (aB _)
   ·rfl
 ·split at h
  ·rename_i c9 h1
   obtain⟨n1,e1⟩:=jL.1 h1
   obtain⟨n2,e2⟩:=jL.1 h
   refine gD (n:=max n1 n2) ?_
   simp only[exec,uK (Cm n1 n2) e1]
   exact uK (HB n1 n2) e2
  ·rename_i aB
   obtain⟨n,hn⟩:=jL.1 h
   refine gD (n:=n) ?_
   simp only[exec,hn]
   split
   ·rename_i c9 heq
    exact absurd (h.trans heq) (aB _)
   ·rfl
theorem arR (c:aF) (a b:au) (st:St):fB AP (.cond c a b) st=match aE st.tmps c with
  |.v (.bool t)=>if t then fB AP a st else fB AP b st
  |_=>none:=by
 refine tO fun r=>⟨fun h=>?_,fun h=>?_⟩
 ·obtain⟨n,hn⟩:=jL.1 h
  simp only[exec]at hn
  split at hn
  ·rename_i t ht
   rw[ht]
   simp only
   split
   ·rw[ak (by assumption)]at hn;exact gD hn
   ·rw[aq (by assumption)]at hn;exact gD hn
  ·cases hn
 ·split at h
  ·rename_i t ht
   split at h
   ·rename_i hb
    obtain⟨n,hn⟩:=jL.1 h
    exact gD (n:=n) (by simp only[exec,ht,ak hb,hn])
   ·rename_i hb
    obtain⟨n,hn⟩:=jL.1 h
    exact gD (n:=n) (by simp only[exec,ht,aq hb,hn])
  ·cases h
theorem arQ (id:Nat) (a:au) (st:St):fB AP (.block id a) st=match fB AP a st with
  |some (.exit j,aQ)=>if j=id then some (.normal,aQ)else some (.exit j,aQ)
  |r=>r:=by
 refine tO fun r=>⟨fun h=>?_,fun h=>?_⟩
 ·obtain⟨n,hn⟩:=jL.1 h
  simp only[exec]at hn
  split at hn
  ·rename_i j c9 h1
   rw[gD h1]
   exact hn
  ·rename_i aB
   rw[gD hn]
   split
   ·rename_i j c9 heq
    exact absurd (hn.trans heq) (aB _ _)
   ·rfl
 ·split at h
  ·rename_i j c9 h1
   obtain⟨n1,e1⟩:=jL.1 h1
   refine gD (n:=n1) ?_
   simp only[exec,e1]
   exact h
  ·rename_i aB
   obtain⟨n,hn⟩:=jL.1 h
   refine gD (n:=n) ?_
   simp only[exec,hn]
   split
   ·rename_i j c9 heq
    exact absurd (h.trans heq) (aB _ _)
   ·rfl
theorem arT (a:au) (st:St):fB AP (.loop a) st=match fB AP a st with
  |some (.normal,aQ)=>fB AP (.loop a) aQ
  |r=>r:=by
 refine tO fun r=>⟨fun h=>?_,fun h=>?_⟩
 ·obtain⟨n,hn⟩:=jL.1 h
  simp only[exec]at hn
  obtain⟨m,rfl⟩:∃m,n=m+1:=by
   cases n with
   |zero=>simp[lB]at hn
   |succ m=>exact⟨m,rfl⟩
  rw[lB]at hn
  split at hn
  ·rename_i c9 h1
   rw[gD h1]
   refine gD (n:=m+1) ?_
   simp only[exec]
   exact Kw (fun _ _ e=>e) (sY m) hn
  ·rename_i aB
   rw[gD hn]
   split
   ·rename_i c9 heq
    exact absurd (hn.trans heq) (aB _)
   ·rfl
 ·split at h
  ·rename_i c9 h1
   obtain⟨n1,e1⟩:=jL.1 h1
   obtain⟨n2,e2⟩:=jL.1 h
   refine gD (n:=max n1 n2+1) ?_
   simp only[exec,lB]
   rw[uK (by omega) e1]
   simp only[exec]at e2
   exact Kw (fun st r e=>uK (by omega) e) (by omega) e2
  ·rename_i aB
   obtain⟨n,hn⟩:=jL.1 h
   refine gD (n:=n+1) ?_
   simp only[exec,lB]
   rw[uK (sY n) hn]
   split
   ·rename_i c9 heq
    exact absurd (h.trans heq) (aB _)
   ·rfl
theorem arU (f:aF) (ps:List Nat) (a b:au) (st:St):fB AP (.rangeFunc f ps a b) st=match aE st.tmps f with
  | .fn g first caps => match aw AP (.fn g) (first ++ .yield st.sig.loops.length :: caps) (enterLoop st.sig ⟨true, none, st.tmps, ps, a, b⟩) with
   |some (_,s)=>match xo s st.sig.loops.length with
    |some (e,s1)=>some (e.getD .normal,⟨st.tmps,s1⟩)
    |none=>none
   |none=>none
  |_=>none:=by
 refine tO fun r=>⟨fun h=>?_,fun h=>?_⟩
 ·obtain⟨n,hn⟩:=jL.1 h
  simp only[exec]at hn
  split at hn
  ·rename_i g first caps hf
   rw[hf]
   simp only
   split at hn
   ·rename_i x s hc
    rw[rH.2 ⟨n,hc⟩]
    exact hn
   ·cases hn
  ·cases hn
 ·split at h
  ·rename_i g first caps hf
   split at h
   ·rename_i x s hc
    obtain⟨n,hn⟩:=rH.1 hc
    refine gD (n:=n) ?_
    simp only[exec,hf,hn]
    exact h
   ·cases h
  ·cases h
theorem Ay {t:Target} {as:List AV} {s:ae} {r:AV×ae} {n:Nat} (h:iP AP (eU AP n) n t as s=some r):aw AP t as s=some r:=rH.2 ⟨n+1,h⟩
theorem IX {t:Target} {as:List AV} {s:ae} {r:AV×ae} (h:aw AP t as s=some r):∃n,iP AP (eU AP n) n t as s=some r:=by
 obtain⟨n,hn⟩:=rH.1 h
 cases n with
 |zero=>simp[eU]at hn
 |succ n=>exact⟨n,hn⟩
theorem adx {f : FuncId} {np nt : Nat} {b : au} {rs : List iq} {own : Bool} (hf : AP f = some (.code np nt b rs own)) (as : List AV) (s : ae) : aw AP (.fn f) as s = if as.length = np then
      match fB AP b ⟨jz as,s.push ⟨[],[]⟩⟩with
      |some (.normal,st)|some (.ret,st)=>finish rs own st
      |_=>none
    else none:=by
  refine tO fun r=>⟨fun h=>?_,fun h=>?_⟩
  · obtain ⟨n, hn⟩ := IX h
    simp only[iP,hf]at hn
    split at hn
    · rename_i hl
      rw[ak hl]
      split at hn
      · rename_i st h1;rw[gD h1];exact hn
      · rename_i st h1;rw[gD h1];exact hn
      · cases hn
    · cases hn
  · split at h
    · rename_i hl
      split at h
      · rename_i st h1
        obtain⟨n,hn⟩:=jL.1 h1
        exact Ay (n:=n) (by simp only[iP,hf,ak hl,hn];exact h)
      · rename_i st h1
        obtain⟨n,hn⟩:=jL.1 h1
        exact Ay (n:=n) (by simp only[iP,hf,ak hl,hn];exact h)
      · cases h
    · cases h
theorem adz {f : FuncId} {np nt : Nat} {b : au} {rs : List iq} {own : Bool} (hf : AP f = some (.code np nt b rs own)) (as : List AV) (s : ae) : aw AP (.inl f) as s = if as.length = np ∧ s.ro < s.ag.length then
      match fB AP b ⟨jz as,s⟩with
      |some (.normal,st)|some (.ret,st)=>(tU st rs).map fun l=>(packed l,st.sig)
      |_=>none
    else none:=by
  refine tO fun r=>⟨fun h=>?_,fun h=>?_⟩
  · obtain ⟨n, hn⟩ := IX h
    simp only[iP,hf]at hn
    split at hn
    · rename_i hl
      rw[ak hl]
      split at hn
      · rename_i st h1;rw[gD h1];exact hn
      · rename_i st h1;rw[gD h1];exact hn
      · cases hn
    · cases hn
  · split at h
    · rename_i hl
      split at h
      · rename_i st h1
        obtain⟨n,hn⟩:=jL.1 h1
        exact Ay (n:=n) (by simp only[iP,hf,ak hl,hn];exact h)
      · rename_i st h1
        obtain⟨n,hn⟩:=jL.1 h1
        exact Ay (n:=n) (by simp only[iP,hf,ak hl,hn];exact h)
      · cases h
    · cases h
theorem Us {f:FuncId} {F:List AV→Option AV} (hf:AP f=some (.rf F)) (as:List AV) (s:ae):aw AP (.fn f) as s=(closeAll as).bind fun bs=>(F bs).map (·,s):=by
 refine tO fun r=>⟨fun h=>?_,fun h=>?_⟩
 ·obtain⟨n,hn⟩:=IX h
  simpa only[iP,hf]using hn
 ·exact Ay (n:=0) (by simpa only[iP,hf]using h)
def endRound (l:Nat):Option (cV×St)→Option (AV×ae)
 |some (.normal,aQ)=>some (AV.bool true,(eu aQ.sig l fun p=>{p with ready:=true,eG:=none}).pop)
 |some (e,aQ)=>some (AV.bool false,(eu aQ.sig l fun p=>{p with ready:=false,eG:=some e}).pop)
 |none=>none
theorem adA (l:Nat) (as:List AV) (s:ae):aw AP (.yield l) as s=match s.loops[l]? with
  | some lp =>
   if lp.ready=true∧s.bo≤l∧as.length=lp.params.length then
    match fB AP lp.assign ⟨tX lp.tmps lp.params as,s.push ⟨[],[]⟩⟩with
    |some (.normal,st)=>if BF st.sig l=true then endRound l (fB AP lp.body ⟨st.tmps,eu st.sig l fun p=>{p with ready:=false}⟩)else none
    |_=>none
   else none
  |none=>none:=by
 refine tO fun r=>⟨fun h=>?_,fun h=>?_⟩
 ·obtain⟨n,hn⟩:=IX h
  simp only[iP]at hn
  split at hn
  ·rename_i lp sh
   split at hn
   ·rename_i bn
    rw[sh]
    simp only
    rw[ak bn]
    split at hn
    ·rename_i st h1
     rw[gD h1]
     simp only
     split at hn
     ·rename_i hr
      rw[ak hr]
      split at hn
      ·rename_i aQ h2
       rw[gD h2]
       exact hn
      ·rename_i e aQ aB h2
       rw[gD h2]
       cases e with
       |normal=>exact absurd rfl aB
       |exit id=>exact hn
       |ret=>exact hn
      ·cases hn
     ·cases hn
    ·cases hn
   ·cases hn
  ·cases hn
 ·split at h
  ·rename_i lp sh
   split at h
   ·rename_i bn
    split at h
    ·rename_i st h1
     split at h
     ·rename_i hr
      obtain⟨n1,e1⟩:=jL.1 h1
      cases hb:fB AP lp.body ⟨st.tmps,eu st.sig l fun p=>{p with ready:=false}⟩with
      |none=>rw[hb]at h;cases h
      |some q=>
       obtain⟨e,aQ⟩:=q
       obtain⟨n2,e2⟩:=jL.1 hb
       rw[hb]at h
       refine Ay (n:=max n1 n2) ?_
       simp only[iP,sh,ak bn,uK (Cm n1 n2) e1,ak hr,uK (HB n1 n2) e2]
       cases e<;>exact h
     ·cases h
    ·cases h
   ·cases h
  ·cases h
end
end Go.Ax
/-
  A call's arguments as the executor has them: from the row's reading.
-/
namespace Go.Ax
open Go.ChangeShapes Go.WideShapes
def G8 (P:Program) (ok:TypeId→Bool) (size:Nat):Nat→List Field→Bool
 |off,[]=>decide (off=size)
 |off,f::r=>decide (f.offset=off)&&ok f.type&&G8 P ok size (off+P.cellsOf f.type) r
def mR (P:Program):Nat→TypeId→Bool
 |0,_=>false
 |d+1,t=>match P.underlying t with
  |some .bool|some (.int _)|some .string=>decide (P.cellsOf t=1)
  |some (.slice e)=>decide (P.cellsOf t=1)&&decide (0<P.cellsOf e)&&mR P d e
  |some (.struct fs)=>G8 P (mR P d) (P.cellsOf t) 0 fs.toList
  |some (.array n e)=>decide (n*P.cellsOf e=P.cellsOf t)&&mR P d e
  |_=>false
def dX (P:Program):Nat→TypeId→List AV→Prop
 |0,_,_=>False
 |d+1,t,bO=>match P.underlying t with
  |some .bool=>∃b,bO=[.v (.bool b)]
  |some (.int k)=>∃x,bO=[.v (.int k x)]∧(Lit.int k x).wf=true
  |some .string=>∃s:ByteArray,bO=[.v (.string s)]∧s.size≤maxLen
  |some (.slice e)=>∃o rows,bO=[.slice o (P.cellsOf e) rows]∧(o=.any∨(o=.aA∧rows=[]))∧rows.length≤maxLen∧(∀r∈rows,r.length=P.cellsOf e∧dX P d e r)∧rows.length*P.bytesOf e≤reachBytes
  |some (.struct fs)=>∃ps:List (List AV),bO=ps.flatten∧ps.length=fs.size∧∀(i:Nat) (f:Field) (p:List AV),fs[i]? =some f→ps[i]? =some p→p.length=P.cellsOf f.type∧dX P d f.type p
  |some (.array n e)=>∃ps:List (List AV),bO=ps.flatten∧ps.length=n∧∀p∈ps,p.length=P.cellsOf e∧dX P d e p
  |_=>False
structure RL (w:World) (bO:List AV) (cs:List Value):Prop where
 len:bO.length=cs.length
 get:∀(i:Nat) (a:AV) (c:Value),bO[i]? =some a→cs[i]? =some c→Reads w a c∧a.bt=true
theorem RL.nil {w:World}:RL w [] []:=⟨rfl,fun i a c h=>by simp at h⟩
theorem RL.one {w:World} {a:AV} {c:Value} (h:Reads w a c) (hc:a.bt=true):RL w [a] [c]:=⟨rfl,fun i x y h1 h2=>by
 cases i with
 |zero=>simp at h1 h2;subst h1 h2;exact⟨h,hc⟩
 |succ i=>simp at h1⟩
theorem RL.append {w:World} {a b:List AV} {c d:List Value} (h:RL w a c) (k:RL w b d):RL w (a++b) (c++d):=⟨by simp[h.len,k.len],fun i x y h1 h2=>by
 by_cases hi:i<a.length
 ·rw[dC hi]at h1
  rw[dC (by rw[←h.len];exact hi)]at h2
  exact h.get i x y h1 h2
 ·rw[gE (by omega)]at h1
  rw[gE (by rw[←h.len];omega),←h.len]at h2
  exact k.get _ x y h1 h2⟩
section
variable{H:Type} {enc:TypeId×Value→H} {P:Program} {w:World}
theorem aaK {α:Type} (l:List α) (off n:Nat):(l.drop off).take n++l.drop (off+n)=l.drop off:=by
 rw[←List.drop_drop];exact Hx _ _
theorem Y8 {d size:Nat} {cs:List Value} {n:Nat} (ih:∀(t:TypeId) (fuel:Nat) (cs:List Value) (x:DataW H×List MemPlace),mR P d t=true→DataW.trod enc P w 0 (fun _=>true) true fuel t cs=some x→(∀n∈x.1.weights P t,n≤reachBytes)→∃bO,RL w bO cs∧cs.length=P.cellsOf t∧dX P d t bO) (hl:cs.length=size):
  ∀(fs:List Field) (off:Nat),G8 P (mR P d) size off fs=true→(∀f∈fs,∃y,DataW.trod enc P w 0 (fun _=>true) true n f.type ((cs.drop f.offset).take (P.cellsOf f.type))=some y∧∀n∈y.1.weights P f.type,n≤reachBytes)→
   ∃ps:List (List AV),RL w ps.flatten (cs.drop off)∧ps.length=fs.length∧∀(i:Nat) (f:Field) (p:List AV),fs[i]? =some f→ps[i]? =some p→p.length=P.cellsOf f.type∧dX P d f.type p
 |[],off,ht,_=>by
  have:off=size:=by simpa[G8]using ht
  subst this
  refine⟨[],?_,rfl,fun i f p h=>by simp at h⟩
  rw[←hl,eS];exact .nil
 | f :: r, off, ht, hf => by
  simp only[G8,dB,dZ]at ht
  obtain⟨⟨rfl,bE⟩,hr⟩:=ht
  obtain⟨y,hy,PN⟩:=hf f (xS ..)
  obtain⟨bO,h1,h2,h3⟩:=ih _ _ _ _ bE hy PN
  obtain⟨ps,k1,k2,k3⟩:=Y8 ih hl r _ hr (fun g hg=>hf g (jg _ hg))
  refine⟨bO::ps,?_,by simp[k2],fun i g p hg hp=>?_⟩
  ·rw[sV,←aaK cs f.offset (P.cellsOf f.type)]
   exact h1.append k1
  ·cases i with
   |zero=>simp at hg hp;subst hg hp;exact⟨by rw[h1.len,h2],h3⟩
   |succ i=>simp at hg hp;exact k3 i g p hg hp
theorem Y7 {d:Nat} {cs:List Value} {n:Nat} {e:TypeId} (ih:∀(t:TypeId) (fuel:Nat) (cs:List Value) (x:DataW H×List MemPlace),mR P d t=true→DataW.trod enc P w 0 (fun _=>true) true fuel t cs=some x→(∀n∈x.1.weights P t,n≤reachBytes)→∃bO,RL w bO cs∧cs.length=P.cellsOf t∧dX P d t bO) (bE:mR P d e=true):
  ∀(k i:Nat),cs.length=(i+k)*P.cellsOf e→(∀j,i≤j→j<i+k→∃y,DataW.trod enc P w 0 (fun _=>true) true n e ((cs.drop (j*P.cellsOf e)).take (P.cellsOf e))=some y∧∀n∈y.1.weights P e,n≤reachBytes)→
   ∃ps:List (List AV),RL w ps.flatten (cs.drop (i*P.cellsOf e))∧ps.length=k∧∀p∈ps,p.length=P.cellsOf e∧dX P d e p
 |0,i,hl,_=>by
  refine⟨[],?_,rfl,fun p h=>by simp at h⟩
  rw[show i*P.cellsOf e=cs.length by rw[hl];simp,eS];exact .nil
 | k + 1, i, hl, hf => by
  obtain⟨y,hy,PN⟩:=hf i (aH _) (by omega)
  obtain⟨bO,h1,h2,h3⟩:=ih _ _ _ _ bE hy PN
  obtain⟨ps,k1,k2,k3⟩:=Y7 ih bE k (i+1) (by rw[hl];congr 1;omega) (fun j h1 h2=>hf j (by omega) (by omega))
  refine⟨bO::ps,?_,by simp[k2],fun p hp=>?_⟩
  ·rw[sV,←aaK cs (i*P.cellsOf e) (P.cellsOf e)]
   rw[Nat.succ_mul]at k1
   exact h1.append k1
  ·rcases eC.1 hp with rfl|hp
   ·exact⟨by rw[h1.len,h2],h3⟩
   ·exact k3 p hp
theorem RC {e:TypeId}:∀{l:List (DataW H)} {d:DataW H},d∈l→∀n∈d.weights P e,n∈DataW.weightsAll P e l
 |x::l,d,h,n,hn=>by
  simp only[DataW.weightsAll,dD]
  rcases eC.1 h with rfl|h
  ·exact .inl hn
  ·exact .inr (RC h n hn)
 |[],d,h,_,_=>by cases h
theorem Y9 : ∀ (d : Nat) (t : TypeId) (fuel : Nat) (cs : List Value) (x : DataW H × List MemPlace), mR P d t = true → DataW.trod enc P w 0 (fun _ => true) true fuel t cs = some x → (∀ n ∈ x.1.weights P t, n ≤ reachBytes) →
    ∃bO,RL w bO cs∧cs.length=P.cellsOf t∧dX P d t bO
  |0,t,fuel,cs,x,h,_,_=>by simp[mR]at h
  | d + 1, t, fuel, cs, x, bE, h, lZ => by
    have ih:=Y9 d
    unfold mR at bE
    cases hu:P.underlying t with
    |none=>rw[hu]at bE;cases bE
    | some u =>
      rw[hu]at bE
      cases u with
      | bool =>
        obtain⟨b,rfl,_⟩:=DataW.trod_bool hu h
        exact⟨[.v (.bool b)],.one (.v rfl) rfl,by simp only[dZ]at bE;simp[bE],by simp only[dX,hu];exact⟨b,rfl⟩⟩
      | int k =>
        obtain⟨n,rfl,_,hw⟩:=DataW.trod_int hu h
        exact⟨[.v (.int k n)],.one (.v rfl) rfl,by simp only[dZ]at bE;simp[bE],by simp only[dX,hu];exact⟨n,rfl,hw⟩⟩
      | string =>
        obtain⟨s,rfl,_,hw⟩:=DataW.trod_string hu h
        exact⟨[.v (.string s)],.one (.v rfl) rfl,by simp only[dZ]at bE;simp[bE],by simp only[dX,hu];exact⟨s,rfl,hw⟩⟩
      | struct fs =>
        obtain⟨xs,n,_,qS,hl,Bt,dS⟩:=DataW.trod_struct hu h
        subst qS
        have lZ:∀n∈DataW.weightsEach P (fs.toList.map (·.type)) (xs.map (·.1)),n≤reachBytes:=fun n hn=>lZ n (by simpa[DataW.weights,hu]using hn)
        obtain⟨ps,k1,k2,k3⟩:=Y8 ih hl fs.toList 0 bE (fun f hf=>by
          obtain⟨i,hi⟩:=mZ hf
          have bD:fs[i]? =some f:=by simpa using hi
          have aC:i<xs.length:=by
            have:=(bd.1 hi).1
            rw[Bt];simpa using this
          exact⟨xs[i],by rw[dS i f bD,cM aC],fun n hn=>lZ n (DataW.weights_mem_each (j:=i) (t:=f.type) (d:=xs[i].1) (by rw[jf,hi];rfl) (by rw[jf,cM aC];rfl) n hn)⟩)
        exact⟨ps.flatten,by simpa using k1,hl,by simp only[dX,hu];exact⟨ps,rfl,by simpa using k2,fun i f p hf hp=>k3 i f p (by simpa using hf) hp⟩⟩
      | array n e =>
        simp only[dB,dZ]at bE
        obtain⟨xs,m,_,qS,hl,Bt,dS⟩:=DataW.trod_array hu h
        subst qS
        have lZ:∀n∈DataW.weightsAll P e (xs.map (·.1)),n≤reachBytes:=fun n hn=>lZ n (by simpa[DataW.weights,hu]using hn)
        obtain⟨ps,k1,k2,k3⟩:=Y7 (n:=m) (cs:=cs) ih bE.2 n 0 (by rw[hl,←bE.1,fC]) (fun j _ hj=>by
          have aC:j<xs.length:=by omega
          exact⟨xs[j],by rw[dS j (by omega),cM aC],fun n hn=>lZ n (RC (cC.2 ⟨xs[j],gv aC,rfl⟩) n hn)⟩)
        exact⟨ps.flatten,by simpa using k1,hl,by simp only[dX,hu];exact⟨ps,rfl,k2,k3⟩⟩
      | slice e =>
        simp only[dB,dZ]at bE
        obtain⟨⟨dU,ze⟩,ajs⟩:=bE
        rcases Deep.open_slice hu h with⟨rfl,_⟩|⟨a,len,cap,m,n,D,Pl,rfl,_,OS,r8,hm,qS,hx⟩
        · exact⟨[.slice .aA (P.cellsOf e) []],.one .aA rfl,by simp[dU],by simp only[dX,hu];exact⟨_,_,rfl,.inr ⟨rfl,rfl⟩,by simp,fun r hr=>by simp at hr,by simp⟩⟩
        · subst qS
          have XL:∀n,n=((((List.range len).map D).length+((List.range (m-len)).map fun j=>D (len+j)).length)*P.bytesOf e)∨n∈DataW.weightsAll P e ((List.range len).map D)→n≤reachBytes:=fun n hn=>lZ n (by
            simp only[DataW.weights,hu,eC,dD]
            rcases hn with hn|hn
            · exact .inl hn
            · exact .inr (.inl hn))
          simp only[bB]at hm
          have hm':cap=m:=hm.symm
          subst hm'
          by_cases h0:cap=0
          · subst h0
            have:len=0:=by omega
            subst this
            exact⟨[.slice .any (P.cellsOf e) []],.one (.empty (.inl rfl)) rfl,by simp[dU],by simp only[dX,hu];exact⟨_,_,rfl,.inl rfl,by simp,fun r hr=>by simp at hr,by simp⟩⟩
          · obtain ⟨blk, off, spot⟩ := a
            have ajW:spot=none:=by
              obtain⟨cs',h1,_⟩:=hx 0 (by omega)
              obtain⟨_,qI,hg⟩:=World.cells?_some h1
              have:=hg 0 ze
              rw[cM (by omega)]at this
              simpa[Addr.add]using World.cell?_spot this
            subst ajW
            obtain⟨F,hF⟩:=Deep.choose_lt (α:=List AV×List Value) (n:=len) (p:=fun i q=>w.cells? 0 ((⟨blk,off,none⟩:Addr).add (i*P.cellsOf e)) (P.cellsOf e)=some q.2∧RL w q.1 q.2∧q.2.length=P.cellsOf e∧dX P d e q.1) (fun i hi=>by
              obtain⟨cs',h1,h2⟩:=hx i (by omega)
              obtain⟨bO,k1,k2,k3⟩:=ih _ _ _ _ ajs h2 (fun n hn=>XL n (.inr (RC (cC.2 ⟨i,nQ.2 hi,rfl⟩) n hn)))
              exact⟨(bO,cs'),h1,k1,k2,k3⟩)
            have qO:∀i (hi:i<((List.range len).map fun i=>(F i).1).length),((List.range len).map fun i=>(F i).1)[i]=(F i).1:=fun i hi=>by simp
            have br:∀i,i<len→∀j,j<P.cellsOf e→w.cell? ⟨blk,off+i*P.cellsOf e+j,none⟩=(F i).2[j]? :=by
              intro i hi j hj
              obtain⟨_,_,hg⟩:=World.cells?_some (hF i hi).1
              have:=hg j hj
              rw[add_plain,add_plain]at this
              exact this
            refine⟨[.slice .any (P.cellsOf e) ((List.range len).map fun i=>(F i).1)],.one ?_ rfl,by simp[dU],?_⟩
            · have hlen : ((List.range len).map fun i => (F i).1).length = len := by simp
              have:=bJ.slice (I:=fun b i=>w.cell? ⟨b,i,none⟩) (o:=.any) (es:=P.cellsOf e) (xs:=(List.range len).map fun i=>(F i).1) (blk:=blk) (off:=off) (cap:=cap) (fun i j=>((F i).2).getD j Go.undef) (.inl rfl) (by rw[hlen];exact OS)
                (fun r hr=>by
                  obtain⟨i,hi,rfl⟩:=cC.1 hr
                  have:=hF i (by simpa using hi)
                  rw[this.2.1.len,this.2.2.1])
                (fun r hr c hc=>by
                  obtain⟨i,hi,rfl⟩:=cC.1 hr
                  have qE:=hF i (by simpa using hi)
                  obtain⟨j,hj⟩:=mZ hc
                  have gS:=(bd.1 hj).1
                  exact(qE.2.1.get j c ((F i).2[j]'(by rw[←qE.2.1.len];exact gS)) hj (cM _)).2)
                (fun i hi j hj=>by
                  have bD:i<len:=by simpa using hi
                  have qE:=hF i bD
                  rw[qO i hi]at hj
                  have dH:j<(F i).2.length:=by rw[←qE.2.1.len];exact hj
                  rw[br i bD j (by rw[←qE.2.2.1];exact dH),cM dH]
                  simp[List.getD,cM dH])
                (fun i hi j hj=>by
                  have bD:i<len:=by simpa using hi
                  have qE:=hF i bD
                  have W7:j<(F i).1.length:=by rw[qO i hi]at hj;exact hj
                  have dH:j<(F i).2.length:=by rw[←qE.2.1.len];exact W7
                  have hg:=(qE.2.1.get j ((F i).1[j]) ((F i).2[j]) (cM W7) (cM dH)).1
                  have e1:((List.range len).map fun i=>(F i).1)[i][j]=(F i).1[j]:=by simp
                  rw[e1,show((F i).2).getD j Go.undef=(F i).2[j]by simp[List.getD,cM dH]]
                  exact hg)
              rw[hlen]at this
              exact this
            · simp only [dX, hu]
              exact⟨_,_,rfl,.inl rfl,by simp;omega,fun r hr=>by
                obtain⟨i,hi,rfl⟩:=cC.1 hr
                have qE:=hF i (by simpa using hi)
                exact⟨by rw[qE.2.1.len,qE.2.2.1],qE.2.2.2⟩,by
                have:=XL _ (.inl rfl)
                simp only[bY,pF]at this⊢
                exact kQ (oC _ (by omega)) this⟩
      |_=>cases bE
end
end Go.Ax
/-
  Computing with the executor: the steps, one by one.
-/
namespace Go.Ax.Sx
structure Ok (s:ae):Prop where
 ro:s.ro≤s.ag.length
 bo:s.bo≤s.loops.length
theorem Ok.push {s:ae} (h:Ok s) (r:Rec):Ok (s.push r):=⟨by have:=h.ro;simp[ae.push];omega,h.bo⟩
@[simp] theorem pop_push (s:ae) (r:Rec):(s.push r).pop=s:=by simp[ae.push,ae.pop]
@[simp] theorem fE (s:ae) (r:Rec):(s.push r).cur=s.ag.length:=by simp[ae.push,ae.cur]
theorem LO (s:ae) (r:Rec):(s.push r).ag.length=s.ag.length+1:=by simp[ae.push]
theorem iw (s:ae) (r:Rec) (b:Nat):(s.push r).box s.ag.length b=r.boxes[b]? :=by simp[ae.push,ae.box]
theorem xw (s:ae) (r:Rec):(s.push r).bL s.ag.length=r.boxes.length:=by simp[ae.push,ae.bL]
theorem B6 (s:ae) (r:Rec) (g:Nat):(s.push r).tok s.ag.length g=(r.toks[g]?).join:=by simp[ae.push,ae.tok]
theorem qc (s:ae) (r:Rec):(s.push r).jJ s.ag.length=r.toks.length:=by simp[ae.push,ae.jJ]
theorem zA (s:ae) (r:Rec) (f:Rec→Rec):(s.push r).bp s.ag.length f=s.push (f r):=by
 simp only[ae.push,ae.bp,ae.mk.injEq,and_true]
 apply pE
 intro i
 rw[vN]
 by_cases h:i<s.ag.length
 ·rw[dC h,dC h]
  have:¬s.ag.length=i:=by omega
  simp[this]
 ·rw[gE (by omega),gE (by omega)]
  by_cases h':s.ag.length=i
  ·subst h';simp
  ·have e:i-s.ag.length=(i-s.ag.length-1)+1:=by omega
   rw[e];simp
theorem Cx (s:ae) (r:Rec) (cs:List AV):(s.push r).jk s.ag.length cs=s.push ⟨r.boxes++[cs],r.toks⟩:=by rw[ae.jk,zA]
theorem Ri (s:ae) (r:Rec) (b:Nat) (cs:List AV):(s.push r).dA s.ag.length b cs=s.push ⟨r.boxes.set b cs,r.toks⟩:=by rw[ae.dA,zA]
theorem oF (s:ae) (r:Rec) (n:Nat):(s.push r).kU s.ag.length n=s.push ⟨r.boxes,r.toks++[some n]⟩:=by rw[ae.kU,zA]
theorem KY (s:ae) (r:Rec) (g:Nat) (n:Option Nat):(s.push r).mg s.ag.length g n=s.push ⟨r.boxes,r.toks.set g n⟩:=by rw[ae.mg,zA]
theorem QW (s:ae) (r:Rec):(s.push r).ro=s.ro:=rfl
section
variable{call:aZ} {ρ:Nat→AV} {m:ae} {t:Nat} {rest:List bz}
noncomputable def andThen (call:aZ) (d:Option Nat) (rest:List bz) (ρ:Nat→AV) (r:Option (AV×ae)):Option St:=
 r.bind fun p=>ops call rest ⟨kj ρ d p.1,p.2⟩
theorem Zc {d:Option Nat} {op:bX}:ops call (⟨d,none,op⟩::rest) ⟨ρ,m⟩=andThen call d rest ρ (aN call (aE ρ) m op):=by
 simp only[ops,kn,andThen,bB]
 cases aN call (aE ρ) m op<;>rfl
def lD {β:Type} (x:AV) (f:Bool→β) (d:β):β:=
 match x with
 |.v (.bool b)=>f b
 |_=>d
theorem KG {β:Type} {b:Bool} {f:Bool→β} {d:β}:lD (.v (.bool b)) f d=f b:=rfl
theorem ape {β:Type} {x x':AV} {f:Bool→β} {d:β} (h:x=x'):lD x f d=lD x' f d:=by rw[h]
theorem aq2:put t (ρ t) ρ=ρ:=by
 funext u;unfold put;split
 ·rename_i h;rw[h]
 ·rfl
theorem apj {d:Option Nat} {op:bX} {b:Bool}:ops call (⟨d,some (t,b),op⟩::rest) ⟨ρ,m⟩=
  lD (ρ t) (fun c=>cond c
   (cond b (andThen call d rest (put t (.v (.bool true)) ρ) (aN call (aE (put t (.v (.bool true)) ρ)) m op)) (ops call rest ⟨kj (put t (.v (.bool true)) ρ) d AV.undef,m⟩))
   (cond b (ops call rest ⟨kj (put t (.v (.bool false)) ρ) d AV.undef,m⟩) (andThen call d rest (put t (.v (.bool false)) ρ) (aN call (aE (put t (.v (.bool false)) ρ)) m op))))
   (ops call rest ⟨kj ρ d AV.undef,m⟩):=by
 have hw:∀b',B8 b (.v (.bool b'))=(b'==b):=fun _=>rfl
 by_cases h:∃c,ρ t=.v (.bool c)
 ·obtain⟨c,h⟩:=h
  have e:put t (.v (.bool c)) ρ=ρ:=by rw[←h];exact aq2
  simp only[ops,kn,andThen,h,hw,lD]
  cases c<;>cases b<;>simp[e]<;>(cases aN call (aE ρ) m op<;>rfl)
 ·have h1:B8 b (ρ t)=false:=by
   cases hx:ρ t with
   |v x=>cases x with
    |bool c=>exact absurd ⟨c,hx⟩ h
    |_=>rfl
   |_=>rfl
  have h2:∀{β:Type} (f:Bool→β) (d:β),lD (ρ t) f d=d:=by
   intro β f d
   cases hx:ρ t with
   |v x=>cases x with
    |bool c=>exact absurd ⟨c,hx⟩ h
    |_=>rfl
   |_=>rfl
  simp[ops,kn,h1,h2]
end
inductive K where
 |c (a:au)
 |blk (id:Nat)
 |lp (a:au)
section
variable(AP:FuncId→Option aJ) (Fin:cV→St→Option (AV×ae))
noncomputable def iS:List K→cV→St→Option (AV×ae)
 |[],e,st=>Fin e st
 |.c a::ks,e,st=>match e with
  |.normal=>(fB AP a st).bind fun p=>iS ks p.1 p.2
  |e=>iS ks e st
 |.blk id::ks,e,st=>match e with
  |.exit j=>if j=id then iS ks .normal st else iS ks (.exit j) st
  |e=>iS ks e st
 |.lp a::ks,e,st=>match e with
  |.normal=>(fB AP (.loop a) st).bind fun p=>iS ks p.1 p.2
  |e=>iS ks e st
noncomputable def go (ks:List K) (st:St):Option (AV×ae):=iS AP Fin ks .normal st
noncomputable def dv (l:List bz) (ks:List K) (st:St):Option (AV×ae):=(ops (aw AP) l st).bind fun aQ=>go AP Fin ks aQ
noncomputable def uN (id:Nat) (ks:List K) (st:St):Option (AV×ae):=iS AP Fin ks (.exit id) st
noncomputable def Wh (ks:List K) (st:St):Option (AV×ae):=iS AP Fin ks .ret st
noncomputable def qC (d:Option Nat) (l:List bz) (ks:List K) (ρ:Nat→AV) (r:Option (AV×ae)):Option (AV×ae):=r.bind fun p=>dv AP Fin l ks ⟨kj ρ d p.1,p.2⟩
def aW (rs:List iq) (own:Bool):cV→St→Option (AV×ae)
 |.exit _,_=>none
 |_,st=>finish rs own st
def qw (l:Nat) (e:cV) (st:St):Option (AV×ae):=endRound l (some (e,st))
variable{AP Fin} {ks:List K} {st:St} {a b:au} {ρ:Nat→AV} {m:ae} {rest:List bz}
theorem ahf:go AP Fin [] st=Fin .normal st:=rfl
theorem ag8 {id:Nat}:uN AP Fin id [] st=Fin (.exit id) st:=rfl
theorem Ft:∀{ks:List K},Wh AP Fin ks st=Fin .ret st
 |[]=>rfl
 |.c _::ks=>(Ft (ks:=ks):_)
 |.blk _::ks=>(Ft (ks:=ks):_)
 |.lp _::ks=>(Ft (ks:=ks):_)
theorem ag6 {id:Nat}:uN AP Fin id (.c a::ks) st=uN AP Fin id ks st:=rfl
theorem ag7 {id:Nat}:uN AP Fin id (.lp a::ks) st=uN AP Fin id ks st:=rfl
theorem ag5 {id j:Nat}:uN AP Fin id (.blk j::ks) st=if id=j then go AP Fin ks st else uN AP Fin id ks st:=rfl
theorem go_skip:go AP Fin (.c .skip::ks) st=go AP Fin ks st:=by simp[go,iS,arY]
theorem ahc {id:Nat}:go AP Fin (.c (.exit id)::ks) st=uN AP Fin id ks st:=by simp[go,iS,arS,uN]
theorem go_ret:go AP Fin (.c .ret::ks) st=Fin .ret st:=by
 rw[←Ft (AP:=AP) (Fin:=Fin) (ks:=ks) (st:=st)];simp[go,iS,arW,Wh]
theorem ag9 {id:Nat}:go AP Fin (.blk id::ks) st=go AP Fin ks st:=rfl
theorem ahe:go AP Fin (.lp a::ks) st=go AP Fin (.c (.loop a)::ks) st:=rfl
theorem go_region {d:Bool} {l:List bz}:go AP Fin (.c (.region d l)::ks) st=dv AP Fin l ks st:=by
 simp only[go,iS,arV,dv,Option.bind_map];rfl
theorem ahg:go AP Fin (.c (.seq a b)::ks) st=go AP Fin (.c a::.c b::ks) st:=by
 simp only[go,iS,arX]
 cases h:fB AP a st with
 |none=>rfl
 |some p=>obtain⟨e,aQ⟩:=p;cases e<;>rfl
theorem aha {id:Nat}:go AP Fin (.c (.block id a)::ks) st=go AP Fin (.c a::.blk id::ks) st:=by
 simp only[go,iS,arQ]
 cases h:fB AP a st with
 |none=>rfl
 |some p=>
  obtain⟨e,aQ⟩:=p
  cases e with
  |exit j=>by_cases hj:j=id<;>simp[hj]
  |_=>rfl
theorem go_loop:go AP Fin (.c (.loop a)::ks) st=go AP Fin (.c a::.lp a::ks) st:=by
 simp only[go,iS]
 rw[arT]
 cases h:fB AP a st with
 |none=>rfl
 |some p=>obtain⟨e,aQ⟩:=p;cases e<;>rfl
theorem ahb {x:aF}:go AP Fin (.c (.cond x a b)::ks) ⟨ρ,m⟩=lD (aE ρ x) (fun t=>cond t (go AP Fin (.c a::ks) ⟨ρ,m⟩) (go AP Fin (.c b::ks) ⟨ρ,m⟩)) none:=by
 simp only[go,iS,arR,lD]
 cases aE ρ x with
 |v y=>cases y with
  |bool t=>cases t<;>rfl
  |_=>rfl
 |_=>rfl
theorem agY:dv AP Fin [] ks st=go AP Fin ks st:=rfl
theorem Wg {d:Option Nat} {op:bX}:dv AP Fin (⟨d,none,op⟩::rest) ks ⟨ρ,m⟩=qC AP Fin d rest ks ρ (aN (aw AP) (aE ρ) m op):=by
 simp only[dv,Zc,andThen,qC]
 cases aN (aw AP) (aE ρ) m op<;>rfl
theorem Fs {d:Option Nat} {op:bX} {t:Nat} {b:Bool}:dv AP Fin (⟨d,some (t,b),op⟩::rest) ks ⟨ρ,m⟩=
  lD (ρ t) (fun c=>cond c
   (cond b (dv AP Fin (⟨d,none,op⟩::rest) ks ⟨put t (.v (.bool true)) ρ,m⟩) (dv AP Fin rest ks ⟨kj (put t (.v (.bool true)) ρ) d AV.undef,m⟩))
   (cond b (dv AP Fin rest ks ⟨kj (put t (.v (.bool false)) ρ) d AV.undef,m⟩) (dv AP Fin (⟨d,none,op⟩::rest) ks ⟨put t (.v (.bool false)) ρ,m⟩)))
   (dv AP Fin rest ks ⟨kj ρ d AV.undef,m⟩):=by
 simp only[dv,apj,Zc]
 have:∀(x:AV) (f:Bool→Option St) (d:Option St) (g:St→Option (AV×ae)),(lD x f d).bind g=lD x (fun c=>(f c).bind g) (d.bind g):=by
  intro x f d g
  cases x with
  |v y=>cases y<;>rfl
  |_=>rfl
 rw[this]
 congr 1
 funext c
 cases c<;>cases b<;>rfl
theorem agX {op:bX} {t:Nat}:dv AP Fin (⟨none,some (t,true),op⟩::rest) ks ⟨ρ,m⟩=
  lD (ρ t) (fun c=>cond c (dv AP Fin (⟨none,none,op⟩::rest) ks ⟨put t (.v (.bool true)) ρ,m⟩) (dv AP Fin rest ks ⟨put t (.v (.bool false)) ρ,m⟩)) (dv AP Fin rest ks ⟨ρ,m⟩):=by
 rw[Fs];rfl
theorem agW {op:bX} {t:Nat}:dv AP Fin (⟨none,some (t,false),op⟩::rest) ks ⟨ρ,m⟩=
  lD (ρ t) (fun c=>cond c (dv AP Fin rest ks ⟨put t (.v (.bool true)) ρ,m⟩) (dv AP Fin (⟨none,none,op⟩::rest) ks ⟨put t (.v (.bool false)) ρ,m⟩)) (dv AP Fin rest ks ⟨ρ,m⟩):=by
 rw[Fs];rfl
def eH:List (Nat×AV)→(Nat→AV)→Nat→AV
 |[],ρ=>ρ
 |(d,x)::ws,ρ=>put d x (eH ws ρ)
def gu:List (Nat×AV)→List (Nat×AV)
 |[]=>[]
 |(d,_)::ws=>(d,AV.undef)::gu ws
noncomputable def uI (AP:FuncId→Option aJ) (Fin:cV→St→Option (AV×ae)) (c:Bool) (t:Nat) (b:Bool) (d:Nat) (op:bX) (l:List bz) (ks:List K) (ρ:Nat→AV) (m:ae):Option (AV×ae):=
 cond (c==b) (dv AP Fin (⟨some d,none,op⟩::l) ks ⟨put t (.v (.bool b)) ρ,m⟩) (dv AP Fin l ks ⟨put d AV.undef (put t (.v (.bool !b)) ρ),m⟩)
theorem Wf {d:Nat} {op:bX} {t:Nat} {b:Bool}:dv AP Fin (⟨some d,some (t,b),op⟩::rest) ks ⟨ρ,m⟩=
  lD (ρ t) (fun c=>uI AP Fin c t b d op rest ks ρ m) (dv AP Fin rest ks ⟨put d AV.undef ρ,m⟩):=by
 rw[Fs]
 congr 1
 funext c
 cases c<;>cases b<;>rfl
theorem aeZ {d t:Nat} {op:bX}:uI AP Fin true t true d op rest ks ρ m=dv AP Fin (⟨some d,none,op⟩::rest) ks ⟨put t (.v (.bool true)) ρ,m⟩:=rfl
theorem aeY {d t:Nat} {op:bX}:uI AP Fin false t false d op rest ks ρ m=dv AP Fin (⟨some d,none,op⟩::rest) ks ⟨put t (.v (.bool false)) ρ,m⟩:=rfl
theorem aeX {d t:Nat} {op:bX}:uI AP Fin false t true d op rest ks ρ m=dv AP Fin rest ks ⟨put d AV.undef (put t (.v (.bool false)) ρ),m⟩:=rfl
theorem aeW {d t:Nat} {op:bX}:uI AP Fin true t false d op rest ks ρ m=dv AP Fin rest ks ⟨put d AV.undef (put t (.v (.bool true)) ρ),m⟩:=rfl
theorem ag4 {t:Nat} {x:AV} {m':ae}:qC AP Fin (some t) rest ks ρ (some (x,m'))=dv AP Fin rest ks ⟨put t x ρ,m'⟩:=rfl
theorem aq1 {t:Nat} {x y:AV}:put t x (put t y ρ)=put t x ρ:=by
 funext u;unfold put;by_cases h:u=t<;>simp[h]
theorem GN {d t:Nat} {x y:AV} (h:(d==t)=false):put d x (put t y ρ)=put t y (put d x ρ):=by
 have h:d≠t:=by simpa using h
 funext u
 unfold put
 by_cases h1:u=d
 ·subst h1;simp[h]
 ·by_cases h2:u=t
  ·subst h2;simp[h1]
  ·simp[h1,h2]
def qb (c b:Bool):List (Nat×AV)→List (Nat×AV)
 |[]=>[]
 |(d,x)::ws=>(d,cond b (cond c x AV.undef) (cond c AV.undef x))::qb c b ws
theorem Qn (c b:Bool):∀ws:List (Nat×AV),qb c b ws=cond (c==b) ws (gu ws)
 |[]=>by cases c<;>cases b<;>rfl
 |(d,x)::ws=>by rw[qb,Qn c b ws];cases c<;>cases b<;>rfl
structure GF where
 c:Bool
 t:Nat
 b:Bool
 ws:List (Nat×AV)
def lK:List GF→(Nat→AV)→Nat→AV
 |[],ρ=>ρ
 |f::fs,ρ=>put f.t (.v (.bool f.b)) (eH f.ws (lK fs ρ))
def js:List GF→Bool
 |[]=>true
 |f::fs=>js fs&&(f.c==f.b)
def iQ:List GF→(Nat→AV)→Nat→AV
 |[],ρ=>ρ
 |f::fs,ρ=>cond (js fs) (cond (f.c==f.b) (put f.t (.v (.bool f.b)) (eH f.ws (iQ fs ρ))) (put f.t (.v (.bool !f.b)) (eH (gu f.ws) (iQ fs ρ)))) (eH (gu f.ws) (iQ fs ρ))
def eV (t:Nat):List (Nat×AV)→Bool
 |[]=>false
 |(d,_)::ws=>decide (t=d)||eV t ws
def lookW (t:Nat):List (Nat×AV)→AV
 |[]=>AV.undef
 |(d,x)::ws=>if t=d then x else lookW t ws
def okF:List GF→Bool
 |[]=>true
 |[_]=>true
 |f::g::fs=>eV f.t g.ws&&!decide (f.t=g.t)&&okF (g::fs)
theorem HM:∀{fs:List GF} {ρ:Nat→AV},js fs=true→iQ fs ρ=lK fs ρ
 |[],_,_=>rfl
 |f::fs,ρ,h=>by
  simp only[js,dB]at h
  simp only[iQ,lK,h.1,h.2,gd,HM h.1]
theorem Yz {t:Nat}:∀{ws:List (Nat×AV)} {ρ:Nat→AV},eV t ws=true→eH ws ρ t=lookW t ws
 |[],_,h=>by simp[eV]at h
 | (d, x) :: ws, ρ, h => by
  simp only[eH,put,lookW]
  by_cases e:t=d
  ·rw[ak e,ak e]
  ·rw[aq e,aq e]
   simp only[eV,e,qt,mW]at h
   exact Yz h
theorem K5 {t:Nat}:∀{ws:List (Nat×AV)} {ρ:Nat→AV},eV t ws=true→eH (gu ws) ρ t=AV.undef
 |[],_,h=>by simp[eV]at h
 | (d, x) :: ws, ρ, h => by
  simp only[gu,eH,put]
  by_cases e:t=d
  ·rw[ak e]
  ·rw[aq e]
   simp only[eV,e,qt,mW]at h
   exact K5 h
theorem aaZ {t:Nat}:∀{ws:List (Nat×AV)} {ρ:Nat→AV},ρ t=AV.undef→eH (gu ws) ρ t=AV.undef
 |[],_,h=>h
 |(d,x)::ws,ρ,h=>by
  simp only[gu,eH,put]
  by_cases e:t=d
  ·rw[ak e]
  ·rw[aq e];exact aaZ h
theorem ao7 {f g:GF} {fs:List GF} {ρ:Nat→AV} (h:okF (f::g::fs)=true) (ho:js (g::fs)=false):iQ (g::fs) ρ f.t=AV.undef:=by
 simp only[okF,dB,xI,rK]at h
 simp only[js]at ho
 simp only[iQ]
 cases h1:js fs with
 |true=>
  rw[h1]at ho
  simp only[iu]at ho
  simp only[ho,gd,iz,put]
  rw[aq h.1.2]
  exact K5 h.1.1
 |false=>
  simp only[iz]
  exact K5 h.1.1
noncomputable def gQ (AP:FuncId→Option aJ) (Fin:cV→St→Option (AV×ae)) (fs:List GF) (l:List bz) (ks:List K) (ρ:Nat→AV) (m:ae):Option (AV×ae):=dv AP Fin l ks ⟨iQ fs ρ,m⟩
noncomputable def qB (AP:FuncId→Option aJ) (Fin:cV→St→Option (AV×ae)) (f:GF) (fs:List GF) (d:Nat) (l:List bz) (ks:List K) (ρ:Nat→AV) (m:ae) (r:Option (AV×ae)):Option (AV×ae):=
 cond (js (f::fs)) (qC AP Fin (some d) l ks (lK (f::fs) ρ) r) (dv AP Fin l ks ⟨put d AV.undef (iQ (f::fs) ρ),m⟩)
theorem Wd {f:GF} {fs:List GF} {d:Nat} {op:bX} (h:okF (f::fs)=true):gQ AP Fin (f::fs) (⟨some d,some (f.t,f.b),op⟩::rest) ks ρ m=qB AP Fin f fs d rest ks ρ m (aN (aw AP) (aE (lK (f::fs) ρ)) m op):=by
 unfold gQ qB
 cases ha:js (f::fs)with
 | true =>
  rw[HM ha,Fs]
  have hg:lK (f::fs) ρ f.t=.v (.bool f.b):=by simp[lK,put]
  have hp:put f.t (.v (.bool f.b)) (lK (f::fs) ρ)=lK (f::fs) ρ:=by
   funext u;unfold put;by_cases e:u=f.t
   ·subst e;rw[ak rfl,hg]
   ·rw[aq e]
  rw[hg,KG]
  cases hb:f.b<;>rw[hb]at hp<;>simp only[gd,iz,Wg]<;>rw[hp]
 | false =>
  simp only[iz]
  rw[Fs]
  have hg:iQ (f::fs) ρ f.t=AV.undef∨iQ (f::fs) ρ f.t=.v (.bool !f.b):=by
   cases h1:js fs with
   |true=>
    simp only[js,h1,iu]at ha
    right
    simp[iQ,h1,ha,put]
   |false=>
    left
    simp only[iQ,h1,iz]
    cases fs with
    |nil=>simp[js]at h1
    |cons g fs=>exact aaZ (ao7 h h1)
  rcases hg with hg|hg
  ·rw[hg];rfl
  ·have hp:put f.t (.v (.bool !f.b)) (iQ (f::fs) ρ)=iQ (f::fs) ρ:=by
    funext u;unfold put;by_cases e:u=f.t
    ·subst e;rw[ak rfl,hg]
    ·rw[aq e]
   rw[hg,KG]
   cases hb:f.b<;>rw[hb]at hp<;>simp only[kM,mY,gd,iz]at hp⊢<;>rw[hp]<;>rfl
theorem Wa {f:GF} {fs:List GF} {d:Nat} {x:AV} (h:(decide (d=f.t))=false):qB AP Fin f fs d rest ks ρ m (some (x,m))=gQ AP Fin (⟨f.c,f.t,f.b,(d,x)::f.ws⟩::fs) rest ks ρ m:=by
 have h':(d==f.t)=false:=by simpa using h
 unfold qB gQ
 cases ha:js (f::fs)with
 |true=>
  have JD:js (⟨f.c,f.t,f.b,(d,x)::f.ws⟩::fs)=true:=ha
  rw[HM JD]
  simp only[gd,ag4,lK,eH]
  rw[GN h']
 | false =>
  simp only[iz,iQ]
  cases h1:js fs with
  |true=>
   simp only[js,h1,iu]at ha
   simp only[gd,ha,iz,gu,eH]
   rw[GN h']
  |false=>simp only[iz,gu,eH]
theorem aq4 {ws vs:List (Nat×AV)}:eH (ws++vs) ρ=eH ws (eH vs ρ):=by
 induction ws with
 |nil=>rfl
 |cons p ws ih=>obtain⟨d,x⟩:=p;simp only[kt,eH,ih]
theorem atb {ws vs:List (Nat×AV)}:gu (ws++vs)=gu ws++gu vs:=by
 induction ws with
 |nil=>rfl
 |cons p ws ih=>obtain⟨d,x⟩:=p;simp only[kt,gu,ih]
theorem aa0 {c b:Bool}:∀{ws:List (Nat×AV)},gu (qb c b ws)=gu ws
 |[]=>rfl
 |(d,x)::ws=>by simp only[qb,gu,aa0]
theorem BR {t:Nat} {x:AV}:∀{ws:List (Nat×AV)} {ρ:Nat→AV},eV t ws=false→put t x (eH ws ρ)=eH ws (put t x ρ)
 |[],_,_=>rfl
 |(d,y)::ws,ρ,h=>by
  simp only[eV,Le,rK]at h
  simp only[eH]
  rw[GN (by simpa using h.1),BR h.2]
theorem JF {t:Nat}:∀{ws:List (Nat×AV)},eV t (gu ws)=eV t ws
 |[]=>rfl
 |(d,y)::ws=>by simp only[gu,eV,JF]
theorem QL {t:Nat} {x:AV} (h:ρ t=x):put t x ρ=ρ:=by
 funext u;unfold put;by_cases e:u=t
 ·subst e;rw[ak rfl,h]
 ·rw[aq e]
theorem agE {f g:GF} {fs:List GF} (l:List bz) (h:okF (f::g::fs)=true) (hw:eV f.t f.ws=false) (hv:eV g.t f.ws=false):
  gQ AP Fin (f::g::fs) l ks ρ m=gQ AP Fin (⟨g.c,g.t,g.b,qb f.c f.b f.ws++(f.t,.v (.bool f.c))::g.ws⟩::fs) l ks ρ m:=by
 simp only[okF,dB,xI,rK]at h
 have aB:(f.t==g.t)=false:=by simpa using h.1.2
 have hu:=K5 (t:=f.t) (ws:=g.ws) (ρ:=iQ fs ρ) h.1.1
 have hp:put f.t AV.undef (eH (gu g.ws) (iQ fs ρ))=eH (gu g.ws) (iQ fs ρ):=QL hu
 unfold gQ
 congr 2
 simp only[iQ,js,atb,aq4,gu,eH,aa0,hp]
 cases h1:js fs with
 |false=>simp only[jM,iz]
 | true =>
  simp only[iu,gd]
  cases h2:g.c==g.b with
  |false=>
   simp only[iz]
   exact(BR (ws:=gu f.ws) (by rw[JF];exact hv)).symm
  | true =>
   simp only[gd,Qn]
   cases h3:f.c==f.b with
   |true=>
    simp only[gd]
    have e:f.c=f.b:=by simpa using h3
    rw[e,←BR (ws:=f.ws) hv,GN aB,BR (ws:=f.ws) hw]
   |false=>
    simp only[iz]
    have e:f.c=!f.b:=by cases hc:f.c<;>cases hb:f.b<;>simp_all
    rw[e,←BR (ws:=gu f.ws) (by rw[JF];exact hv),GN aB,BR (ws:=gu f.ws) (by rw[JF];exact hw)]
theorem Wb {f:GF} (l:List bz):gQ AP Fin [f] l ks ρ m=dv AP Fin l ks ⟨put f.t (.v (.bool f.c)) (eH (qb f.c f.b f.ws) ρ),m⟩:=by
 unfold gQ
 congr 2
 simp only[iQ,js,gd,Qn]
 cases hc:f.c<;>cases hb:f.b<;>rfl
theorem agF {f:GF} {fs:List GF} {c:Bool} {t:Nat} {b:Bool} (l:List bz) (ht:eV t f.ws=true) (aB:decide (t=f.t)=false) (hc:lookW t f.ws=.v (.bool c)):
  gQ AP Fin (f::fs) l ks ρ m=gQ AP Fin (⟨c,t,b,[]⟩::f::fs) l ks ρ m:=by
 have aB:t≠f.t:=by simpa using aB
 unfold gQ
 congr 2
 simp only[iQ.eq_2 ρ ⟨c,t,b,[]⟩,eH,gu]
 cases ha:js (f::fs)with
 |false=>rfl
 | true =>
  have hv:iQ (f::fs) ρ t=.v (.bool c):=by
   rw[HM ha]
   simp only[lK,put]
   rw[aq aB,Yz ht,hc]
  simp only[gd]
  cases hb:c==b with
  |true=>have e:c=b:=(by simpa using hb);subst e;exact(QL hv).symm
  |false=>have e:c=!b:=(by cases c<;>cases b<;>simp_all);subst e;exact(QL hv).symm
noncomputable def tt (AP:FuncId→Option aJ) (Fin:cV→St→Option (AV×ae)) (fs:List GF) (l:List bz) (ks:List K) (ρ:Nat→AV) (m:ae):Option (AV×ae):=
 match fs with
 |f::g::r=>gQ AP Fin (⟨g.c,g.t,g.b,qb f.c f.b f.ws++(f.t,.v (.bool f.c))::g.ws⟩::r) l ks ρ m
 |[f]=>dv AP Fin l ks ⟨put f.t (.v (.bool f.c)) (eH (qb f.c f.b f.ws) ρ),m⟩
 |[]=>dv AP Fin l ks ⟨ρ,m⟩
def ot:List GF→Bool
 |f::g::_=>!eV f.t f.ws&&!eV g.t f.ws
 |_=>true
theorem AY {fs:List GF} (l:List bz) (h:(okF fs&&ot fs)=true):gQ AP Fin fs l ks ρ m=tt AP Fin fs l ks ρ m:=by
 rw[dB]at h
 match fs with
 |[]=>rfl
 |[f]=>exact Wb l
 |f::g::r=>
  have hp:=h.2
  simp only[ot,dB,xI]at hp
  exact agE l h.1 hp.1 hp.2
theorem agz {c:Bool} {t:Nat} {b:Bool} {ws:List (Nat×AV)} {fs:List GF} {d t':Nat} {b':Bool} {op:bX} (h:(okF (⟨c,t,b,ws⟩::fs)&&ot (⟨c,t,b,ws⟩::fs))=true):
  gQ AP Fin (⟨c,t,b,ws⟩::fs) (⟨some d,some (t',b'),op⟩::rest) ks ρ m=
   if t'=t∧b'=b then qB AP Fin ⟨c,t,b,ws⟩ fs d rest ks ρ m (aN (aw AP) (aE (lK (⟨c,t,b,ws⟩::fs) ρ)) m op)
   else if t'≠t∧eV t' ws=true then lD (lookW t' ws) (fun c'=>gQ AP Fin (⟨c',t',b',[]⟩::⟨c,t,b,ws⟩::fs) (⟨some d,some (t',b'),op⟩::rest) ks ρ m) (tt AP Fin (⟨c,t,b,ws⟩::fs) (⟨some d,some (t',b'),op⟩::rest) ks ρ m)
   else tt AP Fin (⟨c,t,b,ws⟩::fs) (⟨some d,some (t',b'),op⟩::rest) ks ρ m:=by
 by_cases h1:t'=t∧b'=b
 ·rw[ak h1]
  obtain⟨rfl,rfl⟩:=h1
  exact Wd (f:=⟨c,t',b',ws⟩) (by rw[dB]at h;exact h.1)
 ·rw[aq h1]
  by_cases h2:t'≠t∧eV t' ws=true
  ·rw[ak h2]
   unfold lD
   split
   ·rename_i c' hc
    exact agF _ h2.2 (by simpa using h2.1) hc
   ·exact AY _ h
  ·rw[aq h2]
   exact AY _ h
theorem agA {c:Bool} {t:Nat} {b:Bool} {ws:List (Nat×AV)} {fs:List GF} {d t':Nat} {b':Bool} {op:bX} (h:(okF (⟨c,t,b,ws⟩::fs)&&ot (⟨c,t,b,ws⟩::fs))=true):
  gQ AP Fin (⟨c,t,b,ws⟩::fs) (⟨some d,some (t',b'),op⟩::rest) ks ρ m=
   if t'=t∧b'=b then qB AP Fin ⟨c,t,b,ws⟩ fs d rest ks ρ m (aN (aw AP) (aE (lK (⟨c,t,b,ws⟩::fs) ρ)) m op)
   else if t'=t then tt AP Fin (⟨c,t,b,ws⟩::fs) (⟨some d,some (t',b'),op⟩::rest) ks ρ m
   else cond (eV t' ws) (lD (lookW t' ws) (fun c'=>gQ AP Fin (⟨c',t',b',[]⟩::⟨c,t,b,ws⟩::fs) (⟨some d,some (t',b'),op⟩::rest) ks ρ m) (tt AP Fin (⟨c,t,b,ws⟩::fs) (⟨some d,some (t',b'),op⟩::rest) ks ρ m))
    (tt AP Fin (⟨c,t,b,ws⟩::fs) (⟨some d,some (t',b'),op⟩::rest) ks ρ m):=by
 rw[agz h]
 by_cases h1:t'=t∧b'=b
 ·rw[ak h1,ak h1]
 ·rw[aq h1,aq h1]
  by_cases h2:t'=t
  ·rw[ak h2,aq (fun e=>e.1 h2)]
  ·rw[aq h2]
   cases h3:eV t' ws
   ·simp[h2]
   ·simp[h2]
theorem agx {f:GF} {fs:List GF} {d:Nat} {r r':Option (AV×ae)} (h:(f.c==f.b)=false):qB AP Fin f fs d rest ks ρ m r=qB AP Fin f fs d rest ks ρ m r':=by
 unfold qB
 have:js (f::fs)=false:=by simp only[js,h,nJ]
 rw[this];rfl
theorem Wc {f:GF} {fs:List GF} {d t':Nat} {b':Bool} {op:bX} (h:(okF (f::fs)&&ot (f::fs))=true) (hd:decide (d=f.t)=false) (ho:(f.c==f.b)=false):
  gQ AP Fin (f::fs) (⟨some d,some (t',b'),op⟩::rest) ks ρ m=
   if t'=f.t∧b'=f.b then gQ AP Fin (⟨f.c,f.t,f.b,(d,AV.undef)::f.ws⟩::fs) rest ks ρ m else tt AP Fin (f::fs) (⟨some d,some (t',b'),op⟩::rest) ks ρ m:=by
 by_cases h1:t'=f.t∧b'=f.b
 ·rw[ak h1]
  obtain⟨rfl,rfl⟩:=h1
  rw[Wd (by rw[dB]at h;exact h.1),agx ho (r':=some (AV.undef,m)),Wa hd]
 ·rw[aq h1]
  exact AY _ h
theorem agD {t:Nat} {ws:List (Nat×AV)} {fs:List GF} {d t':Nat} {b':Bool} {op:bX} (h:(okF (⟨false,t,true,ws⟩::fs)&&ot (⟨false,t,true,ws⟩::fs))=true) (hd:decide (d=t)=false):
  gQ AP Fin (⟨false,t,true,ws⟩::fs) (⟨some d,some (t',b'),op⟩::rest) ks ρ m=
   if t'=t∧b'=true then gQ AP Fin (⟨false,t,true,(d,AV.undef)::ws⟩::fs) rest ks ρ m else tt AP Fin (⟨false,t,true,ws⟩::fs) (⟨some d,some (t',b'),op⟩::rest) ks ρ m:=Wc (f:=⟨false,t,true,ws⟩) h hd rfl
theorem agC {t:Nat} {ws:List (Nat×AV)} {fs:List GF} {d t':Nat} {b':Bool} {op:bX} (h:(okF (⟨true,t,false,ws⟩::fs)&&ot (⟨true,t,false,ws⟩::fs))=true) (hd:decide (d=t)=false):
  gQ AP Fin (⟨true,t,false,ws⟩::fs) (⟨some d,some (t',b'),op⟩::rest) ks ρ m=
   if t'=t∧b'=false then gQ AP Fin (⟨true,t,false,(d,AV.undef)::ws⟩::fs) rest ks ρ m else tt AP Fin (⟨true,t,false,ws⟩::fs) (⟨some d,some (t',b'),op⟩::rest) ks ρ m:=Wc (f:=⟨true,t,false,ws⟩) h hd rfl
theorem ah4 {t:Nat}:eV t []=false:=rfl
theorem ah3 {t d:Nat} {x:AV} {ws:List (Nat×AV)}:eV t ((d,x)::ws)=if t=d then true else eV t ws:=by
 rw[eV.eq_2];by_cases h:t=d<;>simp[h]
theorem aov {t d:Nat} {x:AV} {ws:List (Nat×AV)}:lookW t ((d,x)::ws)=if t=d then x else lookW t ws:=.trans rfl rfl
theorem apa {f:GF}:okF [f]=true:=rfl
theorem apb {c c':Bool} {t t':Nat} {b b':Bool} {ws vH:List (Nat×AV)} {fs:List GF}:okF (⟨c,t,b,ws⟩::⟨c',t',b',vH⟩::fs)=cond (eV t vH) (if t=t' then false else okF (⟨c',t',b',vH⟩::fs)) false:=by
 rw[okF.eq_3];simp only;cases eV t vH<;>by_cases h:t=t'<;>simp[h]
theorem apc {f:GF}:ot [f]=true:=rfl
theorem apd {c c':Bool} {t t':Nat} {b b':Bool} {ws vH:List (Nat×AV)} {fs:List GF}:ot (⟨c,t,b,ws⟩::⟨c',t',b',vH⟩::fs)=cond (eV t ws) false (cond (eV t' ws) false true):=by
 show(!eV t ws&&!eV t' ws)=_;cases eV t ws<;>cases eV t' ws<;>rfl
theorem abU:lK [] ρ=ρ:=rfl
theorem abT {c:Bool} {t:Nat} {b:Bool} {ws:List (Nat×AV)} {fs:List GF}:lK (⟨c,t,b,ws⟩::fs) ρ=put t (.v (.bool b)) (eH ws (lK fs ρ)):=rfl
theorem agB {c:Bool} {t:Nat} {b:Bool} {ws:List (Nat×AV)} {t':Nat} {b':Bool} {op:bX}:gQ AP Fin [⟨c,t,b,ws⟩] (⟨none,some (t',b'),op⟩::rest) ks ρ m=
  cond (c==b) (dv AP Fin (⟨none,some (t',b'),op⟩::rest) ks ⟨put t (.v (.bool b)) (eH ws ρ),m⟩) (dv AP Fin (⟨none,some (t',b'),op⟩::rest) ks ⟨put t (.v (.bool !b)) (eH (gu ws) ρ),m⟩):=by
 unfold gQ
 simp only[iQ,js,gd]
 cases c==b<;>rfl
theorem agy {c:Bool} {t:Nat} {b:Bool} {ws:List (Nat×AV)} {d:Nat} {x:AV} {m':ae}:qB AP Fin ⟨c,t,b,ws⟩ [] d rest ks ρ m (some (x,m'))=cond (c==b) (dv AP Fin rest ks ⟨put d x (put t (.v (.bool b)) (eH ws ρ)),m'⟩) (dv AP Fin rest ks ⟨put d AV.undef (put t (.v (.bool !b)) (eH (gu ws) ρ)),m⟩):=by
 unfold qB
 simp only[js,iu,iQ,lK,gd]
 cases c==b<;>rfl
theorem aeU {c:Bool} {d t:Nat} {b:Bool} {op:bX}:uI AP Fin c t b d op rest ks ρ m=gQ AP Fin [⟨c,t,b,[]⟩] (⟨some d,some (t,b),op⟩::rest) ks ρ m:=by
 unfold uI
 rw[Wb]
 simp only[qb,eH]
 rw[Wf]
 have e:put t (.v (.bool c)) ρ t=.v (.bool c):=by simp[put]
 rw[e,KG]
 unfold uI
 cases c<;>cases b<;>simp[aq1]
section
variable{c:Bool} {t:Nat} {b:Bool} {ws:List (Nat×AV)} {fs:List GF} {d t':Nat} {b':Bool} {op:bX}
noncomputable def nk (AP:FuncId→Option aJ) (Fin:cV→St→Option (AV×ae)) (c:Bool) (t:Nat) (b:Bool) (ws:List (Nat×AV)) (fs:List GF) (l:List bz) (ks:List K) (ρ:Nat→AV) (m:ae):Option (AV×ae):=gQ AP Fin (⟨c,t,b,ws⟩::fs) l ks ρ m
noncomputable def Fq (AP:FuncId→Option aJ) (Fin:cV→St→Option (AV×ae)) (c:Bool) (t:Nat) (b:Bool) (ws:List (Nat×AV)) (fs:List GF) (d:Nat) (l:List bz) (ks:List K) (ρ:Nat→AV) (m:ae) (r:Option (AV×ae)):Option (AV×ae):=qB AP Fin ⟨c,t,b,ws⟩ fs d l ks ρ m r
noncomputable def pO (AP:FuncId→Option aJ) (Fin:cV→St→Option (AV×ae)) (c:Bool) (t:Nat) (b:Bool) (ws:List (Nat×AV)) (fs:List GF) (l:List bz) (ks:List K) (ρ:Nat→AV) (m:ae):Option (AV×ae):=tt AP Fin (⟨c,t,b,ws⟩::fs) l ks ρ m
theorem agM {c':Bool} {l:List bz} (h:c=c'):nk AP Fin c t b ws fs l ks ρ m=nk AP Fin c' t b ws fs l ks ρ m:=by rw[h]
theorem agJ {r r':Option (AV×ae)} (h:r=r'):Fq AP Fin c t b ws fs d rest ks ρ m r=Fq AP Fin c t b ws fs d rest ks ρ m r':=by rw[h]
theorem agI {l:List bz}:pO AP Fin c t b ws fs l ks ρ m=pO AP Fin c t b ws fs l ks ρ m:=rfl
theorem aeV:uI AP Fin c t b d op rest ks ρ m=nk AP Fin c t b [] [] (⟨some d,some (t,b),op⟩::rest) ks ρ m:=aeU
noncomputable def GM (AP:FuncId→Option aJ) (Fin:cV→St→Option (AV×ae)) (x:AV) (t':Nat) (b':Bool) (c:Bool) (t:Nat) (b:Bool) (ws:List (Nat×AV)) (fs:List GF) (l:List bz) (ks:List K) (ρ:Nat→AV) (m:ae):Option (AV×ae):=
 lD x (fun c'=>nk AP Fin c' t' b' [] (⟨c,t,b,ws⟩::fs) l ks ρ m) (pO AP Fin c t b ws fs l ks ρ m)
theorem aqX {c':Bool} {l:List bz}:GM AP Fin (.v (.bool c')) t' b' c t b ws fs l ks ρ m=nk AP Fin c' t' b' [] (⟨c,t,b,ws⟩::fs) l ks ρ m:=rfl
theorem aqY {l:List bz}:GM AP Fin AV.undef t' b' c t b ws fs l ks ρ m=pO AP Fin c t b ws fs l ks ρ m:=rfl
theorem aqW {x x':AV} {l:List bz} (h:x=x'):GM AP Fin x t' b' c t b ws fs l ks ρ m=GM AP Fin x' t' b' c t b ws fs l ks ρ m:=by rw[h]
theorem agN (h:(okF (⟨c,t,b,ws⟩::fs)&&ot (⟨c,t,b,ws⟩::fs))=true):
  nk AP Fin c t b ws fs (⟨some d,some (t',b'),op⟩::rest) ks ρ m=
   if t'=t∧b'=b then Fq AP Fin c t b ws fs d rest ks ρ m (aN (aw AP) (aE (lK (⟨c,t,b,ws⟩::fs) ρ)) m op)
   else if t'=t then pO AP Fin c t b ws fs (⟨some d,some (t',b'),op⟩::rest) ks ρ m
   else if eV t' ws=true then GM AP Fin (lookW t' ws) t' b' c t b ws fs (⟨some d,some (t',b'),op⟩::rest) ks ρ m
   else pO AP Fin c t b ws fs (⟨some d,some (t',b'),op⟩::rest) ks ρ m:=by
 refine(agA h).trans ?_
 by_cases h1:t'=t∧b'=b
 ·rw[ak h1,ak h1];rfl
 ·rw[aq h1,aq h1]
  by_cases h2:t'=t
  ·rw[ak h2,ak h2];rfl
  ·rw[aq h2,aq h2]
   cases h3:eV t' ws
   ·rw[aq (by simp)];rfl
   ·rw[ak rfl];rfl
theorem agT (h:(okF (⟨false,t,true,ws⟩::fs)&&ot (⟨false,t,true,ws⟩::fs))=true) (hd:decide (d=t)=false):
  nk AP Fin false t true ws fs (⟨some d,some (t',b'),op⟩::rest) ks ρ m=
   if t'=t∧b'=true then nk AP Fin false t true ((d,AV.undef)::ws) fs rest ks ρ m else pO AP Fin false t true ws fs (⟨some d,some (t',b'),op⟩::rest) ks ρ m:=agD h hd
theorem agS (h:(okF (⟨true,t,false,ws⟩::fs)&&ot (⟨true,t,false,ws⟩::fs))=true) (hd:decide (d=t)=false):
  nk AP Fin true t false ws fs (⟨some d,some (t',b'),op⟩::rest) ks ρ m=
   if t'=t∧b'=false then nk AP Fin true t false ((d,AV.undef)::ws) fs rest ks ρ m else pO AP Fin true t false ws fs (⟨some d,some (t',b'),op⟩::rest) ks ρ m:=agC h hd
theorem agR {d:Option Nat} (h:(okF (⟨c,t,b,ws⟩::fs)&&ot (⟨c,t,b,ws⟩::fs))=true):nk AP Fin c t b ws fs (⟨d,none,op⟩::rest) ks ρ m=pO AP Fin c t b ws fs (⟨d,none,op⟩::rest) ks ρ m:=AY _ h
theorem agP {g:GF} (h:(okF (⟨c,t,b,ws⟩::g::fs)&&ot (⟨c,t,b,ws⟩::g::fs))=true):nk AP Fin c t b ws (g::fs) (⟨none,some (t',b'),op⟩::rest) ks ρ m=pO AP Fin c t b ws (g::fs) (⟨none,some (t',b'),op⟩::rest) ks ρ m:=AY _ h
theorem agQ:nk AP Fin c t b ws [] (⟨none,some (t',b'),op⟩::rest) ks ρ m=
  cond (c==b) (dv AP Fin (⟨none,some (t',b'),op⟩::rest) ks ⟨put t (.v (.bool b)) (eH ws ρ),m⟩) (dv AP Fin (⟨none,some (t',b'),op⟩::rest) ks ⟨put t (.v (.bool !b)) (eH (gu ws) ρ),m⟩):=agB
theorem agO (h:(okF (⟨c,t,b,ws⟩::fs)&&ot (⟨c,t,b,ws⟩::fs))=true):nk AP Fin c t b ws fs [] ks ρ m=pO AP Fin c t b ws fs [] ks ρ m:=AY _ h
theorem agG {l:List bz}:pO AP Fin c t b ws [] l ks ρ m=dv AP Fin l ks ⟨put t (.v (.bool c)) (eH (qb c b ws) ρ),m⟩:=rfl
theorem agH {c':Bool} {vH:List (Nat×AV)} {l:List bz}:pO AP Fin c t b ws (⟨c',t',b',vH⟩::fs) l ks ρ m=nk AP Fin c' t' b' (qb c b ws++(t,.v (.bool c))::vH) fs l ks ρ m:=rfl
theorem agL {x:AV} (h:(decide (d=t))=false):Fq AP Fin c t b ws fs d rest ks ρ m (some (x,m))=nk AP Fin c t b ((d,x)::ws) fs rest ks ρ m:=Wa h
theorem agK {x:AV} {m':ae}:Fq AP Fin c t b ws [] d rest ks ρ m (some (x,m'))=cond (c==b) (dv AP Fin rest ks ⟨put d x (put t (.v (.bool b)) (eH ws ρ)),m'⟩) (dv AP Fin rest ks ⟨put d AV.undef (put t (.v (.bool !b)) (eH (gu ws) ρ)),m⟩):=agy
end
theorem ag3 {t:Nat} {x:AV} {m':ae}:qC AP Fin (some t) rest ks ρ (some (x,m'))=dv AP Fin rest ks ⟨put t x ρ,m'⟩:=rfl
theorem ag1 {x:AV} {m':ae}:qC AP Fin none rest ks ρ (some (x,m'))=dv AP Fin rest ks ⟨ρ,m'⟩:=rfl
theorem ag2 {d:Option Nat}:qC AP Fin d rest ks ρ none=none:=rfl
theorem agZ {d:Option Nat} {c:Bool} {x y:Option (AV×ae)}:qC AP Fin d rest ks ρ (cond c x y)=cond c (qC AP Fin d rest ks ρ x) (qC AP Fin d rest ks ρ y):=by cases c<;>rfl
theorem ag0 {d:Option Nat} {r r':Option (AV×ae)} (h:r=r'):qC AP Fin d rest ks ρ r=qC AP Fin d rest ks ρ r':=by rw[h]
theorem agV:dv AP Fin rest ks st=dv AP Fin rest ks st:=rfl
theorem go_congr:go AP Fin ks st=go AP Fin ks st:=rfl
theorem aL {f:FuncId} {np nt:Nat} {b:au} {rs:List iq} {own:Bool} (hf:AP f=some (.code np nt b rs own)) {as:List AV} {s:ae} (hl:as.length=np):
  aw AP (.fn f) as s=go AP (aW rs own) [.c b] ⟨jz as,s.push ⟨[],[]⟩⟩:=by
 rw[adx hf,ak hl]
 simp only[go,iS]
 cases h:fB AP b ⟨jz as,s.push ⟨[],[]⟩⟩with
 |none=>rfl
 |some p=>obtain⟨e,aQ⟩:=p;cases e<;>rfl
end
section
variable{ρ:Nat→AV} {m:ae} {s:ae} {call:aZ}
theorem afg {t:Nat}:aE ρ (.tmp t)=ρ t:=.trans rfl rfl
theorem aff {x:AV}:aE ρ (.const x)=x:=.trans rfl rfl
theorem aq0 {t u:Nat} {x:AV}:put t x ρ u=if u=t then x else ρ u:=.trans rfl rfl
theorem acC {x:AV} {r:List AV}:jz (x::r) 0=x:=.trans rfl rfl
theorem acD {x:AV} {r:List AV} {n:Nat}:jz (x::r) (n+1)=jz r n:=.trans rfl rfl
theorem apY {x:aF}:aN call (aE ρ) m (.move x)=some (aE ρ x,m):=.trans rfl rfl
theorem ap0 {c a b:aF}:aN call (aE ρ) m (.pick c a b)=(GK (aE ρ c) (aE ρ a) (aE ρ b)).map (·,m):=.trans rfl rfl
theorem apl {z:AV} {zs:List AV}:aN call (aE ρ) m (.alloc (z::zs))=some (m.dz (z::zs)):=.trans rfl rfl
theorem ap2 {n:Nat}:aN call (aE ρ) m (.lH n)=some (AV.undef,m.lH n):=.trans rfl rfl
theorem KI {q:Nat} {g:Bool} {n:Nat} {x:aF}:aN call (aE ρ) m (.fT q g n x)=(xq m q g n (aE ρ x)).map (·,m):=.trans rfl rfl
theorem Qv {q n:Nat} {x y:aF}:aN call (aE ρ) m (.fill q n x y)=(yD m q n (aE ρ x) (aE ρ y)).map (AV.undef,·):=.trans rfl rfl
theorem Qy {b:Nat} {zs:List AV}:aN call (aE ρ) m (.slot b zs)=mh m b zs:=.trans rfl rfl
theorem aps {n:Nat} {x:aF}:aN call (aE ρ) m (.box n x)=yh m n (aE ρ x):=.trans rfl rfl
theorem apt {zs:List AV} {ps:List (Nat×Nat×aF)}:aN call (aE ρ) m (.build zs ps)=(ng zs (aE ρ) ps).map fun cs=>(.agg cs,m):=.trans rfl rfl
theorem apv {es:Nat} {rows:List (List AV)} {ps:List (Nat×aF)}:aN call (aE ρ) m (.buildSlice es rows ps)=(mq rows (aE ρ) ps).map fun rs=>(.slice .full es rs,m):=.trans rfl rfl
theorem Qw {g:Bool} {n:Nat} {x:aF}:aN call (aE ρ) m (.load g n x)=(m.load g n (aE ρ x)).map (·,m):=.trans rfl rfl
theorem ap7 {n:Nat} {x y:aF}:aN call (aE ρ) m (.store n x y)=(m.store n (aE ρ x) (aE ρ y)).map (AV.undef,·):=.trans rfl rfl
theorem apZ {x:aF}:aN call (aE ρ) m (.nilCheck x)=(zz (aE ρ x)).map (·,m):=.trans rfl rfl
theorem apr {op:BinOp} {x y:aF}:aN call (aE ρ) m (.arith op x y)=(dy op (aE ρ x) (aE ρ y)).map (·,m):=.trans rfl rfl
theorem apH {neg:Bool} {k:Hf} {x y:aF}:aN call (aE ρ) m (.eqv neg k x y)=(oL k (aE ρ x) (aE ρ y)).map fun t=>(.v (.bool (if neg then !t else t)),m):=.trans rfl rfl
theorem ap8 {op:UnOp} {x:aF}:aN call (aE ρ) m (.un op x)=(unOp op (aE ρ x)).map (·,m):=.trans rfl rfl
theorem apF {k:He} {x:aF}:aN call (aE ρ) m (.conv k x)=(mw k (aE ρ x)).map (·,m):=.trans rfl rfl
theorem apV {t:TypeId} {x:aF}:aN call (aE ρ) m (.Kx t x)=(Kj t (aE ρ x)).map (·,m):=.trans rfl rfl
theorem apU {f:FuncId} {first caps:List aF}:aN call (aE ρ) m (.oq f first caps)=if(first.map (aE ρ)).all AV.vm then some (.fn f (first.map (aE ρ)) (caps.map (aE ρ)),m)else none:=.trans rfl rfl
theorem apX {es:Nat} {zs:List AV} {len cap:aF}:aN call (aE ρ) m (.BK es zs len cap)=GD m es zs (aE ρ len) (aE ρ cap):=.trans rfl rfl
theorem apW {es:Nat} {zs:List AV} {len cap:aF}:aN call (aE ρ) m (.mkSlice es zs len cap)=BJ m es zs (aE ρ len) (aE ρ cap):=.trans rfl rfl
theorem ap4 {k:Cr} {x:aF} {lo hi mx:Option aF}:aN call (aE ρ) m (.slice k x lo hi mx)=(iI k (aE ρ x) (qu (aE ρ) lo) (qu (aE ρ) hi) (qu (aE ρ) mx)).map (·,m):=.trans rfl rfl
theorem apL {off:Nat} {x:aF}:aN call (aE ρ) m (.fieldAddr off x)=(BQ off (aE ρ x)).map (·,m):=.trans rfl rfl
theorem apO {arr:Option Nat} {es:Nat} {x i:aF}:aN call (aE ρ) m (.indexAddr arr es x i)=(kH arr es (aE ρ x) (aE ρ i)).map (·,m):=.trans rfl rfl
theorem apP {x i:aF}:aN call (aE ρ) m (.Gu x i)=(Bw (aE ρ x) (aE ρ i)).map (·,m):=.trans rfl rfl
theorem apN {n es:Nat} {g:Bool} {x i:aF}:aN call (aE ρ) m (.index n es g x i)=(Gt n es g (aE ρ x) (aE ρ i)).map (·,m):=.trans rfl rfl
theorem apK {g:Bool} {n off:Nat} {x:aF}:aN call (aE ρ) m (.field g n off x)=(Fl g n off (aE ρ x)).map (·,m):=.trans rfl rfl
theorem apI {i:Nat} {x:aF}:aN call (aE ρ) m (.extract i x)=(yB i (aE ρ x)).map (·,m):=.trans rfl rfl
theorem apw {ro:Bool} {f:FuncId} {as:List aF}:aN call (aE ρ) m (.call ro f as)=dF call ro m (.fn f) (as.map (aE ρ)):=.trans rfl rfl
theorem apJ {ro:Bool} {zs:List (List AV)} {f:FuncId} {as:List aF}:aN call (aE ρ) m (.rL ro zs f as)=ni call ro m zs (.fn f) (as.map (aE ρ)):=.trans rfl rfl
theorem apy {f:FuncId} {as:List aF}:aN call (aE ρ) m (.wy f as)=dF call false m (.inl f) (as.map (aE ρ)):=.trans rfl rfl
theorem apz {f:FuncId} {as:List aF}:aN call (aE ρ) m (.wz f as)=dF call true m (.nat f) (as.map (aE ρ)):=.trans rfl rfl
theorem apA {f:FuncId} {as:List aF}:aN call (aE ρ) m (.th f as)=nh call m f (as.map (aE ρ)):=.trans rfl rfl
theorem apC {ro:Bool} {x:aF} {as:List aF}:aN call (aE ρ) m (.j4 ro x as)=lM call ro m (aE ρ x) (as.map (aE ρ)):=.trans rfl rfl
theorem Qx {agg:Bool} {n:Nat} {x:aF}:aN call (aE ρ) m (.jI agg n x)=(zr m agg n (aE ρ x)).map (·,m):=.trans rfl rfl
theorem apn {es:Nat} {x y:aF}:aN call (aE ρ) m (.vZ es x y)=x6 m es (aE ρ x) (aE ρ y):=.trans rfl rfl
theorem apq {es:Nat} {x y:aF}:aN call (aE ρ) m (.v7 es x y)=v8 m es (aE ρ x) (aE ρ y):=.trans rfl rfl
theorem apG {x y:aF}:aN call (aE ρ) m (.copy x y)=AJ m (aE ρ x) (aE ρ y):=.trans rfl rfl
theorem apu {es:Nat} {row:List AV} {t:Nat}:aN call (aE ρ) m (.yi es row t)=yj m es row (ρ t):=.trans rfl rfl
theorem apm {es:Nat} {x y:aF}:aN call (aE ρ) m (.append es x y)=eE m es (aE ρ x) (aE ρ y):=.trans rfl rfl
theorem apQ {b:Bool} {x:aF}:aN call (aE ρ) m (.len b x)=(mO b (aE ρ x)).map (·,m):=.trans rfl rfl
theorem apR {n:Nat}:aN call (aE ρ) m (.BB n)=some (.v (.int .i64 n),m):=.trans rfl rfl
theorem apT {mx:Bool} {xs:List aF}:aN call (aE ρ) m (.GC mx xs)=(sF mx (xs.map (aE ρ))).map (·,m):=.trans rfl rfl
theorem aeM {t:Target} {as:List AV}:dF call false m t as=call t as m:=.trans rfl rfl
def cT (m:ae):ae:={m with ro:=m.ag.length,bo:=m.loops.length}
theorem vu:Ok (cT m):=⟨aH _,aH _⟩
theorem aeN {t:Target} {as:List AV}:dF call true m t as=(call t as (cT m)).map fun p=>(p.1,m):=.trans rfl rfl
theorem adT {f:FuncId} {a b as:List AV} {ro:Bool}:lM call ro m (.fn f a b) as=dF call ro m (.fn f) (a++as++b):=.trans rfl rfl
theorem adU {l:Nat} {as:List AV} {ro:Bool}:lM call ro m (.yield l) as=dF call ro m (.yield l) as:=.trans rfl rfl
theorem aqu {c:Bool} {a b:AV}:GK (.v (.bool c)) a b=some (cond c a b):=by cases c<;>rfl
theorem aoU {r:Rec} {cs:List AV}:(s.push r).dz cs=(.ptr s.ag.length r.boxes.length 0,s.push ⟨r.boxes++[cs],r.toks⟩):=by
 rw[ae.dz,fE,xw,Cx]
def kC:Nat→List AV→Bool
 |0,[]=>true
 |n+1,x::r=>x.bt&&kC n r
 |_,_=>false
theorem qz:∀{n:Nat} {l:List AV},kC n l=true↔l.length=n∧l.all AV.bt=true
 |0,[]=>by simp[kC]
 |0,_::_=>by simp[kC]
 |n+1,[]=>by simp[kC]
 |n+1,x::r=>by simp only[kC,dB,qz (n:=n) (l:=r),dP,vK];constructor<;>(rintro⟨h1,h2,h3⟩;exact⟨by omega,by simp_all⟩)
theorem ac8 {n:Nat} {y:AV}:yh m (n+1) y=cond (kC (n+1) y.cells) (some (m.dz y.cells)) none:=by
 unfold yh
 cases h:kC (n+1) y.cells with
 |true=>rw[ak ⟨(qz.1 h).1,(qz.1 h).2,Nat.succ_pos n⟩];rfl
 |false=>rw[aq (fun e=>by rw[qz.2 ⟨e.1,e.2.1⟩]at h;cases h)];rfl
theorem arC {r:Rec} {n:Nat}:(s.push r).lH n=s.push ⟨r.boxes++List.replicate n [],r.toks⟩:=by
 rw[ae.lH,fE,zA]
def KZ (bs:List (List AV)) (tk:List (Option Nat)) (back:Nat) (zs:List AV):Option (Nat×List (List AV)):=
 if tk.any Option.isNone then none else
 match bs[bs.length-back]? with
 |some []=>if zs.isEmpty then none else some (bs.length-back,bs.set (bs.length-back) zs)
 |_=>none
theorem ao2 (s:ae) (r:Rec):(s.push r).lC s.ag.length=r.toks.any Option.isNone:=by simp[ae.push,ae.lC]
theorem asI {r:Rec} {back:Nat} {zs:List AV}:mh (s.push r) back zs=(KZ r.boxes r.toks back zs).map fun p=>(.ptr s.ag.length p.1 0,s.push ⟨p.2,r.toks⟩):=by
 obtain⟨bs,tk⟩:=r
 unfold mh KZ
 simp only[fE,xw,iw,Ri,ao2]
 cases hq:tk.any Option.isNone with
 | false =>
  simp only[ej,zC,cE]
  split
  ·rename_i h;rw[h];simp only;split<;>rfl
  ·rename_i h
   split
   ·rename_i h';exact absurd h' (by simpa using h)
   ·rfl
 |true=>
  simp only[or_true,bB]
  split<;>rfl
theorem aor {g:Bool} {n d b off:Nat}:m.load g n (.ptr d b off)=(m.box d b).bind fun cs=>part g n cs off:=by
 simp only[ae.load,ae.row]
 cases m.box d b<;>rfl
theorem eP {d b:Nat} {cs:List AV} (h:m.box d b=some cs) (r:Rec):(m.push r).box d b=some cs:=by
 simp only[ae.box,ae.push]at h⊢
 rw[dC]
 ·exact h
 ·apply qi
  intro hn
  rw[nM (by omega)]at h
  cases h
theorem aos {g:Bool} {n off:Nat} {cs:List AV}:m.load g n (.bq cs off)=part g n cs off:=rfl
theorem aqk {n off:Nat} {cs:List AV}:part false n cs off=cs[off]? :=rfl
def qs:Nat→Nat→List AV→Option (List AV)
 |0,0,_=>some []
 |0,n+1,x::r=>(qs 0 n r).map (x::·)
 |off+1,n,_::r=>qs off n r
 |_,_,[]=>none
theorem Jb:∀(off n:Nat) (cs:List AV),qs off n cs=if off+n≤cs.length then some ((cs.drop off).take n)else none
 |0,0,_=>by simp[qs]
 |0,n+1,[]=>by simp[qs]
 |0,n+1,x::r=>by
  have:=Jb 0 n r
  simp only[qs,this,ku,dP,Sh,fC]
  by_cases h:n≤r.length
  ·rw[ak h,ak (by omega)];rfl
  ·rw[aq h,aq (by omega)];rfl
 |off+1,n,[]=>by simp[qs]
 |off+1,n,x::r=>by
  have:=Jb off n r
  simp only[qs,this,dP,RY]
  by_cases h:off+n≤r.length
  ·rw[ak h,ak (by omega)]
  ·rw[aq h,aq (by omega)]
theorem aqm {n off:Nat} {cs:List AV}:part true n cs off=(qs off n cs).map .agg:=by
 rw[Jb];unfold part;by_cases h:off+n≤cs.length<;>simp[h]
def l8:List AV→Nat→List AV→Option (List AV)
 |row,0,[]=>some row
 |_::row,0,c::cs=>(l8 row 0 cs).map (c::·)
 |x::row,off+1,cs=>(l8 row off cs).map (x::·)
 |[],_,_=>none
theorem Rj (x:AV):∀(cs:List AV) (row:List AV) (off:Nat),setCells (x::row) (off+1) cs=x::setCells row off cs
 |[],_,_=>rfl
 |c::cs,row,off=>by simp only[setCells,Se];exact Rj x cs _ _
theorem vw:∀(row:List AV) (off:Nat) (cs:List AV),l8 row off cs=if off+cs.length≤row.length then some (setCells row off cs)else none
 |row,0,[]=>by simp[l8,setCells]
 |[],0,c::cs=>by simp[l8]
 |x::row,0,c::cs=>by
  simp only[l8,vw row 0 cs,setCells,Hw,dP,fC]
  by_cases h:cs.length≤row.length
  ·rw[ak h,ak (by omega)];simp[Rj c cs row 0]
  ·rw[aq h,aq (by omega)];rfl
 |[],off+1,cs=>by simp[l8]
 |x::row,off+1,cs=>by
  simp only[l8,vw row off cs,dP,Rj]
  by_cases h:off+cs.length≤row.length
  ·rw[ak h,ak (by omega)];rfl
  ·rw[aq h,aq (by omega)];rfl
theorem ro_le {r:Rec} (h:Ok s):(s.push r).ro≤s.ag.length:=h.ro
theorem asT {r:Rec} {n b off:Nat} {y:AV} (h:Ok s):
  (s.push r).store n (.ptr s.ag.length b off) y=cond (kC n y.cells) (((r.boxes[b]?).bind fun row=>l8 row off y.cells).map fun row=>s.push ⟨r.boxes.set b row,r.toks⟩) none:=by
 cases hy:kC n y.cells with
 |false=>
  have:¬(y.cells.length=n∧y.cells.all AV.bt=true):=fun e=>by rw[qz.2 e]at hy;cases hy
  simp only[ae.store,iz]
  rw[aq (fun e=>this e.2)]
 | true =>
  have hy:=qz.1 hy
  simp only[ae.store,gd]
  rw[ak ⟨ro_le h,hy.1,hy.2⟩,fE,ak rfl]
  simp only[iw]
  cases r.boxes[b]? with
  |none=>rfl
  |some row=>
   simp only[eL,vw,hy.1]
   by_cases hq:off+n≤row.length
   ·simp only[ak hq,Ri,dK]
   ·simp only[aq hq,Option.map_none]
theorem af3 {cs:List AV} {off size:Nat} {x:AV}:AQ cs off size x=cond (kC size x.cells) (l8 cs off x.cells) none:=by
 unfold AQ
 cases h:kC size x.cells with
 |true=>
  have:=qz.1 h
  rw[gd,vw,this.1]
  by_cases hq:off+size≤cs.length
  ·rw[ak ⟨rfl,hq,this.2⟩,ak hq]
  ·rw[aq (fun e=>hq e.2.1),aq hq]
 |false=>rw[aq (fun e=>by rw[qz.2 ⟨e.1,e.2.2⟩]at h;cases h)];rfl
theorem adg {cs:List AV} {f:aF→AV}:ng cs f []=some cs:=rfl
theorem adf {cs:List AV} {f:aF→AV} {off size:Nat} {x:aF} {r:List (Nat×Nat×aF)}:ng cs f ((off,size,x)::r)=(cond (kC size (f x).cells) (l8 cs off (f x).cells) none).bind fun cs'=>ng cs' f r:=by
 rw[←af3];simp only[ng];cases AQ cs off size (f x)<;>rfl
theorem adj {rows:List (List AV)} {f:aF→AV}:mq rows f []=some rows:=rfl
def GR:List AV→List AV→Bool
 |[],[]=>true
 |_::a,_::b=>GR a b
 |_,_=>false
theorem aag:∀(a b:List AV),GR a b=decide (a.length=b.length)
 |[],[]=>rfl
 |[],_::_=>rfl
 |_::_,[]=>rfl
 |_::a,_::b=>by simp[GR,aag a b]
theorem adi {rows:List (List AV)} {f:aF→AV} {i:Nat} {x:aF} {r:List (Nat×aF)}:mq rows f ((i,x)::r)=(rows[i]?).bind fun row=>(closeAll (f x).cells).bind fun cs=>cond (GR cs row) (mq (rows.set i cs) f r) none:=by
 simp only[mq,aag]
 cases rows[i]? with
 |none=>rfl
 |some row=>cases closeAll (f x).cells with
  |none=>rfl
  |some cs=>by_cases h:cs.length=row.length<;>simp[h]
theorem oI:closeAll []=some []:=rfl
theorem mr {x:AV} {r:List AV}:closeAll (x::r)=x.close.bind fun y=>(closeAll r).map fun s=>y::s:=by
 simp only[closeAll];cases x.close<;>cases closeAll r<;>rfl
theorem pL {k:IntKind} {n:Int}:AV.close (.v (.int k n))=some (.v (.int k n)):=rfl
theorem aeh {b:Bool}:AV.close (.v (.bool b))=some (.v (.bool b)):=rfl
theorem Ny {b:ByteArray}:AV.close (.v (.string b))=some (.v (.string b)):=rfl
theorem aek {es:Nat} {xs:List (List AV)}:AV.close (.slice .aA es xs)=some (.slice .aA es xs):=rfl
theorem aeg {es:Nat} {xs:List (List AV)}:AV.close (.slice .any es xs)=some (.slice .any es xs):=rfl
theorem aej {es:Nat} {xs:List (List AV)}:AV.close (.slice .full es xs)=some (.slice .full es xs):=rfl
theorem aem {d g es:Nat} {xs:List (List AV)}:AV.close (.slice (.tok d g) es xs)=some (.slice .any es xs):=rfl
theorem aqV {off d b o:Nat}:BQ off (.ptr d b o)=some (.ptr d b (o+off)):=rfl
theorem aqU {off o:Nat} {cs:List AV}:BQ off (.bq cs o)=some (.bq cs (o+off)):=rfl
end
end Go.Ax.Sx
/-
  The rules to compute with, as one set.
-/
namespace Go.Ax.Sx
attribute [go_sem ↓] gd iz go_skip ahc go_ret ag9 ahe go_region ahg aha agY Wg Wf aeZ aeY aeX aeW agX agW ag6 ag7 ag5
attribute [go_sem] ahf ag8 ahb ag3 ag1 ag2 agZ KG
attribute [go_sem ↓ low] aeV
attribute [go_sem high] agT agS
attribute [go_sem] aqX aqY agN agR agP agQ agO agG agH agL eH gu qb ah4 ah3 aov apa apb apc apd abU abT
attribute [go_sem low] agK
attribute [congr] aqW agM agJ agI ape ag0 agV go_congr
attribute [go_sem ↓] afg aff aq0 acC acD
attribute [go_sem ↓] apY ap0 apl ap2 Qy KI Qx Qv aps apt apv Qw ap7 apZ apr apH ap8 apF apV apU apW apX ap4 apL apO apP apN apK apI apw apJ apy apz apA apC apm apq apn apG apu apQ apR apT
attribute [go_sem] aeN vu Ok.push aeM adT adU aqu aoU arC asI aor iw aos aqk aqm asT kC qs l8 aqV aqU ac8
section
variable{a b:Int} {c d:Bool}
theorem ach:dy .add (.v (.int .i64 a)) (.v (.int .i64 b))=some (.v (.int .i64 (IntKind.i64.wrap (a+b)))):=rfl
theorem acB:dy .sub (.v (.int .i64 a)) (.v (.int .i64 b))=some (.v (.int .i64 (IntKind.i64.wrap (a-b)))):=rfl
theorem acv:dy .mul (.v (.int .i64 a)) (.v (.int .i64 b))=some (.v (.int .i64 (IntKind.i64.wrap (a*b)))):=rfl
theorem SW (h:(b==0)=false):dy .quo (.v (.int .i64 a)) (.v (.int .i64 b))=some (.v (.int .i64 (IntKind.i64.wrap (a.tdiv b)))):=by
 have:b≠0:=by simpa using h
 simp[dy,p7,sB,this]
theorem SY (h:(b==0)=false):dy .rem (.v (.int .i64 a)) (.v (.int .i64 b))=some (.v (.int .i64 (a.tmod b))):=by
 have:b≠0:=by simpa using h
 simp[dy,p7,sB,this]
theorem aci:dy .eql (.v (.int .i64 a)) (.v (.int .i64 b))=some (.v (.bool (decide (a=b)))):=by
 simp only[dy,p7,sB];by_cases h:a=b<;>simp[h]
theorem acw:dy .neq (.v (.int .i64 a)) (.v (.int .i64 b))=some (.v (.bool (decide (a≠b)))):=by
 simp only[dy,p7,sB];by_cases h:a=b<;>simp[h]
theorem acs:dy .lss (.v (.int .i64 a)) (.v (.int .i64 b))=some (.v (.bool (decide (a<b)))):=rfl
theorem acq:dy .leq (.v (.int .i64 a)) (.v (.int .i64 b))=some (.v (.bool (decide (a≤b)))):=rfl
theorem aco:dy .gtr (.v (.int .i64 a)) (.v (.int .i64 b))=some (.v (.bool (decide (b<a)))):=rfl
theorem acm:dy .geq (.v (.int .i64 a)) (.v (.int .i64 b))=some (.v (.bool (decide (b≤a)))):=rfl
theorem ata:unOp .not (.v (.bool c))=some (.v (.bool !c)):=rfl
theorem as9:unOp .neg (.v (.int .i64 a))=some (.v (.int .i64 (IntKind.i64.wrap (-a)))):=by simp[unOp]
theorem aoL:sF true [.v (.int .i64 a),.v (.int .i64 b)]=some (.v (.int .i64 (max a b))):=by
 have:(if b>a then b else a)=max a b:=by split<;>omega
 simp only[sF,xt,BG,bB,this]
theorem aoN:sF false [.v (.int .i64 a),.v (.int .i64 b)]=some (.v (.int .i64 (min a b))):=by
 have:(if b<a then b else a)=min a b:=by split<;>omega
 simp[sF,xt,BG,this]
theorem aeG {k k':IntKind}:mw (.int k) (.v (.int k' a))=some (.v (.int k (k.wrap a))):=rfl
theorem acA:dy .shr (.v (.int .u64 a)) (.v (.int .u64 1))=some (.v (.int .u64 (a/2))):=by
 have:a.fdiv 2=a/2:=by rw[abt _ (by decide)]
 simp[dy,p7,tY,IntKind.bits,this]
theorem aoM {c':Int}:sF true [.v (.int .i64 a),.v (.int .i64 b),.v (.int .i64 c')]=some (.v (.int .i64 (max (max a b) c'))):=by
 have h1:(if b>a then b else a)=max a b:=by split<;>omega
 have h2:(if c'>max a b then c' else max a b)=max (max a b) c':=by split<;>omega
 simp only[sF,xt,BG,bB,h1,h2]
theorem afh {x:AV} {r:List AV}:yB 0 (.tuple (x::r))=some x:=rfl
theorem afi {x y:AV} {r:List AV}:yB 1 (.tuple (x::y::r))=some y:=rfl
theorem afj {x y z:AV} {r:List AV}:yB 2 (.tuple (x::y::z::r))=some z:=rfl
theorem aon {o:Own} {es:Nat} {xs:List (List AV)}:mO false (.slice o es xs)=some (.v (.int .i64 xs.length)):=rfl
theorem aoo {x:ByteArray}:mO true (.v (.string x))=some (.v (.int .i64 x.size)):=rfl
theorem af5 {rs:List iq} {own:Bool} {st:St}:aW rs own .normal st=finish rs own st:=rfl
theorem af6 {rs:List iq} {own:Bool} {st:St}:aW rs own .ret st=finish rs own st:=rfl
theorem aga {rs:List iq} {st:St}:finish rs false st=(sL st rs).map fun l=>(packed l,st.sig.pop):=rfl
theorem arG {st:St}:sL st []=some []:=rfl
theorem arF {st:St} {r:iq} {rest:List iq}:sL st (r::rest)=(((sK st r).bind (ef st.sig)).bind fun x=>(sL st rest).map fun s=>x::s):=by
 simp only[sL]
 cases(sK st r).bind (ef st.sig)<;>cases sL st rest<;>rfl
theorem arv {ρ:Nat→AV} {m:ae} {t:Nat}:sK ⟨ρ,m⟩ (.tmp t)=some (ρ t):=rfl
theorem aru {ρ:Nat→AV} {m:ae} {g:Bool} {n t:Nat}:sK ⟨ρ,m⟩ (.cell g n t)=m.load g n (ρ t):=rfl
theorem aqh:packed []=.tuple []:=rfl
theorem aqi {x:AV}:packed [x]=x:=rfl
theorem aqj {x y:AV} {r:List AV}:packed (x::y::r)=.tuple (x::y::r):=rfl
section
variable{m:ae} {x:Value} {cs:List AV}
theorem an5 {k:IntKind} {n:Int}:ef m (.v (.int k n))=some (.v (.int k n)):=rfl
theorem anZ {b:Bool}:ef m (.v (.bool b))=some (.v (.bool b)):=rfl
theorem aoa {b:ByteArray}:ef m (.v (.string b))=some (.v (.string b)):=rfl
theorem anX:ef m (.agg cs)=(pn m cs).map .agg:=rfl
theorem an6 {es:Nat} {xs:List (List AV)}:ef m (.slice .aA es xs)=some (.slice .aA es xs):=rfl
theorem anY {es:Nat} {xs:List (List AV)}:ef m (.slice .any es xs)=some (.slice .any es xs):=rfl
theorem an4 {es:Nat} {xs:List (List AV)}:ef m (.slice .full es xs)=some (.slice .full es xs):=rfl
theorem aob {d g es:Nat} {xs:List (List AV)}:ef m (.slice (.tok d g) es xs)=some (.slice .any es xs):=rfl
theorem aol:pn m []=some []:=rfl
theorem leaves_cons {x:AV} {r:List AV}:pn m (x::r)=(eA m x).bind fun y=>(pn m r).map fun s=>y::s:=by
 simp only[pn]
 cases eA m x<;>cases pn m r<;>rfl
theorem aof {k:IntKind} {n:Int}:eA m (.v (.int k n))=some (.v (.int k n)):=rfl
theorem aod {b:Bool}:eA m (.v (.bool b))=some (.v (.bool b)):=rfl
theorem aoj {b:ByteArray}:eA m (.v (.string b))=some (.v (.string b)):=rfl
theorem aog {es:Nat} {xs:List (List AV)}:eA m (.slice .aA es xs)=some (.slice .aA es xs):=rfl
theorem aoc {es:Nat} {xs:List (List AV)}:eA m (.slice .any es xs)=some (.slice .any es xs):=rfl
theorem aoe {es:Nat} {xs:List (List AV)}:eA m (.slice .full es xs)=some (.slice .full es xs):=rfl
theorem aok {d g es:Nat} {xs:List (List AV)}:eA m (.slice (.tok d g) es xs)=some (.slice .any es xs):=rfl
end
end
attribute [go_sem] aeG acA ach acB acv SW SY aci acw acs acq aco acm ata as9 aoL aoM aoN afh afi afj aon aoo
attribute [go_sem] af5 af6 aga arG arF arv aru aqh aqi aqj an5 anZ aoa anX an6 anY an4 aob aol leaves_cons aof aod aoj aog aoc aoe aok
attribute [go_sem] pop_push dK eL Option.map_none Option.bind_none iN nP kO kt AV.cells dP iL AV.bt vK Cg sQ iu Hn Lq ku RY Sh Lv Hw Se adg adf adj adi GR oI mr pL aeh Ny aek aeg aej aem
section
variable{o:Own} {es:Nat} {xs:List (List AV)} {k:Nat} {row:List AV}
theorem Gx (h:xs[k]? =some row):kH none es (.slice o es xs) (.v (.int .i64 (k:Int)))=some (.bq row 0):=by
 have hk:k<xs.length:=(bd.1 h).1
 have:(0:Int)≤(k:Int)∧(k:Int)<(xs.length:Int):=by omega
 simp only[kH,bB,idx,ak this,eL,Ce,h,dK]
theorem idx_eq {k:IntKind} {n:Int} {len:Nat}:idx (.v (.int k n)) len=if 0≤n∧n<len then some n.toNat else none:=rfl
theorem akA {n es:Nat} {g:Bool} {cs:List AV} {j:AV}:Gt n es g (.agg cs) j=(idx j n).bind fun k=>part g es cs (k*es):=rfl
theorem af0 {n off:Nat} {g:Bool} {cs:List AV}:Fl g n off (.agg cs)=part g n cs off:=rfl
theorem akn {n d b off es:Nat} {j:AV}:kH (some n) es (.ptr d b off) j=(idx j n).map fun k=>.ptr d b (off+k*es):=rfl
theorem akm {n off es:Nat} {cs:List AV} {j:AV}:kH (some n) es (.bq cs off) j=(idx j n).map fun k=>.bq cs (off+k*es):=rfl
theorem aty (x:Int):IntKind.i64.wrap x=if 9223372036854775808≤x%18446744073709551616 then x%18446744073709551616-18446744073709551616 else x%18446744073709551616:=by
 have e1:((2:Int)^(64:Nat))=18446744073709551616:=by decide
 have e2:((2:Int)^(64-1:Nat))=9223372036854775808:=by decide
 show(if(true&&decide (x%(2:Int)^(64:Nat)≥(2:Int)^(64-1:Nat)))=true then x%(2:Int)^(64:Nat)-(2:Int)^(64:Nat)else x%(2:Int)^(64:Nat))=_
 simp only[e1,e2,iu,dZ,ge_iff_le]
theorem bW {x:Int} (h1:-9223372036854775808≤x) (h2:x<9223372036854775808):IntKind.i64.wrap x=x:=by
 rw[aty];split<;>omega
theorem bK {k n:Nat} (h:k<n) (hn:(n:Int)<9223372036854775808):IntKind.i64.wrap ((k:Int)+1)=((k+1:Nat):Int):=by
 rw[bW]<;>omega
end
section
variable{c:Bool} {x y z:AV} {a b:Bool} {n k:Int}
theorem adY:cond c (cond c x y) z=cond c x z:=by cases c<;>rfl
theorem adZ:cond c x (cond c y z)=cond c x z:=by cases c<;>rfl
theorem adV:cond c (AV.v (.bool a)) (AV.v (.bool b))=.v (.bool (cond c a b)):=by cases c<;>rfl
theorem adX:cond c (AV.v (.int .i64 n)) (AV.v (.int .i64 k))=.v (.int .i64 (cond c n k)):=by cases c<;>rfl
theorem adW:cond c a false=(c&&a):=by cases c<;>simp
theorem ad0:cond c true a=(c||a):=by cases c<;>simp
end
attribute [go_sem] bW idx_eq akA af0 akn akm and_true K2 nb kM mY Ug Bool.cond_self oK qt adY adZ adV adX adW ad0
end Go.Ax.Sx
/-
  How plain data look to the executor; loops over slices.
-/
namespace Go.Ax.Sx
abbrev I (n:Int):AV:=.v (.int .i64 n)
abbrev B (b:Bool):AV:=.v (.bool b)
def PT (x:Int):Prop:=-9223372036854775808≤x∧x<9223372036854775808
def ints (l:List Int):List (List AV):=l.map fun n=>[I n]
theorem akG {l:List Int}:(ints l).length=l.length:=by simp[ints]
theorem akF {l:List Int} {k:Nat} {x:Int} (h:l[k]? =some x):(ints l)[k]? =some [I x]:=by simp[ints,h]
section
variable{AP:FuncId→Option aJ} {F:cV→St→Option (AV×ae)} {L:au} {ks:List K}
theorem ck (N:Nat) (P:Nat→(Nat→AV)→ae→Prop) (R:Nat→Option (AV×ae))
  (step:∀k ρ m,k<N→P k ρ m→(∀ρ' m',P (k+1) ρ' m'→go AP F (.c (.loop L)::ks) ⟨ρ',m'⟩=R (k+1))→go AP F (.c L::.lp L::ks) ⟨ρ,m⟩=R k)
  (last:∀ρ m,P N ρ m→go AP F (.c L::.lp L::ks) ⟨ρ,m⟩=R N):
  ∀k ρ m,k≤N→P k ρ m→go AP F (.c (.loop L)::ks) ⟨ρ,m⟩=R k:=by
 intro k ρ m hk hP
 induction h:N-k generalizing k ρ m with
 |zero=>
  have e:k=N:=by omega
  subst e
  rw[go_loop];exact last ρ m hP
 |succ n ih=>
  rw[go_loop]
  exact step k ρ m (by omega) hP (fun ρ' m' uT=>ih (k+1) ρ' m' (by omega) uT (by omega))
theorem Qd (hi:Int) (P:Int→(Nat→AV)→ae→Prop) (R:Int→Option (AV×ae))
  (step:∀i ρ m,i≤hi→P i ρ m→(∀ρ' m',P (i+1) ρ' m'→go AP F (.c (.loop L)::ks) ⟨ρ',m'⟩=R (i+1))→go AP F (.c L::.lp L::ks) ⟨ρ,m⟩=R i)
  (last:∀i ρ m,hi<i→P i ρ m→go AP F (.c L::.lp L::ks) ⟨ρ,m⟩=R i):
  ∀i ρ m,P i ρ m→go AP F (.c (.loop L)::ks) ⟨ρ,m⟩=R i:=by
 intro i ρ m hP
 induction h:(hi+1-i).toNat generalizing i ρ m with
 |zero=>rw[go_loop];exact last i ρ m (by omega) hP
 |succ n ih=>
  rw[go_loop]
  exact step i ρ m (by omega) hP (fun ρ' m' uT=>ih (i+1) ρ' m' uT (by omega))
theorem YB (N:Nat) (P:Nat→(Nat→AV)→ae→Prop) (R:Option (AV×ae)→Prop)
  (step:∀k ρ m,k<N→P k ρ m→(∀ρ' m',P (k+1) ρ' m'→R (go AP F (.c (.loop L)::ks) ⟨ρ',m'⟩))→R (go AP F (.c L::.lp L::ks) ⟨ρ,m⟩))
  (last:∀ρ m,P N ρ m→R (go AP F (.c L::.lp L::ks) ⟨ρ,m⟩)):
  ∀k ρ m,k≤N→P k ρ m→R (go AP F (.c (.loop L)::ks) ⟨ρ,m⟩):=by
 intro k ρ m hk hP
 induction h:N-k generalizing k ρ m with
 |zero=>
  have e:k=N:=by omega
  subst e
  rw[go_loop];exact last ρ m hP
 |succ n ih=>
  rw[go_loop]
  exact step k ρ m (by omega) hP (fun ρ' m' uT=>ih (k+1) ρ' m' (by omega) uT (by omega))
theorem aow (hi:Int) (P:Int→(Nat→AV)→ae→Prop) (R:Option (AV×ae)→Prop)
  (step:∀i ρ m,i≤hi→P i ρ m→(∀ρ' m',P (i+1) ρ' m'→R (go AP F (.c (.loop L)::ks) ⟨ρ',m'⟩))→R (go AP F (.c L::.lp L::ks) ⟨ρ,m⟩))
  (last:∀i ρ m,hi<i→P i ρ m→R (go AP F (.c L::.lp L::ks) ⟨ρ,m⟩)):
  ∀i ρ m,P i ρ m→R (go AP F (.c (.loop L)::ks) ⟨ρ,m⟩):=by
 intro i ρ m hP
 induction h:(hi+1-i).toNat generalizing i ρ m with
 |zero=>rw[go_loop];exact last i ρ m (by omega) hP
 |succ n ih=>
  rw[go_loop]
  exact step i ρ m (by omega) hP (fun ρ' m' uT=>ih (i+1) ρ' m' uT (by omega))
theorem eQ {α:Type} {l:List α} {k:Nat} {x:α} (h:l[k]? =some x):l.drop k=x::l.drop (k+1):=by
 have hk:=(bd.1 h).1
 rw[List.drop_eq_getElem_cons hk];congr 1
 exact(bd.1 h).2
theorem get_some {α:Type} {l:List α} {k:Nat} (h:k<l.length):∃x,l[k]? =some x:=⟨l[k],cM h⟩
theorem fU {α:Type} {l:List α} {k:Nat} {x:α} (h:l[k]? =some x):l.take (k+1)=l.take k++[x]:=by
 rw[List.take_add_one,h];rfl
theorem aS {k n:Nat} (h:k<n):decide ((k:Int)<(n:Int))=true:=by simp;omega
theorem bM (n:Nat):decide ((n:Int)<(n:Int))=false:=by simp
end
theorem dec_lt (a b:Int):decide (b<a)=!decide (a≤b):=by
 by_cases h:a≤b
 ·simp[h]
 ·simp[h];omega
section
variable{α:Type} {l r:List α} {x x1 x2 x3 y:α}
theorem at_len:(l++x::r)[l.length]? =some x:=by simp
theorem rE:(l++x1::x::r)[l.length+1]? =some x:=by simp
theorem acI:(l++x1::x2::x::r)[l.length+1+1]? =some x:=by
 rw[gE (by omega)];simp[show l.length+1+1-l.length=2 by omega]
theorem acJ:(l++x1::x2::x3::x::r)[l.length+1+1+1]? =some x:=by
 rw[gE (by omega)];simp[show l.length+1+1+1-l.length=3 by omega]
theorem mU:(l++x::r).set l.length y=l++y::r:=by simp
theorem rj:(l++x1::x::r).set (l.length+1) y=l++x1::y::r:=by
 rw[Hv _ _ (by omega)];simp
theorem asr:(l++x1::x2::x::r).set (l.length+1+1) y=l++x1::x2::y::r:=by
 rw[Hv _ _ (by omega)];simp[show l.length+1+1-l.length=2 by omega]
theorem ass:(l++x1::x2::x3::x::r).set (l.length+1+1+1) y=l++x1::x2::x3::y::r:=by
 rw[Hv _ _ (by omega)];simp[show l.length+1+1+1-l.length=3 by omega]
theorem qW:(l++[x]).length=l.length+1:=by simp
theorem BD:(l++[x,x1]).length=l.length+1+1:=by simp
theorem aom:(l++[x,x1,x2]).length=l.length+1+1+1:=by simp
end
attribute [go_sem] at_len rE acI acJ mU rj asr ass qW BD aom gX
def bG (es:Nat):List (List AV)→AV
 |[]=>.slice .aA 0 []
 |x::r=>.slice .any es (x::r)
def Acc (d es:Nat) (xs:List (List AV)) (x:AV) (og:Option Nat) (toks:List (Option Nat)):Prop:=
 match og with
 |none=>xs=[]∧x=.slice .aA 0 []
 |some g=>xs≠[]∧x=.slice (.tok d g) es xs∧toks[g]? =some (some xs.length)
theorem Acc.start {d es:Nat} {toks:List (Option Nat)}:Acc d es [] (.slice .aA 0 []) none toks:=⟨rfl,rfl⟩
theorem Acc.append {s:ae} {es:Nat} {xs:List (List AV)} {x:AV} {og:Option Nat} {toks:List (Option Nat)} (h:Acc s.ag.length es xs x og toks) (hs:Ok s) (o:Own) {ys:List (List AV)} (hy:ys≠[]) (hl:xs.length+ys.length≤4294967296):
  ∃x' gm toks',(∀boxes,eE (s.push ⟨boxes,toks⟩) es x (.slice o es ys)=some (x',s.push ⟨boxes,toks'⟩))∧Acc s.ag.length es (xs++ys) x' gm toks'∧gm≠none∧
   (∀oM pC x2 fl,Acc s.ag.length oM pC x2 fl toks→(fl≠og∨fl=none)→Acc s.ag.length oM pC x2 fl toks'∧fl≠gm):=by
 have sy:ys.isEmpty=false:=by cases ys<;>simp_all
 cases og with
 | none =>
  obtain⟨rfl,rfl⟩:=h
  refine⟨.slice (.tok s.ag.length toks.length) es ys,some toks.length,toks++[some ys.length],fun boxes=>?_,⟨by simpa using hy,rfl,by simp⟩,by simp,?_⟩
  ·have:ys.length≤4294967296:=by simpa using hl
   simp[eE,sy,Own.isNil,dN,this,qc,oF]
  ·intro oM pC x2 fl h2 _
   cases fl with
   |none=>exact⟨h2,by simp⟩
   |some g=>
    obtain⟨a,b,c⟩:=h2
    have:=(bd.1 c).1
    exact⟨⟨a,b,by rw[dC this];exact c⟩,by simp;omega⟩
 | some g =>
  obtain⟨hx,rfl,hg⟩:=h
  refine⟨.slice (.tok s.ag.length g) es (xs++ys),some g,toks.set g (some (xs.length+ys.length)),fun boxes=>?_,⟨by simp[hx],rfl,?_⟩,by simp,?_⟩
  ·simp[eE,sy,dN,hl,B6,hg,QW,hs.ro,KY]
  ·rw[ml (bd.1 hg).1];simp
  ·intro oM pC x2 fl h2 aB
   cases fl with
   |none=>exact⟨h2,by simp⟩
   |some g2=>
    obtain⟨a,b,c⟩:=h2
    have aB:g2≠g:=by rcases aB with h|h<;>simp_all
    exact⟨⟨a,b,by rw[eJ (fun e=>aB e.symm)];exact c⟩,by simpa using aB⟩
section
variable{d es:Nat} {xs:List (List AV)} {x:AV} {og:Option Nat} {toks:List (Option Nat)}
theorem Acc.leave (h:Acc d es xs x og toks) (m:ae):ef m x=some (bG es xs):=by
 cases og with
 |none=>obtain⟨rfl,rfl⟩:=h;rfl
 |some g=>
  obtain⟨hx,rfl,_⟩:=h
  cases xs with
  |nil=>exact absurd rfl hx
  |cons a r=>rfl
theorem Acc.BA (h:Acc d es xs x og toks) (m:ae):eA m x=some (bG es xs):=by
 cases og with
 |none=>obtain⟨rfl,rfl⟩:=h;rfl
 |some g=>
  obtain⟨hx,rfl,_⟩:=h
  cases xs with
  |nil=>exact absurd rfl hx
  |cons a r=>rfl
theorem Acc.close (h:Acc d es xs x og toks):x.close=some (bG es xs):=by
 cases og with
 |none=>obtain⟨rfl,rfl⟩:=h;rfl
 |some g=>
  obtain⟨hx,rfl,_⟩:=h
  cases xs with
  |nil=>exact absurd rfl hx
  |cons a r=>rfl
theorem Acc.len (h:Acc d es xs x og toks):mO false x=some (.v (.int .i64 xs.length)):=by
 cases og with
 |none=>obtain⟨rfl,rfl⟩:=h;rfl
 |some g=>obtain⟨hx,rfl,_⟩:=h;rfl
theorem Acc.bt (h:Acc d es xs x og toks):x.bt=true:=by
 cases og with
 |none=>obtain⟨rfl,rfl⟩:=h;rfl
 |some g=>obtain⟨hx,rfl,_⟩:=h;rfl
end
def wF:List (List AV)→Own
 |[]=>.full
 |_::_=>.any
def ud (d es:Nat) (xs:List (List AV)) (x:AV) (og:Option Nat) (toks:List (Option Nat)):Prop:=
 match og with
 |none=>xs=[]∧x=.slice .full es []
 |some g=>xs≠[]∧x=.slice (.tok d g) es xs∧toks[g]? =some (some xs.length)
theorem ud.start {d es:Nat} {toks:List (Option Nat)}:ud d es [] (.slice .full es []) none toks:=⟨rfl,rfl⟩
theorem ud.append {s:ae} {es:Nat} {xs:List (List AV)} {x:AV} {og:Option Nat} {toks:List (Option Nat)} (h:ud s.ag.length es xs x og toks) (hs:Ok s) (o:Own) {ys:List (List AV)} (hy:ys≠[]) (hl:xs.length+ys.length≤4294967296):
  ∃x' gm toks',(∀boxes,eE (s.push ⟨boxes,toks⟩) es x (.slice o es ys)=some (x',s.push ⟨boxes,toks'⟩))∧ud s.ag.length es (xs++ys) x' gm toks'∧gm≠none∧
   (∀oM pC x2 fl,ud s.ag.length oM pC x2 fl toks→(fl≠og∨fl=none)→ud s.ag.length oM pC x2 fl toks'∧fl≠gm):=by
 have sy:ys.isEmpty=false:=by cases ys<;>simp_all
 cases og with
 | none =>
  obtain⟨rfl,rfl⟩:=h
  refine⟨.slice (.tok s.ag.length toks.length) es ys,some toks.length,toks++[some ys.length],fun boxes=>?_,⟨by simpa using hy,rfl,by simp⟩,by simp,?_⟩
  ·have:ys.length≤4294967296:=by simpa using hl
   simp[eE,sy,Own.isNil,dN,this,qc,oF]
  ·intro oM pC x2 fl h2 _
   cases fl with
   |none=>exact⟨h2,by simp⟩
   |some g=>
    obtain⟨a,b,c⟩:=h2
    have:=(bd.1 c).1
    exact⟨⟨a,b,by rw[dC this];exact c⟩,by simp;omega⟩
 | some g =>
  obtain⟨hx,rfl,hg⟩:=h
  refine⟨.slice (.tok s.ag.length g) es (xs++ys),some g,toks.set g (some (xs.length+ys.length)),fun boxes=>?_,⟨by simp[hx],rfl,?_⟩,by simp,?_⟩
  ·simp[eE,sy,dN,hl,B6,hg,QW,hs.ro,KY]
  ·rw[ml (bd.1 hg).1];simp
  ·intro oM pC x2 fl h2 aB
   cases fl with
   |none=>exact⟨h2,by simp⟩
   |some g2=>
    obtain⟨a,b,c⟩:=h2
    have aB:g2≠g:=by rcases aB with h|h<;>simp_all
    exact⟨⟨a,b,by rw[eJ (fun e=>aB e.symm)];exact c⟩,by simpa using aB⟩
theorem ud.leave {d es:Nat} {xs:List (List AV)} {x:AV} {og:Option Nat} {toks:List (Option Nat)} (h:ud d es xs x og toks) (m:ae):ef m x=some (.slice (wF xs) es xs):=by
 cases og with
 |none=>obtain⟨rfl,rfl⟩:=h;rfl
 |some g=>
  obtain⟨hx,rfl,_⟩:=h
  cases xs with
  |nil=>exact absurd rfl hx
  |cons a r=>rfl
theorem aew {s:ae} {r:Rec} {es:Nat} {x:AV} {xs:List (List AV)} {o:Own} (hx:x=.slice o es xs) (hl:xs.length≤4294967296):
  ∃x' t',eE (s.push r) es (.slice .full es []) x=some (x',s.push ⟨r.boxes,t'⟩)∧∀m,ef m x'=some (.slice (wF xs) es xs):=by
 subst hx
 cases xs with
 |nil=>exact⟨.slice .full es [],r.toks,by simp[eE],fun m=>rfl⟩
 |cons a l=>
  refine⟨.slice (.tok s.ag.length r.toks.length) es (a::l),r.toks++[some (l.length+1)],?_,fun m=>rfl⟩
  have qI:l.length+1≤4294967296:=by simpa using hl
  simp[eE,Own.isNil,dN,qI,qc,oF]
theorem Kq {es k:Nat} {xs:List (List AV)} {row:List AV} (h:xs[k]? =some row):kH none es (bG es xs) (.v (.int .i64 (k:Int)))=some (.bq row 0):=by
 cases xs with
 |nil=>simp at h
 |cons a r=>exact Gx h
theorem Qa {es:Nat} {xs:List (List AV)}:mO false (bG es xs)=some (.v (.int .i64 xs.length)):=by cases xs<;>rfl
theorem Ys {es:Nat} {xs:List (List AV)} {m:ae}:ef m (bG es xs)=some (bG es xs):=by cases xs<;>rfl
theorem Yu {es:Nat} {xs:List (List AV)} {m:ae}:eA m (bG es xs)=some (bG es xs):=by cases xs<;>rfl
theorem aef {es:Nat} {xs:List (List AV)}:(bG es xs).close=some (bG es xs):=by cases xs<;>rfl
theorem X3 {es:Nat} {xs:List (List AV)}:(bG es xs).bt=true:=by cases xs<;>rfl
theorem IZ {es:Nat} {xs:List (List AV)}:(bG es xs).cells=[bG es xs]:=by cases xs<;>rfl
attribute [go_sem] Qa Ys Yu aef X3 IZ
def dk:List Int→Int
 |[]=>0
 |e::r=>if e=0 then dk r else e
end Go.Ax.Sx
/-
  Loops over functions: the rounds.
-/
namespace Go.Ax.Sx
section
variable{AP:FuncId→Option aJ} {Fin:cV→St→Option (AV×ae)} {ks:List K} {ρ:Nat→AV} {m S:ae} {l:Nat} {lp:dx}
noncomputable def AZ (AP:FuncId→Option aJ) (Fin:cV→St→Option (AV×ae)) (l:Nat) (ks:List K) (ρ:Nat→AV) (s:ae):Option (AV×ae):=
 (xo s l).bind fun p=>iS AP Fin ks (p.1.getD .normal) ⟨ρ,p.2⟩
theorem N4 {x:aF} {ps:List Nat} {a b:au} {g:FuncId} {first caps:List AV} (h:aE ρ x=.fn g first caps):
  go AP Fin (.c (.rangeFunc x ps a b)::ks) ⟨ρ,m⟩=(aw AP (.fn g) (first++.yield m.loops.length::caps) (enterLoop m ⟨true,none,ρ,ps,a,b⟩)).bind fun p=>AZ AP Fin m.loops.length ks ρ p.2:=by
 simp only[go,iS,arU,h,AZ]
 cases aw AP (.fn g) (first++.yield m.loops.length::caps) (enterLoop m ⟨true,none,ρ,ps,a,b⟩)with
 |none=>rfl
 |some p=>
  obtain⟨x,s⟩:=p
  simp only[eL]
  cases xo s m.loops.length with
  |none=>rfl
  |some q=>rfl
theorem Yt (h:m.loops.length=l) (hr:lp.ready=true∨lp.eG.isSome=true):xo (enterLoop m lp) l=some (lp.eG,m):=by
 subst h
 have:(lp.ready=true∨lp.eG.isSome=true):=hr
 simp[xo,enterLoop,this]
theorem N3 (h:m.loops.length=l) (hr:lp.ready=true) (hp:lp.eG=none):AZ AP Fin l ks ρ (enterLoop m lp)=go AP Fin ks ⟨ρ,m⟩:=by
 rw[AZ,Yt h (.inl hr),hp];rfl
theorem agU (h:m.loops.length=l) (hp:lp.eG=some .ret):AZ AP Fin l ks ρ (enterLoop m lp)=Fin .ret ⟨ρ,m⟩:=by
 rw[AZ,Yt h (.inr (by simp[hp])),hp]
 exact Ft (ks:=ks)
structure mm (l:Nat) (lp:dx) (S:ae):Prop where
 get:S.loops[l]? =some lp
 ready:lp.ready=true
 eG:lp.eG=none
 bo:S.bo≤l
def busy (l:Nat) (S:ae):ae:=eu S l fun p=>{p with ready:=false}
def over (l:Nat) (e:cV) (S:ae):ae:=eu S l fun p=>{p with ready:=false,eG:=some e}
theorem adn {d b:Nat}:(busy l S).box d b=S.box d b:=rfl
theorem Ok.busy (h:Ok S):Ok (busy l S):=⟨h.ro,by have:=h.bo;simp[Sx.busy,eu];exact this⟩
theorem Ok.over {e:cV} (h:Ok S):Ok (over l e S):=⟨h.ro,by have:=h.bo;simp[Sx.over,eu];exact this⟩
theorem Ok.enter (h:Ok S):Ok (enterLoop S lp):=⟨h.ro,by have:=h.bo;simp[enterLoop];omega⟩
theorem ae0 {d b:Nat}:(enterLoop S lp).box d b=S.box d b:=rfl
theorem Rk {r:Rec} {f:dx→dx}:eu (S.push r) l f=(eu S l f).push r:=rfl
theorem Vk {ρ:Nat→AV} {ps:List Nat} {a b:au} (h:Ok m):mm m.loops.length ⟨true,none,ρ,ps,a,b⟩ (enterLoop m ⟨true,none,ρ,ps,a,b⟩):=⟨by simp[enterLoop],rfl,rfl,h.bo⟩
theorem mm.push (h:mm l lp S) (r:Rec):mm l lp (S.push r):=⟨h.get,h.ready,h.eG,h.bo⟩
theorem adl (h:mm l lp S):eu (busy l S) l (fun p=>{p with ready:=true,eG:=none})=S:=by
 have e:(S.loops.modify l fun p=>{p with ready:=false}).modify l (fun p=>{p with ready:=true,eG:=none})=S.loops:=by
  apply pE
  intro i
  simp only[vN]
  by_cases hi:l=i
  ·subst hi
   have:=h.get
   rw[this]
   obtain⟨a,b,c,d,f,g⟩:=lp
   have h1:=h.ready
   have h2:=h.eG
   simp at h1 h2
   simp[h1,h2]
  ·simp[hi]
 simp only[busy,eu,e]
noncomputable def Jm (AP:FuncId→Option aJ) (l:Nat) (body:au) (e:cV) (st:St):Option (AV×ae):=
 match e with
 |.normal=>if BF st.sig l=true then go AP (qw l) [.c body] ⟨st.tmps,busy l st.sig⟩else none
 |_=>none
theorem ahd {body:au} {st:St}:go AP (qw l) [.c body] st=endRound l (fB AP body st):=by
 simp only[go,iS,qw]
 cases fB AP body st with
 |none=>rfl
 |some p=>rfl
theorem Nr {as:List AV} (h:mm l lp S) (hl:as.length=lp.params.length):
  aw AP (.yield l) as S=go AP (Jm AP l lp.body) [.c lp.assign] ⟨tX lp.tmps lp.params as,S.push ⟨[],[]⟩⟩:=by
 rw[adA,h.get]
 simp only
 rw[ak ⟨h.ready,h.bo,hl⟩]
 simp only[go,iS,Jm]
 cases fB AP lp.assign ⟨tX lp.tmps lp.params as,S.push ⟨[],[]⟩⟩with
 |none=>rfl
 | some p =>
  obtain⟨e,st⟩:=p
  cases e with
  |normal=>
   simp only[eL]
   have:=ahd (AP:=AP) (l:=l) (body:=lp.body) (st:=⟨st.tmps,busy l st.sig⟩)
   simp only[go,iS]at this
   rw[this];rfl
  |exit j=>rfl
  |ret=>rfl
theorem Jn {body:au} {r:Rec} (h:mm l lp S):Jm AP l body .normal ⟨ρ,S.push r⟩=go AP (qw l) [.c body] ⟨ρ,(busy l S).push r⟩:=by
 have:BF (S.push r) l=true:=by
  simp only[BF,ae.push,h.get,h.ready]
 simp only[Jm,this,bB];rfl
theorem NW {r:Rec} (h:mm l lp S):qw l .normal ⟨ρ,(busy l S).push r⟩=some (.v (.bool true),S):=by
 simp only[qw,endRound,Rk,adl h,pop_push]
theorem Zh {e:cV}:eu (busy l S) l (fun p=>{p with ready:=false,eG:=some e})=over l e S:=by
 have:(S.loops.modify l fun p=>{p with ready:=false}).modify l (fun p=>{p with ready:=false,eG:=some e})=S.loops.modify l fun p=>{p with ready:=false,eG:=some e}:=by
  apply pE
  intro i
  simp only[vN]
  by_cases hi:l=i
  ·cases S.loops[i]? <;>simp[hi]
  ·simp[hi]
 simp only[busy,over,eu,this]
theorem VQ {r:Rec}:qw l .ret ⟨ρ,(busy l S).push r⟩=some (.v (.bool false),over l .ret S):=by
 simp only[qw,endRound,Rk,Zh,pop_push]
theorem af7 {r:Rec} {j:Nat}:qw l (.exit j) ⟨ρ,(busy l S).push r⟩=some (.v (.bool false),over l (.exit j) S):=by
 simp only[qw,endRound,Rk,Zh,pop_push]
theorem GS {p:Nat} {x:AV}:tX ρ [p] [x]=put p x ρ:=rfl
theorem asp:tX ρ [] []=ρ:=rfl
end
section
variable{S s:ae} {r:Rec} {d b l:Nat} {lp:dx}
theorem aoA:s.ag.length<(s.push r).ag.length:=by simp[ae.push]
theorem aoz (h:d<S.ag.length):d<(S.push r).ag.length:=by simp[ae.push];omega
theorem aox (h:d<S.ag.length):d<(busy l S).ag.length:=h
theorem aoy (h:d<S.ag.length):d<(enterLoop S lp).ag.length:=h
theorem ada (h:d<S.ag.length):(S.push r).box d b=S.box d b:=by
 simp only[ae.box,ae.push]
 rw[dC h]
theorem ac9:((busy l S).push r).box S.ag.length b=r.boxes[b]? :=iw (busy l S) r b
theorem acH {α:Type} {l r:List α} {k:Nat}:(l++r)[l.length+k]? =r[k]? :=by
 rw[gE (by omega)];congr 1;omega
theorem asq {α:Type} {l r:List α} {k:Nat} {y:α}:(l++r).set (l.length+k) y=l++r.set k y:=by
 rw[Hv _ _ (by omega)];congr 2;omega
end
attribute [go_sem] asq
attribute [go_sem] aoA aoz aox aoy ada ac9 acH cj
attribute [go_sem] adn Ok.busy Ok.over Ok.enter ae0 VQ af7 GS asp
end Go.Ax.Sx
/-
  Slices that came in: their cells and who owns them.
-/
namespace Go.Ax.Sx
structure Sl (α:Type)where
 o:Own
 e:Nat
 l:List α
abbrev Sl.v {α:Type} (f:α→List AV) (x:Sl α):AV:=.slice x.o x.e (x.l.map f)
def Sl.ok {α:Type} (n:Nat) (x:Sl α):Prop:=(x.l=[]∨x.e=n)∧(x.o=.any∨x.o=.full∨(x.o=.aA∧x.l=[]))
section
variable{α:Type} {f:α→List AV} {x:Sl α} {n k:Nat} {a:α} {m:ae}
theorem cq {o:Own} {es:Nat} {l:List α} (hk:l[k]? =some a):kH none es (.slice o es (l.map f)) (.v (.int .i64 (k:Int)))=some (.bq (f a) 0):=Gx (by rw[jf,hk];rfl)
theorem Sl.ix (h:x.ok n) (hk:x.l[k]? =some a):kH none n (x.v f) (.v (.int .i64 (k:Int)))=some (.bq (f a) 0):=by
 have he:x.e=n:=by
  rcases h.1 with h|h
  ·rw[h]at hk;simp at hk
  ·exact h
 rw[Sl.v,he]
 exact Gx (by simp[hk])
theorem Sl.iH (h:x.ok n):(x.v f).iH=true:=by
 rcases h.2 with h|h|h<;>simp[Sl.v,AV.iH,h]
theorem Sl.close (h:x.ok n):(x.v f).close=some (x.v f):=by
 rcases h.2 with h|h|h<;>simp[Sl.v,AV.close,AV.isClosed,AV.iH,h]
theorem Sl.BA (h:x.ok n):eA m (x.v f)=some (x.v f):=by
 rcases h.2 with h|h|h<;>simp[Sl.v,eA,AV.close,AV.isClosed,AV.iH,h]
theorem Sl.leave (h:x.ok n):ef m (x.v f)=some (x.v f):=by
 rw[show ef m (x.v f)=eA m (x.v f)from rfl];exact Sl.BA h
end
attribute [go_sem] bY
section
variable{a b:Int} {x y:ByteArray} {k:Nat} {c:UInt8}
theorem acu:dy .lss (.v (.int .u8 a)) (.v (.int .u8 b))=some (.v (.bool (decide (a<b)))):=rfl
theorem acr:dy .leq (.v (.int .u8 a)) (.v (.int .u8 b))=some (.v (.bool (decide (a≤b)))):=rfl
theorem acp:dy .gtr (.v (.int .u8 a)) (.v (.int .u8 b))=some (.v (.bool (decide (b<a)))):=rfl
theorem acn:dy .geq (.v (.int .u8 a)) (.v (.int .u8 b))=some (.v (.bool (decide (b≤a)))):=rfl
theorem acj:dy .eql (.v (.int .u8 a)) (.v (.int .u8 b))=some (.v (.bool (decide (a=b)))):=by
 simp only[dy,p7,sB];by_cases h:a=b<;>simp[h]
theorem acx:dy .neq (.v (.int .u8 a)) (.v (.int .u8 b))=some (.v (.bool (decide (a≠b)))):=by
 simp only[dy,p7,sB];by_cases h:a=b<;>simp[h]
theorem ack:dy .eql (.v (.string x)) (.v (.string y))=some (.v (.bool (decide (x=y)))):=by
 have:sO .eql x y=some (.bool (decide (x=y))):=by
  simp only[sO]
  congr 2
  by_cases h:x=y
  ·simp[h]
  ·have:¬x.data=y.data:=fun e=>h (Lf e)
   simp[h,this]
 simp[dy,this]
theorem acy:dy .neq (.v (.string x)) (.v (.string y))=some (.v (.bool (decide (x≠y)))):=by
 have:sO .neq x y=some (.bool (decide (x≠y))):=by
  simp only[sO]
  congr 2
  by_cases h:x=y
  ·simp[h]
  ·have:¬x.data=y.data:=fun e=>h (Lf e)
   simp[h,this]
 simp[dy,this]
theorem aeF:mw .bytes (.v (.string x))=some (.slice .any 1 (byteCells x)):=rfl
theorem adq:(byteCells x).length=x.data.size:=by simp[byteCells]
theorem adp (h:x.data.toList[k]? =some c):(byteCells x)[k]? =some [.v (.int .u8 c.toNat)]:=by simp[byteCells]at h⊢;simp[h]
end
attribute [go_sem] acu acr acp acn acj acx ack acy aeF adq
theorem an7 {m:ae}:ef m (.v (.pointer none))=some (.v (.pointer none)):=rfl
theorem aoh {m:ae}:eA m (.v (.pointer none))=some (.v (.pointer none)):=rfl
theorem ael:(AV.v (.pointer none)).close=some (.v (.pointer none)):=rfl
theorem an1 {m:ae} {cs:List AV} {off:Nat}:ef m (.bq cs off)=some (.bq cs off):=rfl
theorem P8 {m:ae} {cs:List AV} {off:Nat}:eA m (.bq cs off)=some (.bq cs off):=rfl
theorem aei {cs:List AV} {off:Nat}:(AV.bq cs off).close=some (.bq cs off):=rfl
theorem an8 {s:ae} {r:Rec} {b off:Nat}:ef (s.push r) (.ptr s.ag.length b off)=(r.boxes[b]?).bind fun cs=>(closeAll cs).map fun cs'=>.bq cs' off:=by
 have:ef (s.push r) (.ptr s.ag.length b off)=eA (s.push r) (.ptr s.ag.length b off):=rfl
 rw[this,eA,ak (by rw[fE]),iw]
theorem aoi {s:ae} {r:Rec} {b off:Nat}:eA (s.push r) (.ptr s.ag.length b off)=(r.boxes[b]?).bind fun cs=>(closeAll cs).map fun cs'=>.bq cs' off:=by
 rw[eA,ak (by rw[fE]),iw]
attribute [go_sem] an7 aoh ael an1 P8 aei an8 aoi
theorem ao1 {d b off:Nat}:zz (.ptr d b off)=some (.ptr d b off):=rfl
theorem ao0 {cs:List AV} {off:Nat}:zz (.bq cs off)=some (.bq cs off):=rfl
attribute [go_sem] ao1 ao0
theorem afd {ρ:aF→AV}:qu ρ none=none:=.trans rfl rfl
theorem afe {ρ:aF→AV} {x:aF}:qu ρ (some x)=some (ρ x):=.trans rfl rfl
attribute [go_sem ↓] afd afe
theorem ae4 {a b:Bool}:oL .bool (.v (.bool a)) (.v (.bool b))=some (a==b):=rfl
attribute [go_sem] ae4
theorem arH {m:ae} {d b:Nat}:(cT m).box d b=m.box d b:=rfl
theorem Nn {s:ae} {b0:List AV} {r:List (List AV)} {t:List (Option Nat)}:(s.push ⟨b0::r,t⟩).box s.ag.length 0=some b0:=by rw[iw];rfl
theorem Ui {s:ae} {b0 b1:List AV} {r:List (List AV)} {t:List (Option Nat)}:(s.push ⟨b0::b1::r,t⟩).box s.ag.length 1=some b1:=by rw[iw];rfl
def fi (l:List Int):Sl Int:=⟨wF (ints l),1,l⟩
theorem Ff {l:List Int}:(fi l).ok 1:=by
 refine⟨.inr rfl,?_⟩
 cases l
 ·exact .inr (.inl rfl)
 ·exact .inl rfl
end Go.Ax.Sx
/-
  Functions that yield: what a round gets, and what stands behind all rounds.
-/
namespace Go.Ax.Sx
def up (S:ae) (B:List Rec) (ls:List dx):ae:={S with ag:=S.ag++B,loops:=S.loops++ls}
section
variable{S:ae} {B:List Rec} {ls:List dx} {r:Rec} {lp:dx} {d b:Nat}
theorem K6:(up S B ls).push r=up S (B++[r]) ls:=by simp[up,ae.push]
theorem QK:S.push r=up S [r] []:=by simp[up,ae.push]
theorem ate {B':List Rec} {Qe:List dx}:up (up S B ls) B' Qe=up S (B++B') (ls++Qe):=by simp[up]
theorem aa2:enterLoop (up S B ls) lp=up S B (ls++[lp]):=by simp[up,enterLoop]
theorem atc:(up S B ls).ag.length=S.ag.length+B.length:=by simp[up]
theorem atd:(up S B ls).loops.length=S.loops.length+ls.length:=by simp[up]
theorem Ok.up (h:Ok S):Ok (up S B ls):=⟨by have:=h.ro;simp[Sx.up];omega,by have:=h.bo;simp[Sx.up];omega⟩
theorem K7:(up S (r::B) ls).box S.ag.length b=r.boxes[b]? :=by
 simp[ae.box,up]
theorem aa3 {l:Nat} (h:mm l lp S):mm l lp (up S B ls):=
 ⟨by have:=(bd.1 h.get).1;simp only[up];rw[dC this];exact h.get,h.ready,h.eG,h.bo⟩
theorem Ky {α:Type} {l l':List α} {k:Nat} {f:α→α} (h:k<l.length):(l++l').modify k f=l.modify k f++l':=by
 apply pE
 intro i
 rw[vN]
 by_cases hi:i<l.length
 ·rw[dC hi,dC (by simpa using hi),vN]
 ·rw[gE (by omega),gE (by simp;omega),Ls]
  have:¬k=i:=by omega
  simp[this]
theorem aa1 {l:Nat} (h:l<S.loops.length):busy l (up S B ls)=up (busy l S) B ls:=by
 simp only[busy,eu,up,Ky h]
end
section
variable{α ι:Type} (I:List α→ι→Prop) (stop:List α→α→Bool) (O:List α→α→ι→Prop)
def Ends:List α→List α→Bool→ι→Prop
 |done,[],b,i=>b=true∧I done i
 |done,x::r,b,i=>if stop done x=true then b=false∧O done x i else Ends (done++[x]) r b i
variable{I stop O}
theorem Ends.all {done xs:List α} {i:ι} (h:Ends I stop O done xs true i):I (done++xs) i:=by
 induction xs generalizing done with
 |nil=>simpa using h.2
 |cons x r ih=>
  simp only[Ends]at h
  split at h
  ·exact absurd h.1 (by simp)
  ·have:=ih h;simpa using this
theorem Ends.HO {done xs ys:List α} {i i':ι} {b:Bool} (h:Ends I stop O done xs true i) (h':Ends I stop O (done++xs) ys b i'):Ends I stop O done (xs++ys) b i':=by
 induction xs generalizing done with
 |nil=>simpa using h'
 | cons x r ih =>
  simp only[Ends,kt]at h⊢
  split at h
  ·exact absurd h.1 (by simp)
  ·rename_i hs
   rw[aq hs]
   exact ih h (by simpa using h')
theorem Ends.SP {done xs:List α} (ys:List α) {i:ι} (h:Ends I stop O done xs false i):Ends I stop O done (xs++ys) false i:=by
 induction xs generalizing done with
 |nil=>exact absurd h.1 (by simp)
 |cons x r ih=>
  simp only[Ends,kt]at h⊢
  split at h
  ·rename_i hs;rw[ak hs];exact h
  ·rename_i hs;rw[aq hs];exact ih h
theorem Ends.never {done xs:List α} {i:ι} {b:Bool} (hs:∀d x,stop d x=false) (h:Ends I stop O done xs b i):b=true∧I (done++xs) i:=by
 have:b=true:=by
  induction xs generalizing done with
  |nil=>exact h.1
  |cons x r ih=>
   simp only[Ends,hs]at h
   exact ih (by simpa using h)
 subst this
 exact⟨rfl,h.all⟩
theorem Ends.first {done xs:List α} {i:ι} (h:Ends I stop O done xs false i):∃pre x post,xs=pre++x::post∧O (done++pre) x i∧stop (done++pre) x=true∧∀p y q,pre=p++y::q→stop (done++p) y=false:=by
 induction xs generalizing done with
 |nil=>exact absurd h.1 (by simp)
 | cons x r ih =>
  simp only[Ends]at h
  split at h
  ·rename_i hs
   exact⟨[],x,r,rfl,by simpa using h.2,by simpa using hs,fun p y q e=>by simp at e⟩
  ·rename_i hs
   obtain⟨pre,y,post,e1,e2,e3,e4⟩:=ih h
   refine⟨x::pre,y,post,by simp[e1],by simpa using e2,by simpa using e3,fun p z q e=>?_⟩
   cases p with
   |nil=>
    simp only[kO,vM]at e
    rw[←e.1];simpa using hs
   |cons a p=>
    simp only[kt,vM]at e
    have:=e4 p z q e.2
    rw[e.1]at this;simpa using this
end
theorem Ends.map {α β ι κ:Type} {I:List α→ι→Prop} {stop:List α→α→Bool} {O:List α→α→ι→Prop} {mk:β→α} {f:κ→ι} {d0:List α} {I2:List β→κ→Prop} {aaF:List β→β→Bool} {O2:List β→β→κ→Prop}
  (hI:∀dn j,I2 dn j→I (d0++dn.map mk) (f j)) (hs:∀dn g,aaF dn g=stop (d0++dn.map mk) (mk g)) (hO:∀dn g j,O2 dn g j→O (d0++dn.map mk) (mk g) (f j)) {xs:List β} {b:Bool} {j:κ}:
  ∀{dn:List β},Ends I2 aaF O2 dn xs b j→Ends I stop O (d0++dn.map mk) (xs.map mk) b (f j):=by
 induction xs with
 |nil=>intro dn h;exact⟨h.1,hI _ _ h.2⟩
 | cons x r ih =>
  intro dn h
  simp only[Ends,iN]at h⊢
  rw[hs]at h
  by_cases hc:stop (d0++dn.map mk) (mk x)=true
  ·rw[ak hc]at h⊢;exact⟨h.1,hO _ _ _ h.2⟩
  ·rw[aq hc]at h⊢
   have:=ih h
   simpa using this
section
variable{S:ae} {B:List Rec} {ls:List dx} {lp:dx} {l:Nat}
theorem ado (h:S.loops.length=l):busy l (up S B (lp::ls))=up S B ({lp with ready:=false}::ls):=by
 subst h
 have:∀(L:List dx) (f:dx→dx),(L++lp::ls).modify L.length f=L++f lp::ls:=by
  intro L f
  induction L with
  |nil=>rfl
  |cons a L ih=>simpa using ih
 simp only[busy,eu,up,this]
theorem aqa {e:cV} (h:S.loops.length=l):over l e (up S B (lp::ls))=up S B ({lp with ready:=false,eG:=some e}::ls):=by
 subst h
 have:∀(L:List dx) (f:dx→dx),(L++lp::ls).modify L.length f=L++f lp::ls:=by
  intro L f
  induction L with
  |nil=>rfl
  |cons a L ih=>simpa using ih
 simp only[over,eu,up,this]
theorem ZR (hs:Ok S) (h:S.loops.length=l) (hr:lp.ready=true) (hp:lp.eG=none):mm l lp (up S B (lp::ls)):=by
 subst h
 exact⟨by simp[up],hr,hp,hs.bo⟩
end
structure Hand {α ι:Type} (AP:FuncId→Option aJ) (L:Nat) (V:α→AV) (base:ι→ae) (I:List α→ι→Prop) (stop:List α→α→Bool) (O:List α→α→ι→Prop) (X:α→Prop) (N NL M:Nat):Prop where
 ok:∀i,Ok (base i)
 len:∀i,(base i).ag.length=N
 jH:∀i,(base i).loops.length=NL
 go:∀done x i B ls,done.length<M→I done i→X x→stop done x=false→∃i',aw AP (.yield L) [V x] (up (base i) B ls)=some (.v (.bool true),up (base i') B ls)∧I (done++[x]) i'
 st:∀done x i B ls,done.length<M→I done i→X x→stop done x=true→∃i',aw AP (.yield L) [V x] (up (base i) B ls)=some (.v (.bool false),up (base i') B ls)∧O done x i'
section
variable{α ι:Type} {AP:FuncId→Option aJ} {L:Nat} {V:α→AV} {base:ι→ae} {I:List α→ι→Prop} {stop:List α→α→Bool} {O:List α→α→ι→Prop} {X:α→Prop} {N NL M:Nat}
theorem Hand.one (h:Hand AP L V base I stop O X N NL M) {done:List α} {x:α} {i:ι} {B:List Rec} {ls:List dx} (hm:done.length<M) (hi:I done i) (hx:X x) (r:Rec):
  ∃b i',aw AP (.yield L) [V x] ((up (base i) B ls).push r)=some (.v (.bool b),(up (base i') B ls).push r)∧Ends I stop O done [x] b i':=by
 rw[K6]
 cases hs:stop done x with
 |false=>
  obtain⟨i',h1,h2⟩:=h.go done x i (B++[r]) ls hm hi hx hs
  exact⟨true,i',by rw[h1,K6],by simp[Ends,hs,h2]⟩
 |true=>
  obtain⟨i',h1,h2⟩:=h.st done x i (B++[r]) ls hm hi hx hs
  exact⟨false,i',by rw[h1,K6],by simp[Ends,hs,h2]⟩
end
structure gG (X:Rec→ae) (d:Nat):Prop where
 get:∀r,(X r).ag[d]? =some r
 on:∀r f,(X r).bp d f=X (f r)
 ro:∀r,(X r).ro≤d
theorem YK {s:ae} {l:Nat} {lp:dx} {B:List Rec} {ls:List dx} (hs:Ok s):gG (fun r=>up (busy l (enterLoop (s.push r) lp)) B ls) s.ag.length:=by
 refine⟨fun r=>?_,fun r f=>?_,fun r=>hs.ro⟩
 ·simp[up,busy,eu,enterLoop,ae.push]
 ·have:((s.ag++[r])++B).modify s.ag.length f=(s.ag++[f r])++B:=by
   rw[Ky (by simp)]
   congr 1
   exact(hY ae.ag (zA s r f):_)
  simp only[ae.bp,up,busy,eu,enterLoop,ae.push,this]
section
variable{X:Rec→ae} {d:Nat} {r r0:Rec}
theorem gG.lt (h:gG X d) (r:Rec):d<(X r).ag.length:=(bd.1 (h.get r)).1
theorem gG.GH (h:gG X d) (f:Rec→Rec):((X r).push r0).bp d f=(X (f r)).push r0:=by
 rw[←h.on r f]
 simp only[ae.bp,ae.push,Ky (h.lt r)]
theorem gG.box (h:gG X d) {b:Nat}:((X r).push r0).box d b=r.boxes[b]? :=by
 have:=h.lt r
 simp only[ae.box,ae.push]
 rw[dC this,h.get r];rfl
theorem gG.tok (h:gG X d) {g:Nat}:((X r).push r0).tok d g=(r.toks[g]?).join:=by
 have:=h.lt r
 simp only[ae.tok,ae.push]
 rw[dC this,h.get r];rfl
theorem gG.jJ (h:gG X d):((X r).push r0).jJ d=r.toks.length:=by
 have:=h.lt r
 simp only[ae.jJ,ae.push]
 rw[dC this,h.get r]
theorem gG.dA (h:gG X d) {b:Nat} {cs:List AV}:((X r).push r0).dA d b cs=(X ⟨r.boxes.set b cs,r.toks⟩).push r0:=h.GH _
theorem gG.mg (h:gG X d) {g:Nat} {n:Option Nat}:((X r).push r0).mg d g n=(X ⟨r.boxes,r.toks.set g n⟩).push r0:=h.GH _
theorem gG.kU (h:gG X d) {n:Nat}:((X r).push r0).kU d n=(X ⟨r.boxes,r.toks++[some n]⟩).push r0:=h.GH _
theorem Jp {m:ae} {d:Nat}:∀{cs:List AV},(cs.all AV.isClosed=true)→m.fitAll d cs=some (cs,m)
 |[],_=>rfl
 | x :: r, h => by
  simp only[vK,dB]at h
  have hx:m.fit d x=some (x,m):=by
   cases x with
   |slice o es xs=>
    cases o with
    |tok=>simp[AV.isClosed,AV.iH]at h
    |_=>simp[ae.fit,AV.close,AV.isClosed,AV.iH]
   |ptr=>simp[AV.isClosed,AV.iH]at h
   |aO=>simp[AV.isClosed,AV.iH]at h
   |_=>simp only[ae.fit,AV.close,h.1,bB,dK]
  simp only[ae.fitAll,hx,Jp h.2]
theorem gG.store (h:gG X d) {b off n:Nat} {y:AV} (hc:y.cells.all AV.isClosed=true) (hn:kC n y.cells=true) {row ZX:List AV} (hb:r.boxes[b]? =some row) (ho:l8 row off y.cells=some ZX):
  ((X r).push r0).store n (.ptr d b off) y=some ((X ⟨r.boxes.set b ZX,r.toks⟩).push r0):=by
 have aC:=h.lt r
 have gR:((X r).push r0).cur=(X r).ag.length:=fE _ _
 have bh:((X r).push r0).ro≤d:=h.ro r
 obtain⟨h1,h2⟩:=qz.1 hn
 have aB:¬d=(X r).ag.length:=by omega
 rw[vw]at ho
 by_cases hl:off+y.cells.length≤row.length
 ·rw[ak hl]at ho
  injection ho with ho
  subst ho
  have hle:off+n≤row.length:=by omega
  simp only[ae.store,bh,h1,h2,nb,bB,gR,aB,cE,Jp hc,h.box,hb,hle,h.dA]
 ·rw[aq hl]at ho;cases ho
theorem gG.append (h:gG X d) {es b:Nat} {xs:List (List AV)} {x:AV} {og:Option Nat} (ha:Acc d es xs x og r.toks) (o:Own) {ys:List (List AV)} (hy:ys≠[]) (hl:xs.length+ys.length≤4294967296) (hb:b<r.boxes.length) (cg:∃c,r.boxes[b]? =some [c]):
  ∃x1 m1 ZG x' gm tk',eE ((X r).push r0) es x (.slice o es ys)=some (x1,m1)∧m1.store 1 (.ptr d b 0) x1=some ((X ⟨r.boxes.set b [x'],tk'⟩).push ZG)∧ZG.boxes=r0.boxes∧Acc d es (xs++ys) x' gm tk'∧gm≠none∧
   (∀oM pC x2 fl,Acc d oM pC x2 fl r.toks→(fl≠og∨fl=none)→Acc d oM pC x2 fl tk'∧fl≠gm):=by
 have aC:=h.lt r
 have gR:∀q,((X r).push q).cur=(X r).ag.length:=fun q=>fE _ _
 have bh:∀q,((X r).push q).ro≤d:=fun q=>h.ro r
 have aB:¬d=(X r).ag.length:=by omega
 have O4:¬(X r).ag.length≤d:=by omega
 obtain⟨c,cg⟩:=cg
 have sy:ys.isEmpty=false:=by cases ys<;>simp_all
 cases og with
 | none =>
  obtain⟨rfl,rfl⟩:=ha
  have qI:ys.length≤4294967296:=by simpa using hl
  refine⟨.slice (.tok (X r).ag.length r0.toks.length) es ys,(X r).push ⟨r0.boxes,r0.toks++[some ys.length]⟩,⟨r0.boxes,(r0.toks++[some ys.length]).set r0.toks.length none⟩,.slice (.tok d r.toks.length) es ys,some r.toks.length,r.toks++[some ys.length],?_,?_,rfl,⟨by simpa using hy,rfl,by simp⟩,by simp,?_⟩
  ·simp[eE,sy,Own.isNil,dN,qI,gR,qc,oF]
  ·have br:(AV.slice (.tok (X r).ag.length r0.toks.length) es ys).cells=[.slice (.tok (X r).ag.length r0.toks.length) es ys]:=rfl
   have zk:((X r).push ⟨r0.boxes,r0.toks++[some ys.length]⟩).tok (X r).ag.length r0.toks.length=some ys.length:=by rw[B6];simp
   have lU:((X r).push ⟨r0.boxes,r0.toks++[some ys.length]⟩).fitAll d [.slice (.tok (X r).ag.length r0.toks.length) es ys]=some ([.slice (.tok d r.toks.length) es ys],(X ⟨r.boxes,r.toks++[some ys.length]⟩).push ⟨r0.boxes,(r0.toks++[some ys.length]).set r0.toks.length none⟩):=by
    simp only[ae.fitAll,ae.fit,O4,cE,gR,zk,nb,bB,h.jJ,KY,h.kU]
   simp only[ae.store,bh,br,dP,iL,vK,Cg,AV.bt,xH,nb,bB,gR,aB,cE,lU,h.box,cg,h.dA,fC,aH,setCells,Hw]
  ·intro oM pC x2 fl h2 _
   cases fl with
   |none=>exact⟨h2,by simp⟩
   |some g=>
    obtain⟨a,b,c⟩:=h2
    have:=(bd.1 c).1
    exact⟨⟨a,b,by rw[dC this];exact c⟩,by simp;omega⟩
 | some g =>
  obtain⟨hx,rfl,hg⟩:=ha
  refine⟨.slice (.tok d g) es (xs++ys),(X ⟨r.boxes,r.toks.set g (some (xs.length+ys.length))⟩).push r0,r0,.slice (.tok d g) es (xs++ys),some g,r.toks.set g (some (xs.length+ys.length)),?_,?_,rfl,⟨by simp[hx],rfl,?_⟩,by simp,?_⟩
  ·simp[eE,sy,dN,hl,h.tok,hg,bh,h.mg]
  ·have br:(AV.slice (.tok d g) es (xs++ys)).cells=[.slice (.tok d g) es (xs++ys)]:=rfl
   have ail:∀q tk,((X ⟨r.boxes,tk⟩).push q).cur=(X ⟨r.boxes,tk⟩).ag.length:=fun q tk=>fE _ _
   have ajO:∀q tk,((X ⟨r.boxes,tk⟩).push q).ro≤d:=fun q tk=>h.ro _
   have O3:∀tk,¬d=(X ⟨r.boxes,tk⟩).ag.length:=fun tk=>by have:=h.lt ⟨r.boxes,tk⟩;omega
   have lU:∀m:ae,m.fitAll d [.slice (.tok d g) es (xs++ys)]=some ([.slice (.tok d g) es (xs++ys)],m):=fun m=>by
    simp only[ae.fitAll,ae.fit,aH,bB]
   simp only[ae.store,ajO,br,dP,iL,vK,Cg,AV.bt,xH,nb,bB,ail,O3,cE,lU,h.box,cg,h.dA,fC,aH,setCells,Hw]
  ·rw[ml (bd.1 hg).1];simp
  ·intro oM pC x2 fl h2 aB
   cases fl with
   |none=>exact⟨h2,by simp⟩
   |some g2=>
    obtain⟨a,b,c⟩:=h2
    have aB:g2≠g:=by rcases aB with h|h<;>simp_all
    exact⟨⟨a,b,by rw[eJ (fun e=>aB e.symm)];exact c⟩,by simpa using aB⟩
end
end Go.Ax.Sx
/-
  Lists whose elements may be written to, each in a box of some activation; calls in the caller's own activation.
-/
namespace Go.Ax.Sx
section
variable{call:aZ} {ρ:Nat→AV} {m:ae}
theorem apo {es:Nat} {x y h:aF}:aN call (aE ρ) m (.rD es x y h)=ql m es (aE ρ x) (aE ρ y) (aE ρ h):=.trans rfl rfl
theorem ap3 {es:Nat} {x:aF}:aN call (aE ρ) m (.sM es x)=rh m es (aE ρ x):=.trans rfl rfl
theorem apD {zs:List AV} {x:aF}:aN call (aE ρ) m (.clear zs x)=wB m zs (aE ρ x):=.trans rfl rfl
theorem apx {f:FuncId} {as:List aF}:aN call (aE ρ) m (.tf f as)=lL call m f (as.map (aE ρ)):=.trans rfl rfl
theorem apB {f:FuncId} {as:List aF} {ws:List (Bool×Nat×Nat)}:aN call (aE ρ) m (.qq f as ws)=oG call m (.fn f) (as.map (aE ρ)) (ws.map fun q=>(q.1,q.2.1,ρ q.2.2)):=.trans rfl rfl
end
attribute [go_sem ↓] apo ap3 apD apx apB
theorem ady {AP:FuncId→Option aJ} {f:FuncId} {np nt:Nat} {b:au} {rs:List iq} {own:Bool} (hf:AP f=some (.code np nt b rs own)) {as:List AV} {m:ae} (hl:as.length=np) (hm:m.ro<m.ag.length):
  aw AP (.inl f) as m=go AP (fun e st=>match e with|.exit _=>none|_=>(tU st rs).map fun l=>(packed l,st.sig)) [.c b] ⟨jz as,m⟩:=by
 rw[adz hf,ak ⟨hl,hm⟩]
 simp only[go,iS]
 cases h:fB AP b ⟨jz as,m⟩with
 |none=>rfl
 |some p=>obtain⟨e,aQ⟩:=p;cases e<;>rfl
section
variable{s:ae} {bs:List (List AV)} {tk:List (Option Nat)} {cs:List AV} {b:Nat}
theorem ary:(s.push ⟨bs,tk⟩).sJ s.ag.length b cs=s.push ⟨bs.set b []++[cs],tk++[none]⟩:=by rw[ae.sJ,zA]
theorem QX {es:Nat} (h:kC es cs=true) (h0:0<es):rh (s.push ⟨bs,tk⟩) es (.agg cs)=some (.aO s.ag.length bs.length 0 es 1 1,s.push ⟨bs++[cs],tk⟩):=by
 obtain⟨h1,h2⟩:=qz.1 h
 simp only[rh,AV.cells,h1,h2,h0,nb,bB,fE,xw,ae.dz,Cx]
def GX (d es:Nat) (row:List AV) (n:Nat) (x:AV) (bs:List (List AV)):Prop:=
 (n=0∧row=[]∧x=.slice .aA 0 [])∨(0<n∧∃b,bs[b]? =some row∧x=.aO d b 0 es n 0)
def RR (d:Nat) (x:AV) (bs fZ:List (List AV)):Prop:=bs.length<fZ.length∧∀j,j<bs.length→(∀es n,x≠.aO d j 0 es n 0)→fZ[j]? =bs[j]?
theorem GX.len {d es n:Nat} {row:List AV} {x:AV} (h:GX d es row n x bs):mO false x=some (.v (.int .i64 (n:Int))):=by
 obtain⟨rfl,rfl,rfl⟩|⟨_,b,_,rfl⟩:=h<;>rfl
theorem GX.cell {d es n:Nat} {row:List AV} {x:AV} (h:GX d es row n x bs):x.bt=true:=by
 obtain⟨rfl,rfl,rfl⟩|⟨_,b,_,rfl⟩:=h<;>rfl
theorem GX.cells {d es n:Nat} {row:List AV} {x:AV} (h:GX d es row n x bs):x.cells=[x]:=by
 obtain⟨rfl,rfl,rfl⟩|⟨_,b,_,rfl⟩:=h<;>rfl
theorem uE {r:List (List AV)} {j:Nat} {c:List AV} (h:bs[j]? =some c):(bs++r)[j]? =some c:=by
 rw[dC (bd.1 h).1];exact h
theorem acf {es n b0 c p q:Nat} {row r2:List AV} {x:AV} (hs:Ok s) (h:GX s.ag.length es row n x bs) (hb:bs[b0]? =some r2) (h2:r2.length=es) (hl:row.length=n*es) (hm:n+1≤4294967296):
  ∃x' fZ tk',ql (s.push ⟨bs,tk⟩) es x (.aO s.ag.length b0 0 es 1 c) (.ptr s.ag.length p q)=some (x',s.push ⟨fZ,tk'⟩)∧GX s.ag.length es (row++r2) (n+1) x' fZ∧RR s.ag.length x bs fZ∧
   ∃b',fZ[b']? =some (row++r2)∧x'=.aO s.ag.length b' 0 es (n+1) 0∧bs.length≤b':=by
 have bh:(s.push ⟨bs,tk⟩).ro≤s.ag.length:=hs.ro
 have Gh:(s.push ⟨bs,tk⟩).zJ es (.aO s.ag.length b0 0 es 1 c)=some (r2,1):=by
  simp only[ae.zJ,fE,nb,bB,iw,hb,eL,fC,rA,h2,aH,ku]
  rw[Sg (by omega)]
 obtain⟨rfl,rfl,rfl⟩|⟨hn,b,gg,rfl⟩:=h
 ·refine⟨.aO s.ag.length bs.length 0 es 1 0,bs++[r2],tk,?_,.inr ⟨by omega,bs.length,?_,rfl⟩,⟨by simp,fun j hj _=>dC hj⟩,bs.length,?_,rfl,aH _⟩
  ·have y6:(1:Nat)≤dN:=by decide
   simp only[ql,Gh,eL,LB,cE,bh,fE,aH,true_or,nb,bB,Hq,Own.isNil,y6,xw,Cx]
  ·simp
  ·simp
 ·have y6:n+1≤dN:=hm
  refine⟨.aO s.ag.length bs.length 0 es (n+1) 0,bs.set b []++[row++r2],tk++[none],?_,.inr ⟨by omega,bs.length,?_,rfl⟩,⟨by simp,fun j hj aB=>?_⟩,bs.length,?_,rfl,aH _⟩
  ·simp only[ql,Gh,eL,LB,cE,bh,fE,aH,true_or,nb,bB,hn,y6,iw,gg,hl,xw,ary]
  ·rw[gE (by simp)];simp
  ·rw[dC (by simpa using hj),eJ (fun e=>aB es n (by rw[e]))]
  ·rw[gE (by simp)];simp
end
section
variable{X:Rec→ae} {d:Nat} {r r0:Rec}
theorem gG.rD (h:gG X d) {es n b0 c p q:Nat} {row r2:List AV} {x:AV} (hg:GX d es row n x r.boxes) (hb:r0.boxes[b0]? =some r2) (h2:r2.length=es) (aT:r2.all AV.iH=true) (hl:row.length=n*es) (hm:n+1≤4294967296):
  ∃x' fZ tk',ql ((X r).push r0) es x (.aO (X r).ag.length b0 0 es 1 c) (.ptr d p q)=some (x',(X ⟨fZ,tk'⟩).push r0)∧GX d es (row++r2) (n+1) x' fZ∧RR d x r.boxes fZ∧∃b',x'=.aO d b' 0 es (n+1) 0∧r.boxes.length≤b':=by
 have aC:=h.lt r
 have gR:((X r).push r0).cur=(X r).ag.length:=fE _ _
 have bh:((X r).push r0).ro≤d:=h.ro r
 have hle:d≤(X r).ag.length:=by omega
 have mK:((X r).push r0).bL d=r.boxes.length:=by
  simp only[ae.bL,ae.push]
  rw[dC aC,h.get r]
 have Gh:((X r).push r0).zJ es (.aO (X r).ag.length b0 0 es 1 c)=some (r2,1):=by
  simp only[ae.zJ,gR,nb,bB,iw,hb,eL,fC,rA,h2,aH,ku]
  rw[Sg (by omega)]
 obtain⟨rfl,rfl,rfl⟩|⟨hn,b,gg,rfl⟩:=hg
 ·have gK:((X r).push r0).jk d r2=(X ⟨r.boxes++[r2],r.toks⟩).push r0:=h.GH _
  refine⟨.aO d r.boxes.length 0 es 1 0,r.boxes++[r2],r.toks,?_,.inr ⟨by omega,r.boxes.length,by simp,rfl⟩,⟨by simp,fun j hj _=>dC hj⟩,_,rfl,aH _⟩
  have y6:(1:Nat)≤dN:=by decide
  simp only[ql,Gh,eL,LB,cE,bh,gR,hle,aT,or_true,nb,bB,Hq,Own.isNil,true_or,y6,mK,gK]
 ·have y6:n+1≤dN:=hm
  have di:((X r).push r0).box d b=some row:=by rw[h.box,gg]
  have hrg:((X r).push r0).sJ d b (row++r2)=(X ⟨r.boxes.set b []++[row++r2],r.toks++[none]⟩).push r0:=h.GH _
  refine⟨.aO d r.boxes.length 0 es (n+1) 0,r.boxes.set b []++[row++r2],r.toks++[none],?_,.inr ⟨by omega,r.boxes.length,?_,rfl⟩,⟨by simp,fun j hj aB=>?_⟩,_,rfl,aH _⟩
  ·simp only[ql,Gh,eL,LB,cE,bh,gR,hle,aT,or_true,nb,bB,hn,y6,di,hl,mK,hrg]
  ·rw[gE (by simp)];simp
  ·rw[dC (by simpa using hj),eJ (fun e=>aB es n (by rw[e]))]
theorem gG.asS (h:gG X d) {b:Nat} {y:AV} {es n:Nat} (hy:∃b',y=.aO d b' 0 es n 0) {c:AV} (hb:r.boxes[b]? =some [c]):
  ((X r).push r0).store 1 (.ptr d b 0) y=some ((X ⟨r.boxes.set b [y],r.toks⟩).push r0):=by
 obtain⟨b',rfl⟩:=hy
 have aC:=h.lt r
 have gR:((X r).push r0).cur=(X r).ag.length:=fE _ _
 have bh:((X r).push r0).ro≤d:=h.ro r
 have aB:¬d=(X r).ag.length:=by omega
 simp only[ae.store,bh,AV.cells,dP,iL,fC,vK,Cg,AV.bt,xH,nb,bB,gR,aB,cE,ae.fitAll,ae.fit,aH,h.box,hb,h.dA,setCells,Hw]
end
section
variable{AP:FuncId→Option aJ} {s:ae} {bs:List (List AV)} {tk:List (Option Nat)} {f:FuncId} {args:List AV}
theorem aqb {Q:ae} {bx:List (List AV)} {tk:List (Option Nat)} {r:Rec} {b es n:Nat} {cs:List AV} (hQ:Ok Q) (hb:r.boxes[b]? =some cs) (hn:0<n) (hl:cs.length=n*es) (aB:cs≠[]) (hc:closeAll cs=some cs):
  kh ((Q.push ⟨bx,tk⟩).push r) (.aO (Q.push ⟨bx,tk⟩).ag.length b 0 es n 0)=some (.aO Q.ag.length bx.length 0 es n 0,Q.push ⟨bx++[cs],tk⟩):=by
 have hd:(Q.push ⟨bx,tk⟩).ag.length=Q.ag.length+1:=by simp[ae.push]
 have bh:((Q.push ⟨bx,tk⟩).push r).ro<(Q.push ⟨bx,tk⟩).ag.length:=by
  have:=hQ.ro;rw[hd];show Q.ro<_;omega
 have he:cs.isEmpty=false:=by cases cs<;>simp_all
 have h1:1≤(Q.push ⟨bx,tk⟩).ag.length:=by omega
 simp only[kh,fE,K2]
 rw[ak (by first|exact⟨h1,bh,hn⟩|exact⟨h1,bh,trivial,trivial,hn⟩),iw,hb,eL,ak ⟨he,hl⟩,hc]
 simp only[dK,pop_push,hd,HA]
 have e1:((Q.push ⟨bx,tk⟩).push r).bL Q.ag.length=bx.length:=by
  have:((Q.push ⟨bx,tk⟩).push r).ag[Q.ag.length]? =some ⟨bx,tk⟩:=by
   show((Q.ag++[_])++[_])[_]? =_
   rw[dC (by simp)];simp
  simp only[ae.bL,this]
 rw[e1,Cx]
theorem adJ {es n:Nat} {cs:List AV} (hm:(s.push ⟨bs,tk⟩).ro<(s.push ⟨bs,tk⟩).ag.length)
  (h:aw AP (.fn f) args ((cT (s.push ⟨bs,tk⟩)).push ⟨[],[]⟩)=some (.aO (s.push ⟨bs,tk⟩).ag.length 0 0 es n 0,(cT (s.push ⟨bs,tk⟩)).push ⟨[cs],[]⟩)) (hn:0<n) (hl:cs.length=n*es) (aB:cs≠[]) (hc:closeAll cs=some cs):
  lL (aw AP) (s.push ⟨bs,tk⟩) f args=some (.aO s.ag.length bs.length 0 es n 0,s.push ⟨bs++[cs],tk⟩):=by
 have he:cs.isEmpty=false:=by cases cs<;>simp_all
 have h:aw AP (.fn f) args {(s.push ⟨bs,tk⟩).push ⟨[],[]⟩with ro:=(s.push ⟨bs,tk⟩).ag.length,bo:=(s.push ⟨bs,tk⟩).loops.length}=some (.aO (s.push ⟨bs,tk⟩).ag.length 0 0 es n 0,(cT (s.push ⟨bs,tk⟩)).push ⟨[cs],[]⟩):=h
 have hb:((cT (s.push ⟨bs,tk⟩)).push ⟨[cs],[]⟩).box (s.push ⟨bs,tk⟩).ag.length 0=some cs:=iw (cT (s.push ⟨bs,tk⟩)) ⟨[cs],[]⟩ 0
 unfold lL
 rw[h]
 simp only
 rw[ak ⟨trivial,by omega,hm,trivial,trivial,hn⟩,hb,eL,ak ⟨he,hl⟩,hc]
 simp only[dK,fE,xw,ae.dz,Cx]
theorem adI (h:aw AP (.fn f) args ((cT s).push ⟨[],[]⟩)=some (.slice .aA 0 [],(cT s).push ⟨[],[]⟩)):lL (aw AP) s f args=some (.slice .aA 0 [],s):=by
 have h:aw AP (.fn f) args {s.push ⟨[],[]⟩with ro:=s.ag.length,bo:=s.loops.length}=some (.slice .aA 0 [],(cT s).push ⟨[],[]⟩):=h
 unfold lL
 rw[h]
 rfl
theorem Uy {m m':ae} {t:Target} {v:AV} {ws:List (Bool×Nat×AV)} (h:aw AP t args m=some (v,m')) (hw:∀q∈ws,m'.load q.1 q.2.1 q.2.2=m.load q.1 q.2.1 q.2.2):oG (aw AP) m t args ws=some (v,m'):=E4.2 ⟨h,hw⟩
end
theorem E8 {es:Nat}:∀{xs:List (List AV)},(∀r∈xs,r.length=es)→chunks es xs.length xs.flatten=xs
 |[],_=>rfl
 |r::t,h=>by
  have hr:=h r (by simp)
  simp only[dP,chunks,sV]
  rw[Sf (by omega),Sg (by omega),RW (by omega),zN (by omega),kO]
  rw[E8 fun q hq=>h q (jg _ hq)]
theorem Vc {m:ae}:∀{cs c:List AV},closeAll cs=some c→jO m cs=some c
 |[],c,h=>h
 | x :: r, c, h => by
  simp only[closeAll]at h
  split at h
  ·rename_i y t e1 e2
   have hx:nV m x=some y:=by
    cases x<;>first|exact e1|(simp[AV.close,AV.isClosed,AV.iH]at e1;done)
   simp only[jO,hx,Vc e2]
   exact h
  ·cases h
theorem Zf {m:ae} {cs:List AV}:(closeAll cs).or (jO m cs)=jO m cs:=by
 cases h:closeAll cs with
 |none=>rfl
 |some c=>rw[Vc h];rfl
theorem NI {m:ae}:∀{a b x y:List AV},jO m a=some x→jO m b=some y→jO m (a++b)=some (x++y)
 |[],b,x,y,h1,h2=>by
  simp only[jO]at h1
  injection h1 with h1
  subst h1
  exact h2
 | c :: a, b, x, y, h1, h2 => by
  simp only[jO]at h1
  split at h1
  ·rename_i z t e1 e2
   injection h1 with h1
   subst h1
   simp only[kt,jO,e1,NI e2 h2]
  ·cases h1
end Go.Ax.Sx
