/-
  The executor without its bound: what it gives with some bound. Equations to compute with.
-/
import Derived.Test.YtjgbdhjcpcmajaaGreatDoorT1
import Derived.Test.YtjgbdhjcpcmajaaGreatDoorT4
import Derived.Deep.Slices
import Derived.OpenShut
import Derived.SizedLaws
import Derived.Attr
set_option linter.unusedSimpArgs false
set_option linter.unusedVariables false
set_option maxRecDepth 100000
namespace Go.Ax
def ko (c c':aZ):Prop:=∀t a s r,c t a s=some r→c' t a s=some r
theorem ko.refl (c:aZ):ko c c:=fun _ _ _ _ h=>h
theorem ko.trans {a b c:aZ} (h:ko a b) (k:ko b c):ko a c:=fun t x s r e=>k t x s r (h t x s r e)
theorem wG {c c':aZ} (h:ko c c') {ro:Bool} {m:ae} {t:Target} {as:List AV} {r:AV×ae} (e:dF c ro m t as=some r):dF c' ro m t as=some r:=by
 unfold dF at e⊢
 split
 ·rw[ak (by assumption)]at e
  obtain⟨p,hp,rfl⟩:=aU.1 e
  rw[h _ _ _ _ hp]
  rfl
 ·rw[aq (by assumption)]at e
  exact h _ _ _ _ e
theorem adW {c c':aZ} (h:ko c c') {m:ae} {f:FuncId} {as:List AV} {r:AV×ae} (e:ng c m f as=some r):ng c' m f as=some r:=by
 unfold ng at e⊢
 cases hc:c (.fn f) as {m.push ⟨[],[]⟩with ro:=m.ag.length,bo:=m.loops.length}with
 |none=>rw[hc]at e;cases e
 |some p=>rw[hc]at e;rw[h _ _ _ _ hc];exact e
theorem ad0 {c c':aZ} (h:ko c c') {ro:Bool} {m:ae} {x:AV} {as:List AV} {r:AV×ae} (e:lL c ro m x as=some r):lL c' ro m x as=some r:=by
 cases x<;>first
  |exact wG h e
  |(simp[lL]at e)
theorem Jp {c:aZ} {ro:Bool} {m:ae} {zs:List (List AV)} {t:Target} {as:List AV} {r:AV×ae}:nh c ro m zs t as=some r↔
  dF c ro m t as=some r∧m.tail zs.length∈qu zs∧(∀bx,bx∈qu zs→dF c ro (m.iZ zs.length bx) t as=some (r.1,r.2.iZ zs.length bx))∧r.2.ag.length=m.ag.length∧r.2.bL m.cur=m.bL m.cur∧r.2.tail zs.length=m.tail zs.length∧(ro=true→r.2=m)∧(r.2.lB m.cur=false→m.lB m.cur=false):=by
 unfold nh
 constructor
 ·intro h
  split at h
  ·rename_i v m' e
   split at h
   ·rename_i hc
    injection h with h
    subst h
    exact⟨e,hc⟩
   ·cases h
  ·cases h
 ·rintro⟨h1,h2⟩
  rw[h1]
  simp only
  rw[ak h2]
theorem af3 {c c':aZ} (h:ko c c') {ro:Bool} {m:ae} {zs:List (List AV)} {t:Target} {as:List AV} {r:AV×ae} (e:nh c ro m zs t as=some r):nh c' ro m zs t as=some r:=by
 obtain⟨h1,h2,h3,h4⟩:=Jp.1 e
 exact Jp.2 ⟨wG h h1,h2,fun bx hb=>wG h (h3 bx hb),h4⟩
theorem adP {c c':aZ} (h:ko c c') {m:ae} {f:FuncId} {as:List AV} {r:AV×ae} (e:lK c m f as=some r):lK c' m f as=some r:=by
 unfold lK at e⊢
 cases hc:c (.fn f) as {m.push ⟨[],[]⟩with ro:=m.ag.length,bo:=m.loops.length}with
 |none=>rw[hc]at e;cases e
 |some p=>rw[hc]at e;rw[h _ _ _ _ hc];exact e
theorem E8 {c:aZ} {m:ae} {t:Target} {as:List AV} {ws:List (Bool×Nat×AV)} {r:AV×ae}:oF c m t as ws=some r↔c t as m=some r∧∀q,q∈ws→r.2.load q.1 q.2.1 q.2.2=m.load q.1 q.2.1 q.2.2:=by
 unfold oF
 constructor
 ·intro h
  split at h
  ·rename_i v m' e
   split at h
   ·rename_i hc
    injection h with h
    subst h
    exact⟨e,hc⟩
   ·cases h
  ·cases h
 ·rintro⟨h1,h2⟩
  rw[h1]
  simp only
  rw[ak h2]
theorem adZ {c c':aZ} (h:ko c c') {m:ae} {t:Target} {as:List AV} {ws:List (Bool×Nat×AV)} {r:AV×ae} (e:oF c m t as ws=some r):oF c' m t as ws=some r:=by
 obtain⟨h1,h2⟩:=E8.1 e
 exact E8.2 ⟨h _ _ _ _ h1,h2⟩
theorem Zm {c c':aZ} (h:ko c c') {ρ:aF→AV} {m:ae} {op:bX} {r:AV×ae} (e:aN c ρ m op=some r):aN c' ρ m op=some r:=by
 cases op<;>first
  |exact e
  |exact wG h e
  |exact ad0 h e
  |exact adW h e
  |exact af3 h e
  |exact adP h e
  |exact adZ h e
theorem GM {c c':aZ} (h:ko c c'):∀{l:List bz} {st r:St},ops c l st=some r→ops c' l st=some r
 |[],st,r,e=>e
 | o :: l, st, r, e => by
  unfold ops at e⊢
  split
  ·rename_i hw
   rw[ak hw]at e
   split at e
   ·rename_i x m hv
    rw[Zm h hv]
    exact GM h e
   ·cases e
  ·rename_i hw
   rw[aq hw]at e
   exact GM h e
theorem KD {f g:St→Option (cV×St)} (h:∀st r,f st=some r→g st=some r):∀{n m:Nat} {st:St} {r:cV×St},n≤m→lA f n st=some r→lA g m st=some r
 |0,_,_,_,_,e=>by simp[lA]at e
 |n+1,0,_,_,hn,_=>by omega
 | n + 1, m + 1, st, r, hn, e => by
  simp only[lA]at e⊢
  split at e
  ·rename_i c9 h1
   rw[h _ _ h1]
   exact KD h (by omega) e
  ·rename_i aB
   rw[h _ _ e]
   split
   ·rename_i c9 heq
    exact absurd (e.trans heq) (aB _)
   ·rfl
theorem wI {c c':aZ} (h:ko c c') {n m:Nat} (hn:n≤m):∀{a:au} {st:St} {r:cV×St},exec c n a st=some r→exec c' m a st=some r:=by
 intro a
 induction a with
 |skip=>intro st r e;exact e
 |exit=>intro st r e;exact e
 |ret=>intro st r e;exact e
 |region d l=>
  intro st r e
  simp only[exec]at e⊢
  obtain⟨p,hp,rfl⟩:=aU.1 e
  rw[GM h hp]
  rfl
 | seq a b vj zo =>
  intro st r e
  simp only[exec]at e⊢
  split at e
  ·rename_i c9 h1
   rw[vj h1]
   exact zo e
  ·rename_i aB
   rw[vj e]
   split
   ·rename_i c9 heq
    exact absurd (e.trans heq) (aB _)
   ·rfl
 | cond x a b vj zo =>
  intro st r e
  simp only[exec]at e⊢
  split
  ·rename_i t hx
   rw[hx]at e
   simp only at e
   split
   ·rw[ak (by assumption)]at e;exact vj e
   ·rw[aq (by assumption)]at e;exact zo e
  ·rename_i hx
   split at e
   ·rename_i t ht
    exact absurd ht (hx _)
   ·cases e
 | block id a ih =>
  intro st r e
  simp only[exec]at e⊢
  split at e
  ·rename_i j c9 h1
   rw[ih h1]
   exact e
  ·rename_i aB
   rw[ih e]
   split
   ·rename_i j c9 heq
    exact absurd (e.trans heq) (aB _ _)
   ·rfl
 |loop a ih=>
  intro st r e
  simp only[exec]at e⊢
  exact KD (fun st r=>ih) hn e
 | rangeFunc f ps a b _ _ =>
  intro st r e
  simp only[exec]at e⊢
  split
  ·rename_i g first caps hf
   rw[hf]at e
   simp only at e
   split at e
   ·rename_i x s hc
    rw[h _ _ _ _ hc]
    exact e
   ·cases e
  ·rename_i hf
   split at e
   ·rename_i g first caps hg
    exact absurd hg (hf _ _ _)
   ·cases e
theorem adM {AP:FuncId→Option aJ} {c c':aZ} (h:ko c c') {n m:Nat} (hn:n≤m):ko (iO AP c n) (iO AP c' m):=by
 intro t as s r e
 unfold iO at e⊢
 cases t with
 | fn f =>
  simp only at e⊢
  split at e
  ·split at e
   ·rename_i hlen
    rw[ak hlen]
    split at e
    ·rename_i st he;rw[wI h hn he];exact e
    ·rename_i st he;rw[wI h hn he];exact e
    ·cases e
   ·cases e
  ·exact e
  ·cases e
 | inl f =>
  simp only at e⊢
  split at e
  ·split at e
   ·rename_i hlen
    rw[ak hlen]
    split at e
    ·rename_i st he;rw[wI h hn he];exact e
    ·rename_i st he;rw[wI h hn he];exact e
    ·cases e
   ·cases e
  ·cases e
 |nat f=>exact e
 | yield l =>
  simp only at e⊢
  split at e
  ·rename_i lp sg
   split at e
   ·rename_i bn
    rw[ak bn]
    split at e
    ·rename_i st he
     rw[wI h hn he]
     simp only
     split at e
     ·rename_i hr
      rw[ak hr]
      split at e
      ·rename_i aQ hb
       rw[wI h hn hb]
       exact e
      ·rename_i ex aQ aB hb
       rw[wI h hn hb]
       simp only
       exact e
      ·cases e
     ·cases e
    ·cases e
   ·cases e
  ·cases e
theorem UC {AP:FuncId→Option aJ}:∀n,ko (eT AP n) (eT AP (n+1))
 |0=>fun _ _ _ _ e=>by simp[eT]at e
 |n+1=>adM (UC n) (sY n)
theorem uF {AP:FuncId→Option aJ} {n m:Nat} (h:n≤m):ko (eT AP n) (eT AP m):=by
 induction h with
 |refl=>exact .refl _
 |step _ ih=>exact ih.trans (UC _)
section
variable(AP:FuncId→Option aJ)
open Classical in
noncomputable def aw:aZ:=fun t as s=>if h:∃r n,eT AP n t as s=some r then some h.choose else none
open Classical in
noncomputable def fw (c:au) (st:St):Option (cV×St):=if h:∃r n,exec (eT AP n) n c st=some r then some h.choose else none
variable{AP}
theorem rG {t:Target} {as:List AV} {s:ae} {r:AV×ae}:aw AP t as s=some r↔∃n,eT AP n t as s=some r:=by
 unfold aw
 constructor
 ·intro h
  split at h
  ·rename_i hex
   injection h with h
   rw[←h]
   exact hex.choose_spec
  ·cases h
 ·intro⟨n,hn⟩
  have hex:∃r n,eT AP n t as s=some r:=⟨r,n,hn⟩
  rw[Jj hex]
  obtain⟨m,hm⟩:=hex.choose_spec
  have h1:=uF (Cr n m) _ _ _ _ hn
  have h2:=uF (HF n m) _ _ _ _ hm
  rw[h1]at h2
  exact h2.symm
theorem uK {n m:Nat} (h:n≤m) {c:au} {st:St} {r:cV×St} (e:exec (eT AP n) n c st=some r):exec (eT AP m) m c st=some r:=wI (uF h) h e
theorem jK {c:au} {st:St} {r:cV×St}:fw AP c st=some r↔∃n,exec (eT AP n) n c st=some r:=by
 unfold fw
 constructor
 ·intro h
  split at h
  ·rename_i hex
   injection h with h
   rw[←h]
   exact hex.choose_spec
  ·cases h
 ·intro⟨n,hn⟩
  have hex:∃r n,exec (eT AP n) n c st=some r:=⟨r,n,hn⟩
  rw[Jj hex]
  obtain⟨m,hm⟩:=hex.choose_spec
  have h1:=uK (Cr n m) hn
  have h2:=uK (HF n m) hm
  rw[h1]at h2
  exact h2.symm
theorem adJ (n:Nat):ko (eT AP n) (aw AP):=fun _ _ _ _ e=>rG.2 ⟨n,e⟩
theorem Fk {ro:Bool} {m:ae} {t:Target} {as:List AV} {r:AV×ae} (e:dF (aw AP) ro m t as=some r):∃n,dF (eT AP n) ro m t as=some r:=by
 unfold dF at e⊢
 split at e
 ·obtain⟨p,hp,rfl⟩:=aU.1 e
  obtain⟨n,hn⟩:=rG.1 hp
  exact⟨n,by rw[ak (by assumption),hn];rfl⟩
 ·obtain⟨n,hn⟩:=rG.1 e
  exact⟨n,by rw[aq (by assumption),hn]⟩
theorem adV {m:ae} {f:FuncId} {as:List AV} {r:AV×ae} (e:ng (aw AP) m f as=some r):∃n,ng (eT AP n) m f as=some r:=by
 unfold ng at e⊢
 cases hc:aw AP (.fn f) as {m.push ⟨[],[]⟩with ro:=m.ag.length,bo:=m.loops.length}with
 |none=>rw[hc]at e;cases e
 |some p=>
  rw[hc]at e
  obtain⟨n,hn⟩:=rG.1 hc
  exact⟨n,by rw[hn];exact e⟩
theorem adO {m:ae} {f:FuncId} {as:List AV} {r:AV×ae} (e:lK (aw AP) m f as=some r):∃n,lK (eT AP n) m f as=some r:=by
 unfold lK at e⊢
 cases hc:aw AP (.fn f) as {m.push ⟨[],[]⟩with ro:=m.ag.length,bo:=m.loops.length}with
 |none=>rw[hc]at e;cases e
 |some p=>
  rw[hc]at e
  obtain⟨n,hn⟩:=rG.1 hc
  exact⟨n,by rw[hn];exact e⟩
theorem adY {m:ae} {t:Target} {as:List AV} {ws:List (Bool×Nat×AV)} {r:AV×ae} (e:oF (aw AP) m t as ws=some r):∃n,oF (eT AP n) m t as ws=some r:=by
 obtain⟨h1,h2⟩:=E8.1 e
 obtain⟨n,hn⟩:=rG.1 h1
 exact⟨n,E8.2 ⟨hn,h2⟩⟩
theorem VX {ro:Bool} {t:Target} {as:List AV} {M:List (List AV)→ae} {R:List (List AV)→AV×ae}:∀{l:List (List (List AV))},(∀bx,bx∈l→dF (aw AP) ro (M bx) t as=some (R bx))→∃n,∀bx,bx∈l→dF (eT AP n) ro (M bx) t as=some (R bx)
 |[],_=>⟨0,fun _ h=>by cases h⟩
 |b::l,h=>by
  obtain⟨n1,k1⟩:=Fk (h b (by simp))
  obtain⟨n2,k2⟩:=VX (l:=l) fun bx hb=>h bx (jf _ hb)
  refine⟨n1+n2,fun bx hb=>?_⟩
  rcases eB.1 hb with rfl|hb
  ·exact wG (uF (by omega)) k1
  ·exact wG (uF (by omega)) (k2 bx hb)
theorem af2 {ro:Bool} {m:ae} {zs:List (List AV)} {t:Target} {as:List AV} {r:AV×ae} (e:nh (aw AP) ro m zs t as=some r):∃n,nh (eT AP n) ro m zs t as=some r:=by
 obtain⟨h1,h2,h3,h4⟩:=Jp.1 e
 obtain⟨n1,k1⟩:=Fk h1
 obtain⟨n3,k3⟩:=VX h3
 exact⟨n1+n3,Jp.2 ⟨wG (uF (by omega)) k1,h2,fun bx hb=>wG (uF (by omega)) (k3 bx hb),h4⟩⟩
theorem apM {ρ:aF→AV} {m:ae} {op:bX} {r:AV×ae} (e:aN (aw AP) ρ m op=some r):∃n,aN (eT AP n) ρ m op=some r:=by
  cases op<;>first
    |exact⟨0,e⟩
    |exact Fk e
    |exact adV e
    |exact af2 e
    |exact adO e
    |exact adY e
    | (simp only [aN, lL] at e ⊢
       split at e
       · exact Fk e
       · exact Fk e
       · cases e)
theorem QC:∀{l:List bz} {st r:St},ops (aw AP) l st=some r→∃n,ops (eT AP n) l st=some r
 |[],st,r,e=>⟨0,e⟩
 | o :: l, st, r, e => by
  unfold ops at e
  split at e
  ·rename_i hw
   split at e
   ·rename_i x m hv
    obtain⟨n1,h1⟩:=apM hv
    obtain⟨n2,h2⟩:=QC e
    refine⟨max n1 n2,?_⟩
    unfold ops
    rw[ak hw,Zm (uF (Cr n1 n2)) h1]
    exact GM (uF (HF n1 n2)) h2
   ·cases e
  ·rename_i hw
   obtain⟨n2,h2⟩:=QC e
   refine⟨n2,?_⟩
   unfold ops
   rw[aq hw]
   exact h2
theorem tO {α:Type} {x y:Option α} (h:∀r,x=some r↔y=some r):x=y:=by
 cases hx:x with
 |some a=>exact((h a).1 hx).symm
 |none=>
  cases hy:y with
  |none=>rfl
  |some b=>have:=(h b).2 hy;rw[hx]at this;cases this
theorem gC {c:au} {st:St} {r:cV×St} {n:Nat} (h:exec (eT AP n) n c st=some r):fw AP c st=some r:=jK.2 ⟨n,h⟩
theorem ar6 (st:St):fw AP .skip st=some (.normal,st):=gC (n:=0) rfl
theorem ar0 (id:Nat) (st:St):fw AP (.exit id) st=some (.exit id,st):=gC (n:=0) rfl
theorem ar4 (st:St):fw AP .ret st=some (.ret,st):=gC (n:=0) rfl
theorem ar3 (d:Bool) (l:List bz) (st:St):fw AP (.region d l) st=(ops (aw AP) l st).map (cV.normal,·):=by
 refine tO fun r=>⟨fun h=>?_,fun h=>?_⟩
 ·obtain⟨n,hn⟩:=jK.1 h
  simp only[exec]at hn
  obtain⟨p,hp,rfl⟩:=aU.1 hn
  rw[GM (adJ n) hp]
  rfl
 ·obtain⟨p,hp,rfl⟩:=aU.1 h
  obtain⟨n,hn⟩:=QC hp
  exact gC (n:=n) (by simp only[exec,hn];rfl)
theorem ar5 (a b:au) (st:St):fw AP (.seq a b) st=match fw AP a st with
  |some (.normal,aQ)=>fw AP b aQ
  |r=>r:=by
 refine tO fun r=>⟨fun h=>?_,fun h=>?_⟩
 ·obtain⟨n,hn⟩:=jK.1 h
  simp only[exec]at hn
  split at hn
  ·rename_i c9 h1
   rw[gC h1]
   exact gC hn
  ·rename_i aB
   rw[gC hn]
   split
   ·rename_i c9 heq
    exact absurd (hn.trans heq) (aB _)
   ·rfl
 ·split at h
  ·rename_i c9 h1
   obtain⟨n1,e1⟩:=jK.1 h1
   obtain⟨n2,e2⟩:=jK.1 h
   refine gC (n:=max n1 n2) ?_
   simp only[exec,uK (Cr n1 n2) e1]
   exact uK (HF n1 n2) e2
  ·rename_i aB
   obtain⟨n,hn⟩:=jK.1 h
   refine gC (n:=n) ?_
   simp only[exec,hn]
   split
   ·rename_i c9 heq
    exact absurd (h.trans heq) (aB _)
   ·rfl
theorem arZ (c:aF) (a b:au) (st:St):fw AP (.cond c a b) st=match aE st.tmps c with
  |.v (.bool t)=>if t then fw AP a st else fw AP b st
  |_=>none:=by
 refine tO fun r=>⟨fun h=>?_,fun h=>?_⟩
 ·obtain⟨n,hn⟩:=jK.1 h
  simp only[exec]at hn
  split at hn
  ·rename_i t ht
   rw[ht]
   simp only
   split
   ·rw[ak (by assumption)]at hn;exact gC hn
   ·rw[aq (by assumption)]at hn;exact gC hn
  ·cases hn
 ·split at h
  ·rename_i t ht
   split at h
   ·rename_i hb
    obtain⟨n,hn⟩:=jK.1 h
    exact gC (n:=n) (by simp only[exec,ht,ak hb,hn])
   ·rename_i hb
    obtain⟨n,hn⟩:=jK.1 h
    exact gC (n:=n) (by simp only[exec,ht,aq hb,hn])
  ·cases h
theorem arY (id:Nat) (a:au) (st:St):fw AP (.block id a) st=match fw AP a st with
  |some (.exit j,aQ)=>if j=id then some (.normal,aQ)else some (.exit j,aQ)
  |r=>r:=by
 refine tO fun r=>⟨fun h=>?_,fun h=>?_⟩
 ·obtain⟨n,hn⟩:=jK.1 h
  simp only[exec]at hn
  split at hn
  ·rename_i j c9 h1
   rw[gC h1]
   exact hn
  ·rename_i aB
   rw[gC hn]
   split
   ·rename_i j c9 heq
    exact absurd (hn.trans heq) (aB _ _)
   ·rfl
 ·split at h
  ·rename_i j c9 h1
   obtain⟨n1,e1⟩:=jK.1 h1
   refine gC (n:=n1) ?_
   simp only[exec,e1]
   exact h
  ·rename_i aB
   obtain⟨n,hn⟩:=jK.1 h
   refine gC (n:=n) ?_
   simp only[exec,hn]
   split
   ·rename_i j c9 heq
    exact absurd (h.trans heq) (aB _ _)
   ·rfl
theorem ar1 (a:au) (st:St):fw AP (.loop a) st=match fw AP a st with
  |some (.normal,aQ)=>fw AP (.loop a) aQ
  |r=>r:=by
 refine tO fun r=>⟨fun h=>?_,fun h=>?_⟩
 ·obtain⟨n,hn⟩:=jK.1 h
  simp only[exec]at hn
  obtain⟨m,rfl⟩:∃m,n=m+1:=by
   cases n with
   |zero=>simp[lA]at hn
   |succ m=>exact⟨m,rfl⟩
  rw[lA]at hn
  split at hn
  ·rename_i c9 h1
   rw[gC h1]
   refine gC (n:=m+1) ?_
   simp only[exec]
   exact KD (fun _ _ e=>e) (sY m) hn
  ·rename_i aB
   rw[gC hn]
   split
   ·rename_i c9 heq
    exact absurd (hn.trans heq) (aB _)
   ·rfl
 ·split at h
  ·rename_i c9 h1
   obtain⟨n1,e1⟩:=jK.1 h1
   obtain⟨n2,e2⟩:=jK.1 h
   refine gC (n:=max n1 n2+1) ?_
   simp only[exec,lA]
   rw[uK (by omega) e1]
   simp only[exec]at e2
   exact KD (fun st r e=>uK (by omega) e) (by omega) e2
  ·rename_i aB
   obtain⟨n,hn⟩:=jK.1 h
   refine gC (n:=n+1) ?_
   simp only[exec,lA]
   rw[uK (sY n) hn]
   split
   ·rename_i c9 heq
    exact absurd (h.trans heq) (aB _)
   ·rfl
theorem ar2 (f:aF) (ps:List Nat) (a b:au) (st:St):fw AP (.rangeFunc f ps a b) st=match aE st.tmps f with
  | .fn g first caps => match aw AP (.fn g) (first ++ .yield st.sig.loops.length :: caps) (enterLoop st.sig ⟨true, none, st.tmps, ps, a, b⟩) with
   |some (_,s)=>match xo s st.sig.loops.length with
    |some (e,s1)=>some (e.getD .normal,⟨st.tmps,s1⟩)
    |none=>none
   |none=>none
  |_=>none:=by
 refine tO fun r=>⟨fun h=>?_,fun h=>?_⟩
 ·obtain⟨n,hn⟩:=jK.1 h
  simp only[exec]at hn
  split at hn
  ·rename_i g first caps hf
   rw[hf]
   simp only
   split at hn
   ·rename_i x s hc
    rw[rG.2 ⟨n,hc⟩]
    exact hn
   ·cases hn
  ·cases hn
 ·split at h
  ·rename_i g first caps hf
   split at h
   ·rename_i x s hc
    obtain⟨n,hn⟩:=rG.1 hc
    refine gC (n:=n) ?_
    simp only[exec,hf,hn]
    exact h
   ·cases h
  ·cases h
theorem Ay {t:Target} {as:List AV} {s:ae} {r:AV×ae} {n:Nat} (h:iO AP (eT AP n) n t as s=some r):aw AP t as s=some r:=rG.2 ⟨n+1,h⟩
theorem I5 {t:Target} {as:List AV} {s:ae} {r:AV×ae} (h:aw AP t as s=some r):∃n,iO AP (eT AP n) n t as s=some r:=by
 obtain⟨n,hn⟩:=rG.1 h
 cases n with
 |zero=>simp[eT]at hn
 |succ n=>exact⟨n,hn⟩
theorem adF {f : FuncId} {np nt : Nat} {b : au} {rs : List il} {own : Bool} (hf : AP f = some (.code np nt b rs own)) (as : List AV) (s : ae) : aw AP (.fn f) as s = if as.length = np then
      match fw AP b ⟨jy as,s.push ⟨[],[]⟩⟩with
      |some (.normal,st)|some (.ret,st)=>finish rs own st
      |_=>none
    else none:=by
  refine tO fun r=>⟨fun h=>?_,fun h=>?_⟩
  · obtain ⟨n, hn⟩ := I5 h
    simp only[iO,hf]at hn
    split at hn
    · rename_i hl
      rw[ak hl]
      split at hn
      · rename_i st h1;rw[gC h1];exact hn
      · rename_i st h1;rw[gC h1];exact hn
      · cases hn
    · cases hn
  · split at h
    · rename_i hl
      split at h
      · rename_i st h1
        obtain⟨n,hn⟩:=jK.1 h1
        exact Ay (n:=n) (by simp only[iO,hf,ak hl,hn];exact h)
      · rename_i st h1
        obtain⟨n,hn⟩:=jK.1 h1
        exact Ay (n:=n) (by simp only[iO,hf,ak hl,hn];exact h)
      · cases h
    · cases h
theorem adH {f : FuncId} {np nt : Nat} {b : au} {rs : List il} {own : Bool} (hf : AP f = some (.code np nt b rs own)) (as : List AV) (s : ae) : aw AP (.inl f) as s = if as.length = np ∧ s.ro < s.ag.length then
      match fw AP b ⟨jy as,s⟩with
      |some (.normal,st)|some (.ret,st)=>(tU st rs).map fun l=>(packed l,st.sig)
      |_=>none
    else none:=by
  refine tO fun r=>⟨fun h=>?_,fun h=>?_⟩
  · obtain ⟨n, hn⟩ := I5 h
    simp only[iO,hf]at hn
    split at hn
    · rename_i hl
      rw[ak hl]
      split at hn
      · rename_i st h1;rw[gC h1];exact hn
      · rename_i st h1;rw[gC h1];exact hn
      · cases hn
    · cases hn
  · split at h
    · rename_i hl
      split at h
      · rename_i st h1
        obtain⟨n,hn⟩:=jK.1 h1
        exact Ay (n:=n) (by simp only[iO,hf,ak hl,hn];exact h)
      · rename_i st h1
        obtain⟨n,hn⟩:=jK.1 h1
        exact Ay (n:=n) (by simp only[iO,hf,ak hl,hn];exact h)
      · cases h
    · cases h
theorem UA {f:FuncId} {F:List AV→Option AV} (hf:AP f=some (.re F)) (as:List AV) (s:ae):aw AP (.fn f) as s=(closeAll as).bind fun bs=>(F bs).map (·,s):=by
 refine tO fun r=>⟨fun h=>?_,fun h=>?_⟩
 ·obtain⟨n,hn⟩:=I5 h
  simpa only[iO,hf]using hn
 ·exact Ay (n:=0) (by simpa only[iO,hf]using h)
def endRound (l:Nat):Option (cV×St)→Option (AV×ae)
 |some (.normal,aQ)=>some (AV.bool true,(et aQ.sig l fun p=>{p with ready:=true,eF:=none}).pop)
 |some (e,aQ)=>some (AV.bool false,(et aQ.sig l fun p=>{p with ready:=false,eF:=some e}).pop)
 |none=>none
theorem adI (l:Nat) (as:List AV) (s:ae):aw AP (.yield l) as s=match s.loops[l]? with
  | some lp =>
   if lp.ready=true∧s.bo≤l∧as.length=lp.params.length then
    match fw AP lp.assign ⟨tX lp.tmps lp.params as,s.push ⟨[],[]⟩⟩with
    |some (.normal,st)=>if BJ st.sig l=true then endRound l (fw AP lp.body ⟨st.tmps,et st.sig l fun p=>{p with ready:=false}⟩)else none
    |_=>none
   else none
  |none=>none:=by
 refine tO fun r=>⟨fun h=>?_,fun h=>?_⟩
 ·obtain⟨n,hn⟩:=I5 h
  simp only[iO]at hn
  split at hn
  ·rename_i lp sg
   split at hn
   ·rename_i bn
    rw[sg]
    simp only
    rw[ak bn]
    split at hn
    ·rename_i st h1
     rw[gC h1]
     simp only
     split at hn
     ·rename_i hr
      rw[ak hr]
      split at hn
      ·rename_i aQ h2
       rw[gC h2]
       exact hn
      ·rename_i e aQ aB h2
       rw[gC h2]
       cases e with
       |normal=>exact absurd rfl aB
       |exit id=>exact hn
       |ret=>exact hn
      ·cases hn
     ·cases hn
    ·cases hn
   ·cases hn
  ·cases hn
 ·split at h
  ·rename_i lp sg
   split at h
   ·rename_i bn
    split at h
    ·rename_i st h1
     split at h
     ·rename_i hr
      obtain⟨n1,e1⟩:=jK.1 h1
      cases hb:fw AP lp.body ⟨st.tmps,et st.sig l fun p=>{p with ready:=false}⟩with
      |none=>rw[hb]at h;cases h
      |some q=>
       obtain⟨e,aQ⟩:=q
       obtain⟨n2,e2⟩:=jK.1 hb
       rw[hb]at h
       refine Ay (n:=max n1 n2) ?_
       simp only[iO,sg,ak bn,uK (Cr n1 n2) e1,ak hr,uK (HF n1 n2) e2]
       cases e<;>exact h
     ·cases h
    ·cases h
   ·cases h
  ·cases h
end
end Go.Ax
/-
  A call's arguments as the executor has them: from the row's reading.
-/
namespace Go.Ax
open Go.ChangeShapes Go.WideShapes
def Hc (P:Program) (ok:TypeId→Bool) (size:Nat):Nat→List Field→Bool
 |off,[]=>decide (off=size)
 |off,f::r=>decide (f.offset=off)&&ok f.type&&Hc P ok size (off+P.cellsOf f.type) r
def mQ (P:Program):Nat→TypeId→Bool
 |0,_=>false
 |d+1,t=>match P.underlying t with
  |some .bool|some (.int _)|some .string=>decide (P.cellsOf t=1)
  |some (.slice e)=>decide (P.cellsOf t=1)&&decide (0<P.cellsOf e)&&mQ P d e
  |some (.struct fs)=>Hc P (mQ P d) (P.cellsOf t) 0 fs.toList
  |some (.array n e)=>decide (n*P.cellsOf e=P.cellsOf t)&&mQ P d e
  |_=>false
def dW (P:Program):Nat→TypeId→List AV→Prop
 |0,_,_=>False
 |d+1,t,bO=>match P.underlying t with
  |some .bool=>∃b,bO=[.v (.bool b)]
  |some (.int k)=>∃x,bO=[.v (.int k x)]∧(Lit.int k x).wf=true
  |some .string=>∃s:ByteArray,bO=[.v (.string s)]∧s.size≤maxLen
  |some (.slice e)=>∃o rows,bO=[.slice o (P.cellsOf e) rows]∧(o=.any∨(o=.aA∧rows=[]))∧rows.length≤maxLen∧(∀r∈rows,r.length=P.cellsOf e∧dW P d e r)∧rows.length*P.bytesOf e≤reachBytes
  |some (.struct fs)=>∃ps:List (List AV),bO=ps.flatten∧ps.length=fs.size∧∀(i:Nat) (f:Field) (p:List AV),fs[i]? =some f→ps[i]? =some p→p.length=P.cellsOf f.type∧dW P d f.type p
  |some (.array n e)=>∃ps:List (List AV),bO=ps.flatten∧ps.length=n∧∀p∈ps,p.length=P.cellsOf e∧dW P d e p
  |_=>False
structure RL (w:World) (bO:List AV) (cs:List Value):Prop where
 len:bO.length=cs.length
 get:∀(i:Nat) (a:AV) (c:Value),bO[i]? =some a→cs[i]? =some c→Reads w a c∧a.bt=true
theorem RL.nil {w:World}:RL w [] []:=⟨rfl,fun i a c h=>by simp at h⟩
theorem RL.one {w:World} {a:AV} {c:Value} (h:Reads w a c) (hc:a.bt=true):RL w [a] [c]:=⟨rfl,fun i x y h1 h2=>by
 cases i with
 |zero=>simp at h1 h2;subst h1 h2;exact⟨h,hc⟩
 |succ i=>simp at h1⟩
theorem RL.append {w:World} {a b:List AV} {c d:List Value} (h:RL w a c) (k:RL w b d):RL w (a++b) (c++d):=⟨by simp[h.len,k.len],fun i x y h1 h2=>by
 by_cases hi:i<a.length
 ·rw[dC hi]at h1
  rw[dC (by rw[←h.len];exact hi)]at h2
  exact h.get i x y h1 h2
 ·rw[gD (by omega)]at h1
  rw[gD (by rw[←h.len];omega),←h.len]at h2
  exact k.get _ x y h1 h2⟩
section
variable{H:Type} {enc:TypeId×Value→H} {P:Program} {w:World}
theorem aaT {α:Type} (l:List α) (off n:Nat):(l.drop off).take n++l.drop (off+n)=l.drop off:=by
 rw[←List.drop_drop];exact HB _ _
theorem Zh {d size:Nat} {cs:List Value} {n:Nat} (ih:∀(t:TypeId) (fuel:Nat) (cs:List Value) (x:DataW H×List MemPlace),mQ P d t=true→DataW.trod enc P w 0 (fun _=>true) true fuel t cs=some x→(∀n∈x.1.weights P t,n≤reachBytes)→∃bO,RL w bO cs∧cs.length=P.cellsOf t∧dW P d t bO) (hl:cs.length=size):
  ∀(fs:List Field) (off:Nat),Hc P (mQ P d) size off fs=true→(∀f∈fs,∃y,DataW.trod enc P w 0 (fun _=>true) true n f.type ((cs.drop f.offset).take (P.cellsOf f.type))=some y∧∀n∈y.1.weights P f.type,n≤reachBytes)→
   ∃ps:List (List AV),RL w ps.flatten (cs.drop off)∧ps.length=fs.length∧∀(i:Nat) (f:Field) (p:List AV),fs[i]? =some f→ps[i]? =some p→p.length=P.cellsOf f.type∧dW P d f.type p
 |[],off,ht,_=>by
  have:off=size:=by simpa[Hc]using ht
  subst this
  refine⟨[],?_,rfl,fun i f p h=>by simp at h⟩
  rw[←hl,eR];exact .nil
 | f :: r, off, ht, hf => by
  simp only[Hc,dB,dY]at ht
  obtain⟨⟨rfl,bE⟩,hr⟩:=ht
  obtain⟨y,hy,PW⟩:=hf f (xS ..)
  obtain⟨bO,h1,h2,h3⟩:=ih _ _ _ _ bE hy PW
  obtain⟨ps,k1,k2,k3⟩:=Zh ih hl r _ hr (fun g hg=>hf g (jf _ hg))
  refine⟨bO::ps,?_,by simp[k2],fun i g p hg hp=>?_⟩
  ·rw[sV,←aaT cs f.offset (P.cellsOf f.type)]
   exact h1.append k1
  ·cases i with
   |zero=>simp at hg hp;subst hg hp;exact⟨by rw[h1.len,h2],h3⟩
   |succ i=>simp at hg hp;exact k3 i g p hg hp
theorem Zg {d:Nat} {cs:List Value} {n:Nat} {e:TypeId} (ih:∀(t:TypeId) (fuel:Nat) (cs:List Value) (x:DataW H×List MemPlace),mQ P d t=true→DataW.trod enc P w 0 (fun _=>true) true fuel t cs=some x→(∀n∈x.1.weights P t,n≤reachBytes)→∃bO,RL w bO cs∧cs.length=P.cellsOf t∧dW P d t bO) (bE:mQ P d e=true):
  ∀(k i:Nat),cs.length=(i+k)*P.cellsOf e→(∀j,i≤j→j<i+k→∃y,DataW.trod enc P w 0 (fun _=>true) true n e ((cs.drop (j*P.cellsOf e)).take (P.cellsOf e))=some y∧∀n∈y.1.weights P e,n≤reachBytes)→
   ∃ps:List (List AV),RL w ps.flatten (cs.drop (i*P.cellsOf e))∧ps.length=k∧∀p∈ps,p.length=P.cellsOf e∧dW P d e p
 |0,i,hl,_=>by
  refine⟨[],?_,rfl,fun p h=>by simp at h⟩
  rw[show i*P.cellsOf e=cs.length by rw[hl];simp,eR];exact .nil
 | k + 1, i, hl, hf => by
  obtain⟨y,hy,PW⟩:=hf i (aH _) (by omega)
  obtain⟨bO,h1,h2,h3⟩:=ih _ _ _ _ bE hy PW
  obtain⟨ps,k1,k2,k3⟩:=Zg ih bE k (i+1) (by rw[hl];congr 1;omega) (fun j h1 h2=>hf j (by omega) (by omega))
  refine⟨bO::ps,?_,by simp[k2],fun p hp=>?_⟩
  ·rw[sV,←aaT cs (i*P.cellsOf e) (P.cellsOf e)]
   rw[Nat.succ_mul]at k1
   exact h1.append k1
  ·rcases eB.1 hp with rfl|hp
   ·exact⟨by rw[h1.len,h2],h3⟩
   ·exact k3 p hp
theorem RJ {e:TypeId}:∀{l:List (DataW H)} {d:DataW H},d∈l→∀n∈d.weights P e,n∈DataW.weightsAll P e l
 |x::l,d,h,n,hn=>by
  simp only[DataW.weightsAll,dD]
  rcases eB.1 h with rfl|h
  ·exact .inl hn
  ·exact .inr (RJ h n hn)
 |[],d,h,_,_=>by cases h
theorem Zi : ∀ (d : Nat) (t : TypeId) (fuel : Nat) (cs : List Value) (x : DataW H × List MemPlace), mQ P d t = true → DataW.trod enc P w 0 (fun _ => true) true fuel t cs = some x → (∀ n ∈ x.1.weights P t, n ≤ reachBytes) →
    ∃bO,RL w bO cs∧cs.length=P.cellsOf t∧dW P d t bO
  |0,t,fuel,cs,x,h,_,_=>by simp[mQ]at h
  | d + 1, t, fuel, cs, x, bE, h, lW => by
    have ih:=Zi d
    unfold mQ at bE
    cases hu:P.underlying t with
    |none=>rw[hu]at bE;cases bE
    | some u =>
      rw[hu]at bE
      cases u with
      | bool =>
        obtain⟨b,rfl,_⟩:=DataW.trod_bool hu h
        exact⟨[.v (.bool b)],.one (.v rfl) rfl,by simp only[dY]at bE;simp[bE],by simp only[dW,hu];exact⟨b,rfl⟩⟩
      | int k =>
        obtain⟨n,rfl,_,hw⟩:=DataW.trod_int hu h
        exact⟨[.v (.int k n)],.one (.v rfl) rfl,by simp only[dY]at bE;simp[bE],by simp only[dW,hu];exact⟨n,rfl,hw⟩⟩
      | string =>
        obtain⟨s,rfl,_,hw⟩:=DataW.trod_string hu h
        exact⟨[.v (.string s)],.one (.v rfl) rfl,by simp only[dY]at bE;simp[bE],by simp only[dW,hu];exact⟨s,rfl,hw⟩⟩
      | struct fs =>
        obtain⟨xs,n,_,qR,hl,Bw,dR⟩:=DataW.trod_struct hu h
        subst qR
        have lW:∀n∈DataW.weightsEach P (fs.toList.map (·.type)) (xs.map (·.1)),n≤reachBytes:=fun n hn=>lW n (by simpa[DataW.weights,hu]using hn)
        obtain⟨ps,k1,k2,k3⟩:=Zh ih hl fs.toList 0 bE (fun f hf=>by
          obtain⟨i,hi⟩:=mY hf
          have bD:fs[i]? =some f:=by simpa using hi
          have aC:i<xs.length:=by
            have:=(bd.1 hi).1
            rw[Bw];simpa using this
          exact⟨xs[i],by rw[dR i f bD,cM aC],fun n hn=>lW n (DataW.weights_mem_each (j:=i) (t:=f.type) (d:=xs[i].1) (by rw[je,hi];rfl) (by rw[je,cM aC];rfl) n hn)⟩)
        exact⟨ps.flatten,by simpa using k1,hl,by simp only[dW,hu];exact⟨ps,rfl,by simpa using k2,fun i f p hf hp=>k3 i f p (by simpa using hf) hp⟩⟩
      | array n e =>
        simp only[dB,dY]at bE
        obtain⟨xs,m,_,qR,hl,Bw,dR⟩:=DataW.trod_array hu h
        subst qR
        have lW:∀n∈DataW.weightsAll P e (xs.map (·.1)),n≤reachBytes:=fun n hn=>lW n (by simpa[DataW.weights,hu]using hn)
        obtain⟨ps,k1,k2,k3⟩:=Zg (n:=m) (cs:=cs) ih bE.2 n 0 (by rw[hl,←bE.1,fB]) (fun j _ hj=>by
          have aC:j<xs.length:=by omega
          exact⟨xs[j],by rw[dR j (by omega),cM aC],fun n hn=>lW n (RJ (cC.2 ⟨xs[j],gu aC,rfl⟩) n hn)⟩)
        exact⟨ps.flatten,by simpa using k1,hl,by simp only[dW,hu];exact⟨ps,rfl,k2,k3⟩⟩
      | slice e =>
        simp only[dB,dY]at bE
        obtain⟨⟨dT,ze⟩,ajA⟩:=bE
        rcases Deep.open_slice hu h with⟨rfl,_⟩|⟨a,len,cap,m,n,D,Pl,rfl,_,O3,r7,hm,qR,hx⟩
        · exact⟨[.slice .aA (P.cellsOf e) []],.one .aA rfl,by simp[dT],by simp only[dW,hu];exact⟨_,_,rfl,.inr ⟨rfl,rfl⟩,by simp,fun r hr=>by simp at hr,by simp⟩⟩
        · subst qR
          have XT:∀n,n=((((List.range len).map D).length+((List.range (m-len)).map fun j=>D (len+j)).length)*P.bytesOf e)∨n∈DataW.weightsAll P e ((List.range len).map D)→n≤reachBytes:=fun n hn=>lW n (by
            simp only[DataW.weights,hu,eB,dD]
            rcases hn with hn|hn
            · exact .inl hn
            · exact .inr (.inl hn))
          simp only[bB]at hm
          have hm':cap=m:=hm.symm
          subst hm'
          by_cases h0:cap=0
          · subst h0
            have:len=0:=by omega
            subst this
            exact⟨[.slice .any (P.cellsOf e) []],.one (.empty (.inl rfl)) rfl,by simp[dT],by simp only[dW,hu];exact⟨_,_,rfl,.inl rfl,by simp,fun r hr=>by simp at hr,by simp⟩⟩
          · obtain ⟨blk, off, spot⟩ := a
            have aj4:spot=none:=by
              obtain⟨cs',h1,_⟩:=hx 0 (by omega)
              obtain⟨_,qH,hg⟩:=World.cells?_some h1
              have:=hg 0 ze
              rw[cM (by omega)]at this
              simpa[Addr.add]using World.cell?_spot this
            subst aj4
            obtain⟨F,hF⟩:=Deep.choose_lt (α:=List AV×List Value) (n:=len) (p:=fun i q=>w.cells? 0 ((⟨blk,off,none⟩:Addr).add (i*P.cellsOf e)) (P.cellsOf e)=some q.2∧RL w q.1 q.2∧q.2.length=P.cellsOf e∧dW P d e q.1) (fun i hi=>by
              obtain⟨cs',h1,h2⟩:=hx i (by omega)
              obtain⟨bO,k1,k2,k3⟩:=ih _ _ _ _ ajA h2 (fun n hn=>XT n (.inr (RJ (cC.2 ⟨i,nP.2 hi,rfl⟩) n hn)))
              exact⟨(bO,cs'),h1,k1,k2,k3⟩)
            have qN:∀i (hi:i<((List.range len).map fun i=>(F i).1).length),((List.range len).map fun i=>(F i).1)[i]=(F i).1:=fun i hi=>by simp
            have br:∀i,i<len→∀j,j<P.cellsOf e→w.cell? ⟨blk,off+i*P.cellsOf e+j,none⟩=(F i).2[j]? :=by
              intro i hi j hj
              obtain⟨_,_,hg⟩:=World.cells?_some (hF i hi).1
              have:=hg j hj
              rw[add_plain,add_plain]at this
              exact this
            refine⟨[.slice .any (P.cellsOf e) ((List.range len).map fun i=>(F i).1)],.one ?_ rfl,by simp[dT],?_⟩
            · have hlen : ((List.range len).map fun i => (F i).1).length = len := by simp
              have:=bJ.slice (I:=fun b i=>w.cell? ⟨b,i,none⟩) (o:=.any) (es:=P.cellsOf e) (xs:=(List.range len).map fun i=>(F i).1) (blk:=blk) (off:=off) (cap:=cap) (fun i j=>((F i).2).getD j Go.undef) (.inl rfl) (by rw[hlen];exact O3)
                (fun r hr=>by
                  obtain⟨i,hi,rfl⟩:=cC.1 hr
                  have:=hF i (by simpa using hi)
                  rw[this.2.1.len,this.2.2.1])
                (fun r hr c hc=>by
                  obtain⟨i,hi,rfl⟩:=cC.1 hr
                  have qD:=hF i (by simpa using hi)
                  obtain⟨j,hj⟩:=mY hc
                  have gR:=(bd.1 hj).1
                  exact(qD.2.1.get j c ((F i).2[j]'(by rw[←qD.2.1.len];exact gR)) hj (cM _)).2)
                (fun i hi j hj=>by
                  have bD:i<len:=by simpa using hi
                  have qD:=hF i bD
                  rw[qN i hi]at hj
                  have dH:j<(F i).2.length:=by rw[←qD.2.1.len];exact hj
                  rw[br i bD j (by rw[←qD.2.2.1];exact dH),cM dH]
                  simp[List.getD,cM dH])
                (fun i hi j hj=>by
                  have bD:i<len:=by simpa using hi
                  have qD:=hF i bD
                  have Xf:j<(F i).1.length:=by rw[qN i hi]at hj;exact hj
                  have dH:j<(F i).2.length:=by rw[←qD.2.1.len];exact Xf
                  have hg:=(qD.2.1.get j ((F i).1[j]) ((F i).2[j]) (cM Xf) (cM dH)).1
                  have e1:((List.range len).map fun i=>(F i).1)[i][j]=(F i).1[j]:=by simp
                  rw[e1,show((F i).2).getD j Go.undef=(F i).2[j]by simp[List.getD,cM dH]]
                  exact hg)
              rw[hlen]at this
              exact this
            · simp only [dW, hu]
              exact⟨_,_,rfl,.inl rfl,by simp;omega,fun r hr=>by
                obtain⟨i,hi,rfl⟩:=cC.1 hr
                have qD:=hF i (by simpa using hi)
                exact⟨by rw[qD.2.1.len,qD.2.2.1],qD.2.2.2⟩,by
                have:=XT _ (.inl rfl)
                simp only[bY,pE]at this⊢
                exact kO (oB _ (by omega)) this⟩
      |_=>cases bE
end
end Go.Ax
/-
  Computing with the executor: the steps, one by one.
-/
namespace Go.Ax.Sx
structure Ok (s:ae):Prop where
 ro:s.ro≤s.ag.length
 bo:s.bo≤s.loops.length
theorem Ok.push {s:ae} (h:Ok s) (r:Rec):Ok (s.push r):=⟨by have:=h.ro;simp[ae.push];omega,h.bo⟩
@[simp] theorem pop_push (s:ae) (r:Rec):(s.push r).pop=s:=by simp[ae.push,ae.pop]
@[simp] theorem fD (s:ae) (r:Rec):(s.push r).cur=s.ag.length:=by simp[ae.push,ae.cur]
theorem LV (s:ae) (r:Rec):(s.push r).ag.length=s.ag.length+1:=by simp[ae.push]
theorem iu (s:ae) (r:Rec) (b:Nat):(s.push r).box s.ag.length b=r.boxes[b]? :=by simp[ae.push,ae.box]
theorem xw (s:ae) (r:Rec):(s.push r).bL s.ag.length=r.boxes.length:=by simp[ae.push,ae.bL]
theorem Ca (s:ae) (r:Rec) (g:Nat):(s.push r).tok s.ag.length g=(r.toks[g]?).join:=by simp[ae.push,ae.tok]
theorem qb (s:ae) (r:Rec):(s.push r).jI s.ag.length=r.toks.length:=by simp[ae.push,ae.jI]
theorem zA (s:ae) (r:Rec) (f:Rec→Rec):(s.push r).bp s.ag.length f=s.push (f r):=by
 simp only[ae.push,ae.bp,ae.mk.injEq,and_true]
 apply pD
 intro i
 rw[vN]
 by_cases h:i<s.ag.length
 ·rw[dC h,dC h]
  have:¬s.ag.length=i:=by omega
  simp[this]
 ·rw[gD (by omega),gD (by omega)]
  by_cases h':s.ag.length=i
  ·subst h';simp
  ·have e:i-s.ag.length=(i-s.ag.length-1)+1:=by omega
   rw[e];simp
theorem CD (s:ae) (r:Rec) (cs:List AV):(s.push r).jj s.ag.length cs=s.push ⟨r.boxes++[cs],r.toks⟩:=by rw[ae.jj,zA]
theorem Rp (s:ae) (r:Rec) (b:Nat) (cs:List AV):(s.push r).dA s.ag.length b cs=s.push ⟨r.boxes.set b cs,r.toks⟩:=by rw[ae.dA,zA]
theorem oE (s:ae) (r:Rec) (n:Nat):(s.push r).kT s.ag.length n=s.push ⟨r.boxes,r.toks++[some n]⟩:=by rw[ae.kT,zA]
theorem K5 (s:ae) (r:Rec) (g:Nat) (n:Option Nat):(s.push r).mf s.ag.length g n=s.push ⟨r.boxes,r.toks.set g n⟩:=by rw[ae.mf,zA]
theorem Q8 (s:ae) (r:Rec):(s.push r).ro=s.ro:=rfl
section
variable{call:aZ} {ρ:Nat→AV} {m:ae} {t:Nat} {rest:List bz}
noncomputable def andThen (call:aZ) (d:Option Nat) (rest:List bz) (ρ:Nat→AV) (r:Option (AV×ae)):Option St:=
 r.bind fun p=>ops call rest ⟨ki ρ d p.1,p.2⟩
theorem Zk {d:Option Nat} {op:bX}:ops call (⟨d,none,op⟩::rest) ⟨ρ,m⟩=andThen call d rest ρ (aN call (aE ρ) m op):=by
 simp only[ops,kj,andThen,bB]
 cases aN call (aE ρ) m op<;>rfl
def lC {β:Type} (x:AV) (f:Bool→β) (d:β):β:=
 match x with
 |.v (.bool b)=>f b
 |_=>d
theorem KN {β:Type} {b:Bool} {f:Bool→β} {d:β}:lC (.v (.bool b)) f d=f b:=rfl
theorem apm {β:Type} {x x':AV} {f:Bool→β} {d:β} (h:x=x'):lC x f d=lC x' f d:=by rw[h]
theorem ara:put t (ρ t) ρ=ρ:=by
 funext u;unfold put;split
 ·rename_i h;rw[h]
 ·rfl
theorem aps {d:Option Nat} {op:bX} {b:Bool}:ops call (⟨d,some (t,b),op⟩::rest) ⟨ρ,m⟩=
  lC (ρ t) (fun c=>cond c
   (cond b (andThen call d rest (put t (.v (.bool true)) ρ) (aN call (aE (put t (.v (.bool true)) ρ)) m op)) (ops call rest ⟨ki (put t (.v (.bool true)) ρ) d AV.undef,m⟩))
   (cond b (ops call rest ⟨ki (put t (.v (.bool false)) ρ) d AV.undef,m⟩) (andThen call d rest (put t (.v (.bool false)) ρ) (aN call (aE (put t (.v (.bool false)) ρ)) m op))))
   (ops call rest ⟨ki ρ d AV.undef,m⟩):=by
 have hw:∀b',Cd b (.v (.bool b'))=(b'==b):=fun _=>rfl
 by_cases h:∃c,ρ t=.v (.bool c)
 ·obtain⟨c,h⟩:=h
  have e:put t (.v (.bool c)) ρ=ρ:=by rw[←h];exact ara
  simp only[ops,kj,andThen,h,hw,lC]
  cases c<;>cases b<;>simp[e]<;>(cases aN call (aE ρ) m op<;>rfl)
 ·have h1:Cd b (ρ t)=false:=by
   cases hx:ρ t with
   |v x=>cases x with
    |bool c=>exact absurd ⟨c,hx⟩ h
    |_=>rfl
   |_=>rfl
  have h2:∀{β:Type} (f:Bool→β) (d:β),lC (ρ t) f d=d:=by
   intro β f d
   cases hx:ρ t with
   |v x=>cases x with
    |bool c=>exact absurd ⟨c,hx⟩ h
    |_=>rfl
   |_=>rfl
  simp[ops,kj,h1,h2]
end
inductive K where
 |c (a:au)
 |blk (id:Nat)
 |lp (a:au)
section
variable(AP:FuncId→Option aJ) (Fin:cV→St→Option (AV×ae))
noncomputable def iR:List K→cV→St→Option (AV×ae)
 |[],e,st=>Fin e st
 |.c a::ks,e,st=>match e with
  |.normal=>(fw AP a st).bind fun p=>iR ks p.1 p.2
  |e=>iR ks e st
 |.blk id::ks,e,st=>match e with
  |.exit j=>if j=id then iR ks .normal st else iR ks (.exit j) st
  |e=>iR ks e st
 |.lp a::ks,e,st=>match e with
  |.normal=>(fw AP (.loop a) st).bind fun p=>iR ks p.1 p.2
  |e=>iR ks e st
noncomputable def go (ks:List K) (st:St):Option (AV×ae):=iR AP Fin ks .normal st
noncomputable def dv (l:List bz) (ks:List K) (st:St):Option (AV×ae):=(ops (aw AP) l st).bind fun aQ=>go AP Fin ks aQ
noncomputable def uN (id:Nat) (ks:List K) (st:St):Option (AV×ae):=iR AP Fin ks (.exit id) st
noncomputable def Wq (ks:List K) (st:St):Option (AV×ae):=iR AP Fin ks .ret st
noncomputable def qB (d:Option Nat) (l:List bz) (ks:List K) (ρ:Nat→AV) (r:Option (AV×ae)):Option (AV×ae):=r.bind fun p=>dv AP Fin l ks ⟨ki ρ d p.1,p.2⟩
def aW (rs:List il) (own:Bool):cV→St→Option (AV×ae)
 |.exit _,_=>none
 |_,st=>finish rs own st
def qv (l:Nat) (e:cV) (st:St):Option (AV×ae):=endRound l (some (e,st))
variable{AP Fin} {ks:List K} {st:St} {a b:au} {ρ:Nat→AV} {m:ae} {rest:List bz}
theorem ahn:go AP Fin [] st=Fin .normal st:=rfl
theorem ahg {id:Nat}:uN AP Fin id [] st=Fin (.exit id) st:=rfl
theorem Fx:∀{ks:List K},Wq AP Fin ks st=Fin .ret st
 |[]=>rfl
 |.c _::ks=>(Fx (ks:=ks):_)
 |.blk _::ks=>(Fx (ks:=ks):_)
 |.lp _::ks=>(Fx (ks:=ks):_)
theorem ahe {id:Nat}:uN AP Fin id (.c a::ks) st=uN AP Fin id ks st:=rfl
theorem ahf {id:Nat}:uN AP Fin id (.lp a::ks) st=uN AP Fin id ks st:=rfl
theorem ahd {id j:Nat}:uN AP Fin id (.blk j::ks) st=if id=j then go AP Fin ks st else uN AP Fin id ks st:=rfl
theorem go_skip:go AP Fin (.c .skip::ks) st=go AP Fin ks st:=by simp[go,iR,ar6]
theorem ahk {id:Nat}:go AP Fin (.c (.exit id)::ks) st=uN AP Fin id ks st:=by simp[go,iR,ar0,uN]
theorem go_ret:go AP Fin (.c .ret::ks) st=Fin .ret st:=by
 rw[←Fx (AP:=AP) (Fin:=Fin) (ks:=ks) (st:=st)];simp[go,iR,ar4,Wq]
theorem ahh {id:Nat}:go AP Fin (.blk id::ks) st=go AP Fin ks st:=rfl
theorem ahm:go AP Fin (.lp a::ks) st=go AP Fin (.c (.loop a)::ks) st:=rfl
theorem go_region {d:Bool} {l:List bz}:go AP Fin (.c (.region d l)::ks) st=dv AP Fin l ks st:=by
 simp only[go,iR,ar3,dv,Option.bind_map];rfl
theorem aho:go AP Fin (.c (.seq a b)::ks) st=go AP Fin (.c a::.c b::ks) st:=by
 simp only[go,iR,ar5]
 cases h:fw AP a st with
 |none=>rfl
 |some p=>obtain⟨e,aQ⟩:=p;cases e<;>rfl
theorem ahi {id:Nat}:go AP Fin (.c (.block id a)::ks) st=go AP Fin (.c a::.blk id::ks) st:=by
 simp only[go,iR,arY]
 cases h:fw AP a st with
 |none=>rfl
 |some p=>
  obtain⟨e,aQ⟩:=p
  cases e with
  |exit j=>by_cases hj:j=id<;>simp[hj]
  |_=>rfl
theorem go_loop:go AP Fin (.c (.loop a)::ks) st=go AP Fin (.c a::.lp a::ks) st:=by
 simp only[go,iR]
 rw[ar1]
 cases h:fw AP a st with
 |none=>rfl
 |some p=>obtain⟨e,aQ⟩:=p;cases e<;>rfl
theorem ahj {x:aF}:go AP Fin (.c (.cond x a b)::ks) ⟨ρ,m⟩=lC (aE ρ x) (fun t=>cond t (go AP Fin (.c a::ks) ⟨ρ,m⟩) (go AP Fin (.c b::ks) ⟨ρ,m⟩)) none:=by
 simp only[go,iR,arZ,lC]
 cases aE ρ x with
 |v y=>cases y with
  |bool t=>cases t<;>rfl
  |_=>rfl
 |_=>rfl
theorem ag6:dv AP Fin [] ks st=go AP Fin ks st:=rfl
theorem Wp {d:Option Nat} {op:bX}:dv AP Fin (⟨d,none,op⟩::rest) ks ⟨ρ,m⟩=qB AP Fin d rest ks ρ (aN (aw AP) (aE ρ) m op):=by
 simp only[dv,Zk,andThen,qB]
 cases aN (aw AP) (aE ρ) m op<;>rfl
theorem Fw {d:Option Nat} {op:bX} {t:Nat} {b:Bool}:dv AP Fin (⟨d,some (t,b),op⟩::rest) ks ⟨ρ,m⟩=
  lC (ρ t) (fun c=>cond c
   (cond b (dv AP Fin (⟨d,none,op⟩::rest) ks ⟨put t (.v (.bool true)) ρ,m⟩) (dv AP Fin rest ks ⟨ki (put t (.v (.bool true)) ρ) d AV.undef,m⟩))
   (cond b (dv AP Fin rest ks ⟨ki (put t (.v (.bool false)) ρ) d AV.undef,m⟩) (dv AP Fin (⟨d,none,op⟩::rest) ks ⟨put t (.v (.bool false)) ρ,m⟩)))
   (dv AP Fin rest ks ⟨ki ρ d AV.undef,m⟩):=by
 simp only[dv,aps,Zk]
 have:∀(x:AV) (f:Bool→Option St) (d:Option St) (g:St→Option (AV×ae)),(lC x f d).bind g=lC x (fun c=>(f c).bind g) (d.bind g):=by
  intro x f d g
  cases x with
  |v y=>cases y<;>rfl
  |_=>rfl
 rw[this]
 congr 1
 funext c
 cases c<;>cases b<;>rfl
theorem ag5 {op:bX} {t:Nat}:dv AP Fin (⟨none,some (t,true),op⟩::rest) ks ⟨ρ,m⟩=
  lC (ρ t) (fun c=>cond c (dv AP Fin (⟨none,none,op⟩::rest) ks ⟨put t (.v (.bool true)) ρ,m⟩) (dv AP Fin rest ks ⟨put t (.v (.bool false)) ρ,m⟩)) (dv AP Fin rest ks ⟨ρ,m⟩):=by
 rw[Fw];rfl
theorem ag4 {op:bX} {t:Nat}:dv AP Fin (⟨none,some (t,false),op⟩::rest) ks ⟨ρ,m⟩=
  lC (ρ t) (fun c=>cond c (dv AP Fin rest ks ⟨put t (.v (.bool true)) ρ,m⟩) (dv AP Fin (⟨none,none,op⟩::rest) ks ⟨put t (.v (.bool false)) ρ,m⟩)) (dv AP Fin rest ks ⟨ρ,m⟩):=by
 rw[Fw];rfl
def eG:List (Nat×AV)→(Nat→AV)→Nat→AV
 |[],ρ=>ρ
 |(d,x)::ws,ρ=>put d x (eG ws ρ)
def gp:List (Nat×AV)→List (Nat×AV)
 |[]=>[]
 |(d,_)::ws=>(d,AV.undef)::gp ws
noncomputable def uI (AP:FuncId→Option aJ) (Fin:cV→St→Option (AV×ae)) (c:Bool) (t:Nat) (b:Bool) (d:Nat) (op:bX) (l:List bz) (ks:List K) (ρ:Nat→AV) (m:ae):Option (AV×ae):=
 cond (c==b) (dv AP Fin (⟨some d,none,op⟩::l) ks ⟨put t (.v (.bool b)) ρ,m⟩) (dv AP Fin l ks ⟨put d AV.undef (put t (.v (.bool !b)) ρ),m⟩)
theorem Wo {d:Nat} {op:bX} {t:Nat} {b:Bool}:dv AP Fin (⟨some d,some (t,b),op⟩::rest) ks ⟨ρ,m⟩=
  lC (ρ t) (fun c=>uI AP Fin c t b d op rest ks ρ m) (dv AP Fin rest ks ⟨put d AV.undef ρ,m⟩):=by
 rw[Fw]
 congr 1
 funext c
 cases c<;>cases b<;>rfl
theorem ae7 {d t:Nat} {op:bX}:uI AP Fin true t true d op rest ks ρ m=dv AP Fin (⟨some d,none,op⟩::rest) ks ⟨put t (.v (.bool true)) ρ,m⟩:=rfl
theorem ae6 {d t:Nat} {op:bX}:uI AP Fin false t false d op rest ks ρ m=dv AP Fin (⟨some d,none,op⟩::rest) ks ⟨put t (.v (.bool false)) ρ,m⟩:=rfl
theorem ae5 {d t:Nat} {op:bX}:uI AP Fin false t true d op rest ks ρ m=dv AP Fin rest ks ⟨put d AV.undef (put t (.v (.bool false)) ρ),m⟩:=rfl
theorem ae4 {d t:Nat} {op:bX}:uI AP Fin true t false d op rest ks ρ m=dv AP Fin rest ks ⟨put d AV.undef (put t (.v (.bool true)) ρ),m⟩:=rfl
theorem ahc {t:Nat} {x:AV} {m':ae}:qB AP Fin (some t) rest ks ρ (some (x,m'))=dv AP Fin rest ks ⟨put t x ρ,m'⟩:=rfl
theorem aq9 {t:Nat} {x y:AV}:put t x (put t y ρ)=put t x ρ:=by
 funext u;unfold put;by_cases h:u=t<;>simp[h]
theorem GR {d t:Nat} {x y:AV} (h:(d==t)=false):put d x (put t y ρ)=put t y (put d x ρ):=by
 have h:d≠t:=by simpa using h
 funext u
 unfold put
 by_cases h1:u=d
 ·subst h1;simp[h]
 ·by_cases h2:u=t
  ·subst h2;simp[h1]
  ·simp[h1,h2]
def qa (c b:Bool):List (Nat×AV)→List (Nat×AV)
 |[]=>[]
 |(d,x)::ws=>(d,cond b (cond c x AV.undef) (cond c AV.undef x))::qa c b ws
theorem Qv (c b:Bool):∀ws:List (Nat×AV),qa c b ws=cond (c==b) ws (gp ws)
 |[]=>by cases c<;>cases b<;>rfl
 |(d,x)::ws=>by rw[qa,Qv c b ws];cases c<;>cases b<;>rfl
structure GF where
 c:Bool
 t:Nat
 b:Bool
 ws:List (Nat×AV)
def lJ:List GF→(Nat→AV)→Nat→AV
 |[],ρ=>ρ
 |f::fs,ρ=>put f.t (.v (.bool f.b)) (eG f.ws (lJ fs ρ))
def jr:List GF→Bool
 |[]=>true
 |f::fs=>jr fs&&(f.c==f.b)
def iP:List GF→(Nat→AV)→Nat→AV
 |[],ρ=>ρ
 |f::fs,ρ=>cond (jr fs) (cond (f.c==f.b) (put f.t (.v (.bool f.b)) (eG f.ws (iP fs ρ))) (put f.t (.v (.bool !f.b)) (eG (gp f.ws) (iP fs ρ)))) (eG (gp f.ws) (iP fs ρ))
def eU (t:Nat):List (Nat×AV)→Bool
 |[]=>false
 |(d,_)::ws=>decide (t=d)||eU t ws
def lookW (t:Nat):List (Nat×AV)→AV
 |[]=>AV.undef
 |(d,x)::ws=>if t=d then x else lookW t ws
def okF:List GF→Bool
 |[]=>true
 |[_]=>true
 |f::g::fs=>eU f.t g.ws&&!decide (f.t=g.t)&&okF (g::fs)
theorem HQ:∀{fs:List GF} {ρ:Nat→AV},jr fs=true→iP fs ρ=lJ fs ρ
 |[],_,_=>rfl
 |f::fs,ρ,h=>by
  simp only[jr,dB]at h
  simp only[iP,lJ,h.1,h.2,fZ,HQ h.1]
theorem YH {t:Nat}:∀{ws:List (Nat×AV)} {ρ:Nat→AV},eU t ws=true→eG ws ρ t=lookW t ws
 |[],_,h=>by simp[eU]at h
 | (d, x) :: ws, ρ, h => by
  simp only[eG,put,lookW]
  by_cases e:t=d
  ·rw[ak e,ak e]
  ·rw[aq e,aq e]
   simp only[eU,e,qs,mV]at h
   exact YH h
theorem Lc {t:Nat}:∀{ws:List (Nat×AV)} {ρ:Nat→AV},eU t ws=true→eG (gp ws) ρ t=AV.undef
 |[],_,h=>by simp[eU]at h
 | (d, x) :: ws, ρ, h => by
  simp only[gp,eG,put]
  by_cases e:t=d
  ·rw[ak e]
  ·rw[aq e]
   simp only[eU,e,qs,mV]at h
   exact Lc h
theorem aa7 {t:Nat}:∀{ws:List (Nat×AV)} {ρ:Nat→AV},ρ t=AV.undef→eG (gp ws) ρ t=AV.undef
 |[],_,h=>h
 |(d,x)::ws,ρ,h=>by
  simp only[gp,eG,put]
  by_cases e:t=d
  ·rw[ak e]
  ·rw[aq e];exact aa7 h
theorem apf {f g:GF} {fs:List GF} {ρ:Nat→AV} (h:okF (f::g::fs)=true) (ho:jr (g::fs)=false):iP (g::fs) ρ f.t=AV.undef:=by
 simp only[okF,dB,xI,rJ]at h
 simp only[jr]at ho
 simp only[iP]
 cases h1:jr fs with
 |true=>
  rw[h1]at ho
  simp only[iq]at ho
  simp only[ho,fZ,iy,put]
  rw[aq h.1.2]
  exact Lc h.1.1
 |false=>
  simp only[iy]
  exact Lc h.1.1
noncomputable def gP (AP:FuncId→Option aJ) (Fin:cV→St→Option (AV×ae)) (fs:List GF) (l:List bz) (ks:List K) (ρ:Nat→AV) (m:ae):Option (AV×ae):=dv AP Fin l ks ⟨iP fs ρ,m⟩
noncomputable def qA (AP:FuncId→Option aJ) (Fin:cV→St→Option (AV×ae)) (f:GF) (fs:List GF) (d:Nat) (l:List bz) (ks:List K) (ρ:Nat→AV) (m:ae) (r:Option (AV×ae)):Option (AV×ae):=
 cond (jr (f::fs)) (qB AP Fin (some d) l ks (lJ (f::fs) ρ) r) (dv AP Fin l ks ⟨put d AV.undef (iP (f::fs) ρ),m⟩)
theorem Wn {f:GF} {fs:List GF} {d:Nat} {op:bX} (h:okF (f::fs)=true):gP AP Fin (f::fs) (⟨some d,some (f.t,f.b),op⟩::rest) ks ρ m=qA AP Fin f fs d rest ks ρ m (aN (aw AP) (aE (lJ (f::fs) ρ)) m op):=by
 unfold gP qA
 cases ha:jr (f::fs)with
 | true =>
  rw[HQ ha,Fw]
  have hg:lJ (f::fs) ρ f.t=.v (.bool f.b):=by simp[lJ,put]
  have hp:put f.t (.v (.bool f.b)) (lJ (f::fs) ρ)=lJ (f::fs) ρ:=by
   funext u;unfold put;by_cases e:u=f.t
   ·subst e;rw[ak rfl,hg]
   ·rw[aq e]
  rw[hg,KN]
  cases hb:f.b<;>rw[hb]at hp<;>simp only[fZ,iy,Wp]<;>rw[hp]
 | false =>
  simp only[iy]
  rw[Fw]
  have hg:iP (f::fs) ρ f.t=AV.undef∨iP (f::fs) ρ f.t=.v (.bool !f.b):=by
   cases h1:jr fs with
   |true=>
    simp only[jr,h1,iq]at ha
    right
    simp[iP,h1,ha,put]
   |false=>
    left
    simp only[iP,h1,iy]
    cases fs with
    |nil=>simp[jr]at h1
    |cons g fs=>exact aa7 (apf h h1)
  rcases hg with hg|hg
  ·rw[hg];rfl
  ·have hp:put f.t (.v (.bool !f.b)) (iP (f::fs) ρ)=iP (f::fs) ρ:=by
    funext u;unfold put;by_cases e:u=f.t
    ·subst e;rw[ak rfl,hg]
    ·rw[aq e]
   rw[hg,KN]
   cases hb:f.b<;>rw[hb]at hp<;>simp only[kL,mW,fZ,iy]at hp⊢<;>rw[hp]<;>rfl
theorem Wj {f:GF} {fs:List GF} {d:Nat} {x:AV} (h:(decide (d=f.t))=false):qA AP Fin f fs d rest ks ρ m (some (x,m))=gP AP Fin (⟨f.c,f.t,f.b,(d,x)::f.ws⟩::fs) rest ks ρ m:=by
 have h':(d==f.t)=false:=by simpa using h
 unfold qA gP
 cases ha:jr (f::fs)with
 |true=>
  have JK:jr (⟨f.c,f.t,f.b,(d,x)::f.ws⟩::fs)=true:=ha
  rw[HQ JK]
  simp only[fZ,ahc,lJ,eG]
  rw[GR h']
 | false =>
  simp only[iy,iP]
  cases h1:jr fs with
  |true=>
   simp only[jr,h1,iq]at ha
   simp only[fZ,ha,iy,gp,eG]
   rw[GR h']
  |false=>simp only[iy,gp,eG]
theorem arc {ws vs:List (Nat×AV)}:eG (ws++vs) ρ=eG ws (eG vs ρ):=by
 induction ws with
 |nil=>rfl
 |cons p ws ih=>obtain⟨d,x⟩:=p;simp only[kq,eG,ih]
theorem atj {ws vs:List (Nat×AV)}:gp (ws++vs)=gp ws++gp vs:=by
 induction ws with
 |nil=>rfl
 |cons p ws ih=>obtain⟨d,x⟩:=p;simp only[kq,gp,ih]
theorem aa8 {c b:Bool}:∀{ws:List (Nat×AV)},gp (qa c b ws)=gp ws
 |[]=>rfl
 |(d,x)::ws=>by simp only[qa,gp,aa8]
theorem BV {t:Nat} {x:AV}:∀{ws:List (Nat×AV)} {ρ:Nat→AV},eU t ws=false→put t x (eG ws ρ)=eG ws (put t x ρ)
 |[],_,_=>rfl
 |(d,y)::ws,ρ,h=>by
  simp only[eU,Ll,rJ]at h
  simp only[eG]
  rw[GR (by simpa using h.1),BV h.2]
theorem JM {t:Nat}:∀{ws:List (Nat×AV)},eU t (gp ws)=eU t ws
 |[]=>rfl
 |(d,y)::ws=>by simp only[gp,eU,JM]
theorem QT {t:Nat} {x:AV} (h:ρ t=x):put t x ρ=ρ:=by
 funext u;unfold put;by_cases e:u=t
 ·subst e;rw[ak rfl,h]
 ·rw[aq e]
theorem agM {f g:GF} {fs:List GF} (l:List bz) (h:okF (f::g::fs)=true) (hw:eU f.t f.ws=false) (hv:eU g.t f.ws=false):
  gP AP Fin (f::g::fs) l ks ρ m=gP AP Fin (⟨g.c,g.t,g.b,qa f.c f.b f.ws++(f.t,.v (.bool f.c))::g.ws⟩::fs) l ks ρ m:=by
 simp only[okF,dB,xI,rJ]at h
 have aB:(f.t==g.t)=false:=by simpa using h.1.2
 have hu:=Lc (t:=f.t) (ws:=g.ws) (ρ:=iP fs ρ) h.1.1
 have hp:put f.t AV.undef (eG (gp g.ws) (iP fs ρ))=eG (gp g.ws) (iP fs ρ):=QT hu
 unfold gP
 congr 2
 simp only[iP,jr,atj,arc,gp,eG,aa8,hp]
 cases h1:jr fs with
 |false=>simp only[jL,iy]
 | true =>
  simp only[iq,fZ]
  cases h2:g.c==g.b with
  |false=>
   simp only[iy]
   exact(BV (ws:=gp f.ws) (by rw[JM];exact hv)).symm
  | true =>
   simp only[fZ,Qv]
   cases h3:f.c==f.b with
   |true=>
    simp only[fZ]
    have e:f.c=f.b:=by simpa using h3
    rw[e,←BV (ws:=f.ws) hv,GR aB,BV (ws:=f.ws) hw]
   |false=>
    simp only[iy]
    have e:f.c=!f.b:=by cases hc:f.c<;>cases hb:f.b<;>simp_all
    rw[e,←BV (ws:=gp f.ws) (by rw[JM];exact hv),GR aB,BV (ws:=gp f.ws) (by rw[JM];exact hw)]
theorem Wl {f:GF} (l:List bz):gP AP Fin [f] l ks ρ m=dv AP Fin l ks ⟨put f.t (.v (.bool f.c)) (eG (qa f.c f.b f.ws) ρ),m⟩:=by
 unfold gP
 congr 2
 simp only[iP,jr,fZ,Qv]
 cases hc:f.c<;>cases hb:f.b<;>rfl
theorem agN {f:GF} {fs:List GF} {c:Bool} {t:Nat} {b:Bool} (l:List bz) (ht:eU t f.ws=true) (aB:decide (t=f.t)=false) (hc:lookW t f.ws=.v (.bool c)):
  gP AP Fin (f::fs) l ks ρ m=gP AP Fin (⟨c,t,b,[]⟩::f::fs) l ks ρ m:=by
 have aB:t≠f.t:=by simpa using aB
 unfold gP
 congr 2
 simp only[iP.eq_2 ρ ⟨c,t,b,[]⟩,eG,gp]
 cases ha:jr (f::fs)with
 |false=>rfl
 | true =>
  have hv:iP (f::fs) ρ t=.v (.bool c):=by
   rw[HQ ha]
   simp only[lJ,put]
   rw[aq aB,YH ht,hc]
  simp only[fZ]
  cases hb:c==b with
  |true=>have e:c=b:=(by simpa using hb);subst e;exact(QT hv).symm
  |false=>have e:c=!b:=(by cases c<;>cases b<;>simp_all);subst e;exact(QT hv).symm
noncomputable def tt (AP:FuncId→Option aJ) (Fin:cV→St→Option (AV×ae)) (fs:List GF) (l:List bz) (ks:List K) (ρ:Nat→AV) (m:ae):Option (AV×ae):=
 match fs with
 |f::g::r=>gP AP Fin (⟨g.c,g.t,g.b,qa f.c f.b f.ws++(f.t,.v (.bool f.c))::g.ws⟩::r) l ks ρ m
 |[f]=>dv AP Fin l ks ⟨put f.t (.v (.bool f.c)) (eG (qa f.c f.b f.ws) ρ),m⟩
 |[]=>dv AP Fin l ks ⟨ρ,m⟩
def oq:List GF→Bool
 |f::g::_=>!eU f.t f.ws&&!eU g.t f.ws
 |_=>true
theorem A1 {fs:List GF} (l:List bz) (h:(okF fs&&oq fs)=true):gP AP Fin fs l ks ρ m=tt AP Fin fs l ks ρ m:=by
 rw[dB]at h
 match fs with
 |[]=>rfl
 |[f]=>exact Wl l
 |f::g::r=>
  have hp:=h.2
  simp only[oq,dB,xI]at hp
  exact agM l h.1 hp.1 hp.2
theorem agH {c:Bool} {t:Nat} {b:Bool} {ws:List (Nat×AV)} {fs:List GF} {d t':Nat} {b':Bool} {op:bX} (h:(okF (⟨c,t,b,ws⟩::fs)&&oq (⟨c,t,b,ws⟩::fs))=true):
  gP AP Fin (⟨c,t,b,ws⟩::fs) (⟨some d,some (t',b'),op⟩::rest) ks ρ m=
   if t'=t∧b'=b then qA AP Fin ⟨c,t,b,ws⟩ fs d rest ks ρ m (aN (aw AP) (aE (lJ (⟨c,t,b,ws⟩::fs) ρ)) m op)
   else if t'≠t∧eU t' ws=true then lC (lookW t' ws) (fun c'=>gP AP Fin (⟨c',t',b',[]⟩::⟨c,t,b,ws⟩::fs) (⟨some d,some (t',b'),op⟩::rest) ks ρ m) (tt AP Fin (⟨c,t,b,ws⟩::fs) (⟨some d,some (t',b'),op⟩::rest) ks ρ m)
   else tt AP Fin (⟨c,t,b,ws⟩::fs) (⟨some d,some (t',b'),op⟩::rest) ks ρ m:=by
 by_cases h1:t'=t∧b'=b
 ·rw[ak h1]
  obtain⟨rfl,rfl⟩:=h1
  exact Wn (f:=⟨c,t',b',ws⟩) (by rw[dB]at h;exact h.1)
 ·rw[aq h1]
  by_cases h2:t'≠t∧eU t' ws=true
  ·rw[ak h2]
   unfold lC
   split
   ·rename_i c' hc
    exact agN _ h2.2 (by simpa using h2.1) hc
   ·exact A1 _ h
  ·rw[aq h2]
   exact A1 _ h
theorem agI {c:Bool} {t:Nat} {b:Bool} {ws:List (Nat×AV)} {fs:List GF} {d t':Nat} {b':Bool} {op:bX} (h:(okF (⟨c,t,b,ws⟩::fs)&&oq (⟨c,t,b,ws⟩::fs))=true):
  gP AP Fin (⟨c,t,b,ws⟩::fs) (⟨some d,some (t',b'),op⟩::rest) ks ρ m=
   if t'=t∧b'=b then qA AP Fin ⟨c,t,b,ws⟩ fs d rest ks ρ m (aN (aw AP) (aE (lJ (⟨c,t,b,ws⟩::fs) ρ)) m op)
   else if t'=t then tt AP Fin (⟨c,t,b,ws⟩::fs) (⟨some d,some (t',b'),op⟩::rest) ks ρ m
   else cond (eU t' ws) (lC (lookW t' ws) (fun c'=>gP AP Fin (⟨c',t',b',[]⟩::⟨c,t,b,ws⟩::fs) (⟨some d,some (t',b'),op⟩::rest) ks ρ m) (tt AP Fin (⟨c,t,b,ws⟩::fs) (⟨some d,some (t',b'),op⟩::rest) ks ρ m))
    (tt AP Fin (⟨c,t,b,ws⟩::fs) (⟨some d,some (t',b'),op⟩::rest) ks ρ m):=by
 rw[agH h]
 by_cases h1:t'=t∧b'=b
 ·rw[ak h1,ak h1]
 ·rw[aq h1,aq h1]
  by_cases h2:t'=t
  ·rw[ak h2,aq (fun e=>e.1 h2)]
  ·rw[aq h2]
   cases h3:eU t' ws
   ·simp[h2]
   ·simp[h2]
theorem agF {f:GF} {fs:List GF} {d:Nat} {r r':Option (AV×ae)} (h:(f.c==f.b)=false):qA AP Fin f fs d rest ks ρ m r=qA AP Fin f fs d rest ks ρ m r':=by
 unfold qA
 have:jr (f::fs)=false:=by simp only[jr,h,nI]
 rw[this];rfl
theorem Wm {f:GF} {fs:List GF} {d t':Nat} {b':Bool} {op:bX} (h:(okF (f::fs)&&oq (f::fs))=true) (hd:decide (d=f.t)=false) (ho:(f.c==f.b)=false):
  gP AP Fin (f::fs) (⟨some d,some (t',b'),op⟩::rest) ks ρ m=
   if t'=f.t∧b'=f.b then gP AP Fin (⟨f.c,f.t,f.b,(d,AV.undef)::f.ws⟩::fs) rest ks ρ m else tt AP Fin (f::fs) (⟨some d,some (t',b'),op⟩::rest) ks ρ m:=by
 by_cases h1:t'=f.t∧b'=f.b
 ·rw[ak h1]
  obtain⟨rfl,rfl⟩:=h1
  rw[Wn (by rw[dB]at h;exact h.1),agF ho (r':=some (AV.undef,m)),Wj hd]
 ·rw[aq h1]
  exact A1 _ h
theorem agL {t:Nat} {ws:List (Nat×AV)} {fs:List GF} {d t':Nat} {b':Bool} {op:bX} (h:(okF (⟨false,t,true,ws⟩::fs)&&oq (⟨false,t,true,ws⟩::fs))=true) (hd:decide (d=t)=false):
  gP AP Fin (⟨false,t,true,ws⟩::fs) (⟨some d,some (t',b'),op⟩::rest) ks ρ m=
   if t'=t∧b'=true then gP AP Fin (⟨false,t,true,(d,AV.undef)::ws⟩::fs) rest ks ρ m else tt AP Fin (⟨false,t,true,ws⟩::fs) (⟨some d,some (t',b'),op⟩::rest) ks ρ m:=Wm (f:=⟨false,t,true,ws⟩) h hd rfl
theorem agK {t:Nat} {ws:List (Nat×AV)} {fs:List GF} {d t':Nat} {b':Bool} {op:bX} (h:(okF (⟨true,t,false,ws⟩::fs)&&oq (⟨true,t,false,ws⟩::fs))=true) (hd:decide (d=t)=false):
  gP AP Fin (⟨true,t,false,ws⟩::fs) (⟨some d,some (t',b'),op⟩::rest) ks ρ m=
   if t'=t∧b'=false then gP AP Fin (⟨true,t,false,(d,AV.undef)::ws⟩::fs) rest ks ρ m else tt AP Fin (⟨true,t,false,ws⟩::fs) (⟨some d,some (t',b'),op⟩::rest) ks ρ m:=Wm (f:=⟨true,t,false,ws⟩) h hd rfl
theorem aic {t:Nat}:eU t []=false:=rfl
theorem aib {t d:Nat} {x:AV} {ws:List (Nat×AV)}:eU t ((d,x)::ws)=if t=d then true else eU t ws:=by
 rw[eU.eq_2];by_cases h:t=d<;>simp[h]
theorem aoD {t d:Nat} {x:AV} {ws:List (Nat×AV)}:lookW t ((d,x)::ws)=if t=d then x else lookW t ws:=.trans rfl rfl
theorem api {f:GF}:okF [f]=true:=rfl
theorem apj {c c':Bool} {t t':Nat} {b b':Bool} {ws vH:List (Nat×AV)} {fs:List GF}:okF (⟨c,t,b,ws⟩::⟨c',t',b',vH⟩::fs)=cond (eU t vH) (if t=t' then false else okF (⟨c',t',b',vH⟩::fs)) false:=by
 rw[okF.eq_3];simp only;cases eU t vH<;>by_cases h:t=t'<;>simp[h]
theorem apk {f:GF}:oq [f]=true:=rfl
theorem apl {c c':Bool} {t t':Nat} {b b':Bool} {ws vH:List (Nat×AV)} {fs:List GF}:oq (⟨c,t,b,ws⟩::⟨c',t',b',vH⟩::fs)=cond (eU t ws) false (cond (eU t' ws) false true):=by
 show(!eU t ws&&!eU t' ws)=_;cases eU t ws<;>cases eU t' ws<;>rfl
theorem ab4:lJ [] ρ=ρ:=rfl
theorem ab1 {c:Bool} {t:Nat} {b:Bool} {ws:List (Nat×AV)} {fs:List GF}:lJ (⟨c,t,b,ws⟩::fs) ρ=put t (.v (.bool b)) (eG ws (lJ fs ρ)):=rfl
theorem agJ {c:Bool} {t:Nat} {b:Bool} {ws:List (Nat×AV)} {t':Nat} {b':Bool} {op:bX}:gP AP Fin [⟨c,t,b,ws⟩] (⟨none,some (t',b'),op⟩::rest) ks ρ m=
  cond (c==b) (dv AP Fin (⟨none,some (t',b'),op⟩::rest) ks ⟨put t (.v (.bool b)) (eG ws ρ),m⟩) (dv AP Fin (⟨none,some (t',b'),op⟩::rest) ks ⟨put t (.v (.bool !b)) (eG (gp ws) ρ),m⟩):=by
 unfold gP
 simp only[iP,jr,fZ]
 cases c==b<;>rfl
theorem agG {c:Bool} {t:Nat} {b:Bool} {ws:List (Nat×AV)} {d:Nat} {x:AV} {m':ae}:qA AP Fin ⟨c,t,b,ws⟩ [] d rest ks ρ m (some (x,m'))=cond (c==b) (dv AP Fin rest ks ⟨put d x (put t (.v (.bool b)) (eG ws ρ)),m'⟩) (dv AP Fin rest ks ⟨put d AV.undef (put t (.v (.bool !b)) (eG (gp ws) ρ)),m⟩):=by
 unfold qA
 simp only[jr,iq,iP,lJ,fZ]
 cases c==b<;>rfl
theorem ae2 {c:Bool} {d t:Nat} {b:Bool} {op:bX}:uI AP Fin c t b d op rest ks ρ m=gP AP Fin [⟨c,t,b,[]⟩] (⟨some d,some (t,b),op⟩::rest) ks ρ m:=by
 unfold uI
 rw[Wl]
 simp only[qa,eG]
 rw[Wo]
 have e:put t (.v (.bool c)) ρ t=.v (.bool c):=by simp[put]
 rw[e,KN]
 unfold uI
 cases c<;>cases b<;>simp[aq9]
section
variable{c:Bool} {t:Nat} {b:Bool} {ws:List (Nat×AV)} {fs:List GF} {d t':Nat} {b':Bool} {op:bX}
noncomputable def nj (AP:FuncId→Option aJ) (Fin:cV→St→Option (AV×ae)) (c:Bool) (t:Nat) (b:Bool) (ws:List (Nat×AV)) (fs:List GF) (l:List bz) (ks:List K) (ρ:Nat→AV) (m:ae):Option (AV×ae):=gP AP Fin (⟨c,t,b,ws⟩::fs) l ks ρ m
noncomputable def Fv (AP:FuncId→Option aJ) (Fin:cV→St→Option (AV×ae)) (c:Bool) (t:Nat) (b:Bool) (ws:List (Nat×AV)) (fs:List GF) (d:Nat) (l:List bz) (ks:List K) (ρ:Nat→AV) (m:ae) (r:Option (AV×ae)):Option (AV×ae):=qA AP Fin ⟨c,t,b,ws⟩ fs d l ks ρ m r
noncomputable def pN (AP:FuncId→Option aJ) (Fin:cV→St→Option (AV×ae)) (c:Bool) (t:Nat) (b:Bool) (ws:List (Nat×AV)) (fs:List GF) (l:List bz) (ks:List K) (ρ:Nat→AV) (m:ae):Option (AV×ae):=tt AP Fin (⟨c,t,b,ws⟩::fs) l ks ρ m
theorem agU {c':Bool} {l:List bz} (h:c=c'):nj AP Fin c t b ws fs l ks ρ m=nj AP Fin c' t b ws fs l ks ρ m:=by rw[h]
theorem agR {r r':Option (AV×ae)} (h:r=r'):Fv AP Fin c t b ws fs d rest ks ρ m r=Fv AP Fin c t b ws fs d rest ks ρ m r':=by rw[h]
theorem agQ {l:List bz}:pN AP Fin c t b ws fs l ks ρ m=pN AP Fin c t b ws fs l ks ρ m:=rfl
theorem ae3:uI AP Fin c t b d op rest ks ρ m=nj AP Fin c t b [] [] (⟨some d,some (t,b),op⟩::rest) ks ρ m:=ae2
noncomputable def GQ (AP:FuncId→Option aJ) (Fin:cV→St→Option (AV×ae)) (x:AV) (t':Nat) (b':Bool) (c:Bool) (t:Nat) (b:Bool) (ws:List (Nat×AV)) (fs:List GF) (l:List bz) (ks:List K) (ρ:Nat→AV) (m:ae):Option (AV×ae):=
 lC x (fun c'=>nj AP Fin c' t' b' [] (⟨c,t,b,ws⟩::fs) l ks ρ m) (pN AP Fin c t b ws fs l ks ρ m)
theorem aq5 {c':Bool} {l:List bz}:GQ AP Fin (.v (.bool c')) t' b' c t b ws fs l ks ρ m=nj AP Fin c' t' b' [] (⟨c,t,b,ws⟩::fs) l ks ρ m:=rfl
theorem aq6 {l:List bz}:GQ AP Fin AV.undef t' b' c t b ws fs l ks ρ m=pN AP Fin c t b ws fs l ks ρ m:=rfl
theorem aq4 {x x':AV} {l:List bz} (h:x=x'):GQ AP Fin x t' b' c t b ws fs l ks ρ m=GQ AP Fin x' t' b' c t b ws fs l ks ρ m:=by rw[h]
theorem agV (h:(okF (⟨c,t,b,ws⟩::fs)&&oq (⟨c,t,b,ws⟩::fs))=true):
  nj AP Fin c t b ws fs (⟨some d,some (t',b'),op⟩::rest) ks ρ m=
   if t'=t∧b'=b then Fv AP Fin c t b ws fs d rest ks ρ m (aN (aw AP) (aE (lJ (⟨c,t,b,ws⟩::fs) ρ)) m op)
   else if t'=t then pN AP Fin c t b ws fs (⟨some d,some (t',b'),op⟩::rest) ks ρ m
   else if eU t' ws=true then GQ AP Fin (lookW t' ws) t' b' c t b ws fs (⟨some d,some (t',b'),op⟩::rest) ks ρ m
   else pN AP Fin c t b ws fs (⟨some d,some (t',b'),op⟩::rest) ks ρ m:=by
 refine(agI h).trans ?_
 by_cases h1:t'=t∧b'=b
 ·rw[ak h1,ak h1];rfl
 ·rw[aq h1,aq h1]
  by_cases h2:t'=t
  ·rw[ak h2,ak h2];rfl
  ·rw[aq h2,aq h2]
   cases h3:eU t' ws
   ·rw[aq (by simp)];rfl
   ·rw[ak rfl];rfl
theorem ag1 (h:(okF (⟨false,t,true,ws⟩::fs)&&oq (⟨false,t,true,ws⟩::fs))=true) (hd:decide (d=t)=false):
  nj AP Fin false t true ws fs (⟨some d,some (t',b'),op⟩::rest) ks ρ m=
   if t'=t∧b'=true then nj AP Fin false t true ((d,AV.undef)::ws) fs rest ks ρ m else pN AP Fin false t true ws fs (⟨some d,some (t',b'),op⟩::rest) ks ρ m:=agL h hd
theorem ag0 (h:(okF (⟨true,t,false,ws⟩::fs)&&oq (⟨true,t,false,ws⟩::fs))=true) (hd:decide (d=t)=false):
  nj AP Fin true t false ws fs (⟨some d,some (t',b'),op⟩::rest) ks ρ m=
   if t'=t∧b'=false then nj AP Fin true t false ((d,AV.undef)::ws) fs rest ks ρ m else pN AP Fin true t false ws fs (⟨some d,some (t',b'),op⟩::rest) ks ρ m:=agK h hd
theorem agZ {d:Option Nat} (h:(okF (⟨c,t,b,ws⟩::fs)&&oq (⟨c,t,b,ws⟩::fs))=true):nj AP Fin c t b ws fs (⟨d,none,op⟩::rest) ks ρ m=pN AP Fin c t b ws fs (⟨d,none,op⟩::rest) ks ρ m:=A1 _ h
theorem agX {g:GF} (h:(okF (⟨c,t,b,ws⟩::g::fs)&&oq (⟨c,t,b,ws⟩::g::fs))=true):nj AP Fin c t b ws (g::fs) (⟨none,some (t',b'),op⟩::rest) ks ρ m=pN AP Fin c t b ws (g::fs) (⟨none,some (t',b'),op⟩::rest) ks ρ m:=A1 _ h
theorem agY:nj AP Fin c t b ws [] (⟨none,some (t',b'),op⟩::rest) ks ρ m=
  cond (c==b) (dv AP Fin (⟨none,some (t',b'),op⟩::rest) ks ⟨put t (.v (.bool b)) (eG ws ρ),m⟩) (dv AP Fin (⟨none,some (t',b'),op⟩::rest) ks ⟨put t (.v (.bool !b)) (eG (gp ws) ρ),m⟩):=agJ
theorem agW (h:(okF (⟨c,t,b,ws⟩::fs)&&oq (⟨c,t,b,ws⟩::fs))=true):nj AP Fin c t b ws fs [] ks ρ m=pN AP Fin c t b ws fs [] ks ρ m:=A1 _ h
theorem agO {l:List bz}:pN AP Fin c t b ws [] l ks ρ m=dv AP Fin l ks ⟨put t (.v (.bool c)) (eG (qa c b ws) ρ),m⟩:=rfl
theorem agP {c':Bool} {vH:List (Nat×AV)} {l:List bz}:pN AP Fin c t b ws (⟨c',t',b',vH⟩::fs) l ks ρ m=nj AP Fin c' t' b' (qa c b ws++(t,.v (.bool c))::vH) fs l ks ρ m:=rfl
theorem agT {x:AV} (h:(decide (d=t))=false):Fv AP Fin c t b ws fs d rest ks ρ m (some (x,m))=nj AP Fin c t b ((d,x)::ws) fs rest ks ρ m:=Wj h
theorem agS {x:AV} {m':ae}:Fv AP Fin c t b ws [] d rest ks ρ m (some (x,m'))=cond (c==b) (dv AP Fin rest ks ⟨put d x (put t (.v (.bool b)) (eG ws ρ)),m'⟩) (dv AP Fin rest ks ⟨put d AV.undef (put t (.v (.bool !b)) (eG (gp ws) ρ)),m⟩):=agG
end
theorem ahb {t:Nat} {x:AV} {m':ae}:qB AP Fin (some t) rest ks ρ (some (x,m'))=dv AP Fin rest ks ⟨put t x ρ,m'⟩:=rfl
theorem ag9 {x:AV} {m':ae}:qB AP Fin none rest ks ρ (some (x,m'))=dv AP Fin rest ks ⟨ρ,m'⟩:=rfl
theorem aha {d:Option Nat}:qB AP Fin d rest ks ρ none=none:=rfl
theorem ag7 {d:Option Nat} {c:Bool} {x y:Option (AV×ae)}:qB AP Fin d rest ks ρ (cond c x y)=cond c (qB AP Fin d rest ks ρ x) (qB AP Fin d rest ks ρ y):=by cases c<;>rfl
theorem ag8 {d:Option Nat} {r r':Option (AV×ae)} (h:r=r'):qB AP Fin d rest ks ρ r=qB AP Fin d rest ks ρ r':=by rw[h]
theorem ag3:dv AP Fin rest ks st=dv AP Fin rest ks st:=rfl
theorem go_congr:go AP Fin ks st=go AP Fin ks st:=rfl
theorem aL {f:FuncId} {np nt:Nat} {b:au} {rs:List il} {own:Bool} (hf:AP f=some (.code np nt b rs own)) {as:List AV} {s:ae} (hl:as.length=np):
  aw AP (.fn f) as s=go AP (aW rs own) [.c b] ⟨jy as,s.push ⟨[],[]⟩⟩:=by
 rw[adF hf,ak hl]
 simp only[go,iR]
 cases h:fw AP b ⟨jy as,s.push ⟨[],[]⟩⟩with
 |none=>rfl
 |some p=>obtain⟨e,aQ⟩:=p;cases e<;>rfl
end
section
variable{ρ:Nat→AV} {m:ae} {s:ae} {call:aZ}
theorem afo {t:Nat}:aE ρ (.tmp t)=ρ t:=.trans rfl rfl
theorem afn {x:AV}:aE ρ (.const x)=x:=.trans rfl rfl
theorem aq8 {t u:Nat} {x:AV}:put t x ρ u=if u=t then x else ρ u:=.trans rfl rfl
theorem acK {x:AV} {r:List AV}:jy (x::r) 0=x:=.trans rfl rfl
theorem acL {x:AV} {r:List AV} {n:Nat}:jy (x::r) (n+1)=jy r n:=.trans rfl rfl
theorem ap6 {x:aF}:aN call (aE ρ) m (.move x)=some (aE ρ x,m):=.trans rfl rfl
theorem ap8 {c a b:aF}:aN call (aE ρ) m (.pick c a b)=(GO (aE ρ c) (aE ρ a) (aE ρ b)).map (·,m):=.trans rfl rfl
theorem apu {z:AV} {zs:List AV}:aN call (aE ρ) m (.alloc (z::zs))=some (m.dz (z::zs)):=.trans rfl rfl
theorem aqa {n:Nat}:aN call (aE ρ) m (.lG n)=some (AV.undef,m.lG n):=.trans rfl rfl
theorem KP {q:Nat} {g:Bool} {n:Nat} {x:aF}:aN call (aE ρ) m (.fS q g n x)=(xq m q g n (aE ρ x)).map (·,m):=.trans rfl rfl
theorem QD {q n:Nat} {x y:aF}:aN call (aE ρ) m (.fill q n x y)=(yD m q n (aE ρ x) (aE ρ y)).map (AV.undef,·):=.trans rfl rfl
theorem QG {b:Nat} {zs:List AV}:aN call (aE ρ) m (.slot b zs)=mg m b zs:=.trans rfl rfl
theorem apA {n:Nat} {x:aF}:aN call (aE ρ) m (.box n x)=yh m n (aE ρ x):=.trans rfl rfl
theorem apB {zs:List AV} {ps:List (Nat×Nat×aF)}:aN call (aE ρ) m (.build zs ps)=(nb zs (aE ρ) ps).map fun cs=>(.agg cs,m):=.trans rfl rfl
theorem apD {es:Nat} {rows:List (List AV)} {ps:List (Nat×aF)}:aN call (aE ρ) m (.buildSlice es rows ps)=(mo rows (aE ρ) ps).map fun rs=>(.slice .full es rs,m):=.trans rfl rfl
theorem QE {g:Bool} {n:Nat} {x:aF}:aN call (aE ρ) m (.load g n x)=(m.load g n (aE ρ x)).map (·,m):=.trans rfl rfl
theorem aqf {n:Nat} {x y:aF}:aN call (aE ρ) m (.store n x y)=(m.store n (aE ρ x) (aE ρ y)).map (AV.undef,·):=.trans rfl rfl
theorem ap7 {x:aF}:aN call (aE ρ) m (.nilCheck x)=(zz (aE ρ x)).map (·,m):=.trans rfl rfl
theorem apz {op:BinOp} {x y:aF}:aN call (aE ρ) m (.arith op x y)=(dy op (aE ρ x) (aE ρ y)).map (·,m):=.trans rfl rfl
theorem apP {neg:Bool} {k:Hj} {x y:aF}:aN call (aE ρ) m (.eqv neg k x y)=(oK k (aE ρ x) (aE ρ y)).map fun t=>(.v (.bool (if neg then !t else t)),m):=.trans rfl rfl
theorem aqg {op:UnOp} {x:aF}:aN call (aE ρ) m (.un op x)=(unOp op (aE ρ x)).map (·,m):=.trans rfl rfl
theorem apN {k:Hi} {x:aF}:aN call (aE ρ) m (.conv k x)=(mr k (aE ρ x)).map (·,m):=.trans rfl rfl
theorem ap3 {t:TypeId} {x:aF}:aN call (aE ρ) m (.KE t x)=(Kq t (aE ρ x)).map (·,m):=.trans rfl rfl
theorem ap2 {f:FuncId} {first caps:List aF}:aN call (aE ρ) m (.om f first caps)=if(first.map (aE ρ)).all AV.vm then some (.fn f (first.map (aE ρ)) (caps.map (aE ρ)),m)else none:=.trans rfl rfl
theorem ap5 {es:Nat} {zs:List AV} {len cap:aF}:aN call (aE ρ) m (.BO es zs len cap)=GJ m es zs (aE ρ len) (aE ρ cap):=.trans rfl rfl
theorem ap4 {es:Nat} {zs:List AV} {len cap:aF}:aN call (aE ρ) m (.mkSlice es zs len cap)=BN m es zs (aE ρ len) (aE ρ cap):=.trans rfl rfl
theorem aqc {k:Cv} {x:aF} {lo hi mx:Option aF}:aN call (aE ρ) m (.slice k x lo hi mx)=(iH k (aE ρ x) (qt (aE ρ) lo) (qt (aE ρ) hi) (qt (aE ρ) mx)).map (·,m):=.trans rfl rfl
theorem apT {off:Nat} {x:aF}:aN call (aE ρ) m (.fieldAddr off x)=(BU off (aE ρ x)).map (·,m):=.trans rfl rfl
theorem apW {arr:Option Nat} {es:Nat} {x i:aF}:aN call (aE ρ) m (.indexAddr arr es x i)=(kG arr es (aE ρ x) (aE ρ i)).map (·,m):=.trans rfl rfl
theorem apX {x i:aF}:aN call (aE ρ) m (.Gy x i)=(BA (aE ρ x) (aE ρ i)).map (·,m):=.trans rfl rfl
theorem apV {n es:Nat} {g:Bool} {x i:aF}:aN call (aE ρ) m (.index n es g x i)=(Gx n es g (aE ρ x) (aE ρ i)).map (·,m):=.trans rfl rfl
theorem apS {g:Bool} {n off:Nat} {x:aF}:aN call (aE ρ) m (.field g n off x)=(Fq g n off (aE ρ x)).map (·,m):=.trans rfl rfl
theorem apQ {i:Nat} {x:aF}:aN call (aE ρ) m (.extract i x)=(yB i (aE ρ x)).map (·,m):=.trans rfl rfl
theorem apE {ro:Bool} {f:FuncId} {as:List aF}:aN call (aE ρ) m (.call ro f as)=dF call ro m (.fn f) (as.map (aE ρ)):=.trans rfl rfl
theorem apR {ro:Bool} {zs:List (List AV)} {f:FuncId} {as:List aF}:aN call (aE ρ) m (.rK ro zs f as)=nh call ro m zs (.fn f) (as.map (aE ρ)):=.trans rfl rfl
theorem apG {f:FuncId} {as:List aF}:aN call (aE ρ) m (.wy f as)=dF call false m (.inl f) (as.map (aE ρ)):=.trans rfl rfl
theorem apH {f:FuncId} {as:List aF}:aN call (aE ρ) m (.wz f as)=dF call true m (.nat f) (as.map (aE ρ)):=.trans rfl rfl
theorem apI {f:FuncId} {as:List aF}:aN call (aE ρ) m (.th f as)=ng call m f (as.map (aE ρ)):=.trans rfl rfl
theorem apK {ro:Bool} {x:aF} {as:List aF}:aN call (aE ρ) m (.jZ ro x as)=lL call ro m (aE ρ x) (as.map (aE ρ)):=.trans rfl rfl
theorem QF {agg:Bool} {n:Nat} {x:aF}:aN call (aE ρ) m (.jH agg n x)=(zr m agg n (aE ρ x)).map (·,m):=.trans rfl rfl
theorem apw {es:Nat} {x y:aF}:aN call (aE ρ) m (.vZ es x y)=x6 m es (aE ρ x) (aE ρ y):=.trans rfl rfl
theorem apy {es:Nat} {x y:aF}:aN call (aE ρ) m (.v7 es x y)=v8 m es (aE ρ x) (aE ρ y):=.trans rfl rfl
theorem apO {x y:aF}:aN call (aE ρ) m (.copy x y)=AK m (aE ρ x) (aE ρ y):=.trans rfl rfl
theorem apC {es:Nat} {row:List AV} {t:Nat}:aN call (aE ρ) m (.yi es row t)=yj m es row (ρ t):=.trans rfl rfl
theorem apv {es:Nat} {x y:aF}:aN call (aE ρ) m (.append es x y)=eD m es (aE ρ x) (aE ρ y):=.trans rfl rfl
theorem apY {b:Bool} {x:aF}:aN call (aE ρ) m (.len b x)=(mN b (aE ρ x)).map (·,m):=.trans rfl rfl
theorem apZ {n:Nat}:aN call (aE ρ) m (.BG n)=some (.v (.int .i64 n),m):=.trans rfl rfl
theorem ap1 {mx:Bool} {xs:List aF}:aN call (aE ρ) m (.GI mx xs)=(sF mx (xs.map (aE ρ))).map (·,m):=.trans rfl rfl
theorem aeU {t:Target} {as:List AV}:dF call false m t as=call t as m:=.trans rfl rfl
def cT (m:ae):ae:={m with ro:=m.ag.length,bo:=m.loops.length}
theorem vu:Ok (cT m):=⟨aH _,aH _⟩
theorem aeV {t:Target} {as:List AV}:dF call true m t as=(call t as (cT m)).map fun p=>(p.1,m):=.trans rfl rfl
theorem ad1 {f:FuncId} {a b as:List AV} {ro:Bool}:lL call ro m (.fn f a b) as=dF call ro m (.fn f) (a++as++b):=.trans rfl rfl
theorem ad2 {l:Nat} {as:List AV} {ro:Bool}:lL call ro m (.yield l) as=dF call ro m (.yield l) as:=.trans rfl rfl
theorem aqC {c:Bool} {a b:AV}:GO (.v (.bool c)) a b=some (cond c a b):=by cases c<;>rfl
theorem ao2 {r:Rec} {cs:List AV}:(s.push r).dz cs=(.ptr s.ag.length r.boxes.length 0,s.push ⟨r.boxes++[cs],r.toks⟩):=by
 rw[ae.dz,fD,xw,CD]
def kB:Nat→List AV→Bool
 |0,[]=>true
 |n+1,x::r=>x.bt&&kB n r
 |_,_=>false
theorem qw:∀{n:Nat} {l:List AV},kB n l=true↔l.length=n∧l.all AV.bt=true
 |0,[]=>by simp[kB]
 |0,_::_=>by simp[kB]
 |n+1,[]=>by simp[kB]
 |n+1,x::r=>by simp only[kB,dB,qw (n:=n) (l:=r),dO,vK];constructor<;>(rintro⟨h1,h2,h3⟩;exact⟨by omega,by simp_all⟩)
theorem adi {n:Nat} {y:AV}:yh m (n+1) y=cond (kB (n+1) y.cells) (some (m.dz y.cells)) none:=by
 unfold yh
 cases h:kB (n+1) y.cells with
 |true=>rw[ak ⟨(qw.1 h).1,(qw.1 h).2,Nat.succ_pos n⟩];rfl
 |false=>rw[aq (fun e=>by rw[qw.2 ⟨e.1,e.2.1⟩]at h;cases h)];rfl
theorem arK {r:Rec} {n:Nat}:(s.push r).lG n=s.push ⟨r.boxes++List.replicate n [],r.toks⟩:=by
 rw[ae.lG,fD,zA]
def K6 (bs:List (List AV)) (tk:List (Option Nat)) (back:Nat) (zs:List AV):Option (Nat×List (List AV)):=
 if tk.any Option.isNone then none else
 match bs[bs.length-back]? with
 |some []=>if zs.isEmpty then none else some (bs.length-back,bs.set (bs.length-back) zs)
 |_=>none
theorem apa (s:ae) (r:Rec):(s.push r).lB s.ag.length=r.toks.any Option.isNone:=by simp[ae.push,ae.lB]
theorem asQ {r:Rec} {back:Nat} {zs:List AV}:mg (s.push r) back zs=(K6 r.boxes r.toks back zs).map fun p=>(.ptr s.ag.length p.1 0,s.push ⟨p.2,r.toks⟩):=by
 obtain⟨bs,tk⟩:=r
 unfold mg K6
 simp only[fD,xw,iu,Rp,apa]
 cases hq:tk.any Option.isNone with
 | false =>
  simp only[ef,zC,cE]
  split
  ·rename_i h;rw[h];simp only;split<;>rfl
  ·rename_i h
   split
   ·rename_i h';exact absurd h' (by simpa using h)
   ·rfl
 |true=>
  simp only[or_true,bB]
  split<;>rfl
theorem aoz {g:Bool} {n d b off:Nat}:m.load g n (.ptr d b off)=(m.box d b).bind fun cs=>part g n cs off:=by
 simp only[ae.load,ae.row]
 cases m.box d b<;>rfl
theorem eO {d b:Nat} {cs:List AV} (h:m.box d b=some cs) (r:Rec):(m.push r).box d b=some cs:=by
 simp only[ae.box,ae.push]at h⊢
 rw[dC]
 ·exact h
 ·apply qh
  intro hn
  rw[nL (by omega)]at h
  cases h
theorem aoA {g:Bool} {n off:Nat} {cs:List AV}:m.load g n (.bq cs off)=part g n cs off:=rfl
theorem aqs {n off:Nat} {cs:List AV}:part false n cs off=cs[off]? :=rfl
def qq:Nat→Nat→List AV→Option (List AV)
 |0,0,_=>some []
 |0,n+1,x::r=>(qq 0 n r).map (x::·)
 |off+1,n,_::r=>qq off n r
 |_,_,[]=>none
theorem Ji:∀(off n:Nat) (cs:List AV),qq off n cs=if off+n≤cs.length then some ((cs.drop off).take n)else none
 |0,0,_=>by simp[qq]
 |0,n+1,[]=>by simp[qq]
 |0,n+1,x::r=>by
  have:=Ji 0 n r
  simp only[qq,this,kt,dO,Sq,fB]
  by_cases h:n≤r.length
  ·rw[ak h,ak (by omega)];rfl
  ·rw[aq h,aq (by omega)];rfl
 |off+1,n,[]=>by simp[qq]
 |off+1,n,x::r=>by
  have:=Ji off n r
  simp only[qq,this,dO,R6]
  by_cases h:off+n≤r.length
  ·rw[ak h,ak (by omega)]
  ·rw[aq h,aq (by omega)]
theorem aqu {n off:Nat} {cs:List AV}:part true n cs off=(qq off n cs).map .agg:=by
 rw[Ji];unfold part;by_cases h:off+n≤cs.length<;>simp[h]
def l7:List AV→Nat→List AV→Option (List AV)
 |row,0,[]=>some row
 |_::row,0,c::cs=>(l7 row 0 cs).map (c::·)
 |x::row,off+1,cs=>(l7 row off cs).map (x::·)
 |[],_,_=>none
theorem Rq (x:AV):∀(cs:List AV) (row:List AV) (off:Nat),setCells (x::row) (off+1) cs=x::setCells row off cs
 |[],_,_=>rfl
 |c::cs,row,off=>by simp only[setCells,Sn];exact Rq x cs _ _
theorem vw:∀(row:List AV) (off:Nat) (cs:List AV),l7 row off cs=if off+cs.length≤row.length then some (setCells row off cs)else none
 |row,0,[]=>by simp[l7,setCells]
 |[],0,c::cs=>by simp[l7]
 |x::row,0,c::cs=>by
  simp only[l7,vw row 0 cs,setCells,HA,dO,fB]
  by_cases h:cs.length≤row.length
  ·rw[ak h,ak (by omega)];simp[Rq c cs row 0]
  ·rw[aq h,aq (by omega)];rfl
 |[],off+1,cs=>by simp[l7]
 |x::row,off+1,cs=>by
  simp only[l7,vw row off cs,dO,Rq]
  by_cases h:off+cs.length≤row.length
  ·rw[ak h,ak (by omega)];rfl
  ·rw[aq h,aq (by omega)];rfl
theorem ro_le {r:Rec} (h:Ok s):(s.push r).ro≤s.ag.length:=h.ro
theorem as1 {r:Rec} {n b off:Nat} {y:AV} (h:Ok s):
  (s.push r).store n (.ptr s.ag.length b off) y=cond (kB n y.cells) (((r.boxes[b]?).bind fun row=>l7 row off y.cells).map fun row=>s.push ⟨r.boxes.set b row,r.toks⟩) none:=by
 cases hy:kB n y.cells with
 |false=>
  have:¬(y.cells.length=n∧y.cells.all AV.bt=true):=fun e=>by rw[qw.2 e]at hy;cases hy
  simp only[ae.store,iy]
  rw[aq (fun e=>this e.2)]
 | true =>
  have hy:=qw.1 hy
  simp only[ae.store,fZ]
  rw[ak ⟨ro_le h,hy.1,hy.2⟩,fD,ak rfl]
  simp only[iu]
  cases r.boxes[b]? with
  |none=>rfl
  |some row=>
   simp only[eK,vw,hy.1]
   by_cases hq:off+n≤row.length
   ·simp only[ak hq,Rp,dK]
   ·simp only[aq hq,Option.map_none]
theorem agb {cs:List AV} {off size:Nat} {x:AV}:AU cs off size x=cond (kB size x.cells) (l7 cs off x.cells) none:=by
 unfold AU
 cases h:kB size x.cells with
 |true=>
  have:=qw.1 h
  rw[fZ,vw,this.1]
  by_cases hq:off+size≤cs.length
  ·rw[ak ⟨rfl,hq,this.2⟩,ak hq]
  ·rw[aq (fun e=>hq e.2.1),aq hq]
 |false=>rw[aq (fun e=>by rw[qw.2 ⟨e.1,e.2.2⟩]at h;cases h)];rfl
theorem adp {cs:List AV} {f:aF→AV}:nb cs f []=some cs:=rfl
theorem ado {cs:List AV} {f:aF→AV} {off size:Nat} {x:aF} {r:List (Nat×Nat×aF)}:nb cs f ((off,size,x)::r)=(cond (kB size (f x).cells) (l7 cs off (f x).cells) none).bind fun cs'=>nb cs' f r:=by
 rw[←agb];simp only[nb];cases AU cs off size (f x)<;>rfl
theorem ads {rows:List (List AV)} {f:aF→AV}:mo rows f []=some rows:=rfl
def GW:List AV→List AV→Bool
 |[],[]=>true
 |_::a,_::b=>GW a b
 |_,_=>false
theorem aap:∀(a b:List AV),GW a b=decide (a.length=b.length)
 |[],[]=>rfl
 |[],_::_=>rfl
 |_::_,[]=>rfl
 |_::a,_::b=>by simp[GW,aap a b]
theorem adr {rows:List (List AV)} {f:aF→AV} {i:Nat} {x:aF} {r:List (Nat×aF)}:mo rows f ((i,x)::r)=(rows[i]?).bind fun row=>(closeAll (f x).cells).bind fun cs=>cond (GW cs row) (mo (rows.set i cs) f r) none:=by
 simp only[mo,aap]
 cases rows[i]? with
 |none=>rfl
 |some row=>cases closeAll (f x).cells with
  |none=>rfl
  |some cs=>by_cases h:cs.length=row.length<;>simp[h]
theorem oH:closeAll []=some []:=rfl
theorem mq {x:AV} {r:List AV}:closeAll (x::r)=x.close.bind fun y=>(closeAll r).map fun s=>y::s:=by
 simp only[closeAll];cases x.close<;>cases closeAll r<;>rfl
theorem pK {k:IntKind} {n:Int}:AV.close (.v (.int k n))=some (.v (.int k n)):=rfl
theorem aep {b:Bool}:AV.close (.v (.bool b))=some (.v (.bool b)):=rfl
theorem NG {b:ByteArray}:AV.close (.v (.string b))=some (.v (.string b)):=rfl
theorem aes {es:Nat} {xs:List (List AV)}:AV.close (.slice .aA es xs)=some (.slice .aA es xs):=rfl
theorem aeo {es:Nat} {xs:List (List AV)}:AV.close (.slice .any es xs)=some (.slice .any es xs):=rfl
theorem aer {es:Nat} {xs:List (List AV)}:AV.close (.slice .full es xs)=some (.slice .full es xs):=rfl
theorem aeu {d g es:Nat} {xs:List (List AV)}:AV.close (.slice (.tok d g) es xs)=some (.slice .any es xs):=rfl
theorem aq3 {off d b o:Nat}:BU off (.ptr d b o)=some (.ptr d b (o+off)):=rfl
theorem aq2 {off o:Nat} {cs:List AV}:BU off (.bq cs o)=some (.bq cs (o+off)):=rfl
end
end Go.Ax.Sx
/-
  The rules to compute with, as one set.
-/
namespace Go.Ax.Sx
attribute [go_sem ↓] fZ iy go_skip ahk go_ret ahh ahm go_region aho ahi ag6 Wp Wo ae7 ae6 ae5 ae4 ag5 ag4 ahe ahf ahd
attribute [go_sem] ahn ahg ahj ahb ag9 aha ag7 KN
attribute [go_sem ↓ low] ae3
attribute [go_sem high] ag1 ag0
attribute [go_sem] aq5 aq6 agV agZ agX agY agW agO agP agT eG gp qa aic aib aoD api apj apk apl ab4 ab1
attribute [go_sem low] agS
attribute [congr] aq4 agU agR agQ apm ag8 ag3 go_congr
attribute [go_sem ↓] afo afn aq8 acK acL
attribute [go_sem ↓] ap6 ap8 apu aqa QG KP QF QD apA apB apD QE aqf ap7 apz apP aqg apN ap3 ap2 ap4 ap5 aqc apT apW apX apV apS apQ apE apR apG apH apI apK apv apy apw apO apC apY apZ ap1
attribute [go_sem] aeV vu Ok.push aeU ad1 ad2 aqC ao2 arK asQ aoz iu aoA aqs aqu as1 kB qq l7 aq3 aq2 adi
section
variable{a b:Int} {c d:Bool}
theorem acq:dy .add (.v (.int .i64 a)) (.v (.int .i64 b))=some (.v (.int .i64 (IntKind.i64.wrap (a+b)))):=rfl
theorem acJ:dy .sub (.v (.int .i64 a)) (.v (.int .i64 b))=some (.v (.int .i64 (IntKind.i64.wrap (a-b)))):=rfl
theorem acD:dy .mul (.v (.int .i64 a)) (.v (.int .i64 b))=some (.v (.int .i64 (IntKind.i64.wrap (a*b)))):=rfl
theorem S4 (h:(b==0)=false):dy .quo (.v (.int .i64 a)) (.v (.int .i64 b))=some (.v (.int .i64 (IntKind.i64.wrap (a.tdiv b)))):=by
 have:b≠0:=by simpa using h
 simp[dy,p6,sB,this]
theorem S6 (h:(b==0)=false):dy .rem (.v (.int .i64 a)) (.v (.int .i64 b))=some (.v (.int .i64 (a.tmod b))):=by
 have:b≠0:=by simpa using h
 simp[dy,p6,sB,this]
theorem acr:dy .eql (.v (.int .i64 a)) (.v (.int .i64 b))=some (.v (.bool (decide (a=b)))):=by
 simp only[dy,p6,sB];by_cases h:a=b<;>simp[h]
theorem acE:dy .neq (.v (.int .i64 a)) (.v (.int .i64 b))=some (.v (.bool (decide (a≠b)))):=by
 simp only[dy,p6,sB];by_cases h:a=b<;>simp[h]
theorem acB:dy .lss (.v (.int .i64 a)) (.v (.int .i64 b))=some (.v (.bool (decide (a<b)))):=rfl
theorem acz:dy .leq (.v (.int .i64 a)) (.v (.int .i64 b))=some (.v (.bool (decide (a≤b)))):=rfl
theorem acx:dy .gtr (.v (.int .i64 a)) (.v (.int .i64 b))=some (.v (.bool (decide (b<a)))):=rfl
theorem acv:dy .geq (.v (.int .i64 a)) (.v (.int .i64 b))=some (.v (.bool (decide (b≤a)))):=rfl
theorem ati:unOp .not (.v (.bool c))=some (.v (.bool !c)):=rfl
theorem ath:unOp .neg (.v (.int .i64 a))=some (.v (.int .i64 (IntKind.i64.wrap (-a)))):=by simp[unOp]
theorem aoT:sF true [.v (.int .i64 a),.v (.int .i64 b)]=some (.v (.int .i64 (max a b))):=by
 have:(if b>a then b else a)=max a b:=by split<;>omega
 simp only[sF,xt,BK,bB,this]
theorem aoV:sF false [.v (.int .i64 a),.v (.int .i64 b)]=some (.v (.int .i64 (min a b))):=by
 have:(if b<a then b else a)=min a b:=by split<;>omega
 simp[sF,xt,BK,this]
theorem aeO {k k':IntKind}:mr (.int k) (.v (.int k' a))=some (.v (.int k (k.wrap a))):=rfl
theorem acI:dy .shr (.v (.int .u64 a)) (.v (.int .u64 1))=some (.v (.int .u64 (a/2))):=by
 have:a.fdiv 2=a/2:=by rw[abC _ (by decide)]
 simp[dy,p6,tY,IntKind.bits,this]
theorem aoU {c':Int}:sF true [.v (.int .i64 a),.v (.int .i64 b),.v (.int .i64 c')]=some (.v (.int .i64 (max (max a b) c'))):=by
 have h1:(if b>a then b else a)=max a b:=by split<;>omega
 have h2:(if c'>max a b then c' else max a b)=max (max a b) c':=by split<;>omega
 simp only[sF,xt,BK,bB,h1,h2]
theorem afp {x:AV} {r:List AV}:yB 0 (.tuple (x::r))=some x:=rfl
theorem afq {x y:AV} {r:List AV}:yB 1 (.tuple (x::y::r))=some y:=rfl
theorem afr {x y z:AV} {r:List AV}:yB 2 (.tuple (x::y::z::r))=some z:=rfl
theorem aow {o:Own} {es:Nat} {xs:List (List AV)}:mN false (.slice o es xs)=some (.v (.int .i64 xs.length)):=rfl
theorem aox {x:ByteArray}:mN true (.v (.string x))=some (.v (.int .i64 x.size)):=rfl
theorem agd {rs:List il} {own:Bool} {st:St}:aW rs own .normal st=finish rs own st:=rfl
theorem age {rs:List il} {own:Bool} {st:St}:aW rs own .ret st=finish rs own st:=rfl
theorem agj {rs:List il} {st:St}:finish rs false st=(sL st rs).map fun l=>(packed l,st.sig.pop):=rfl
theorem arO {st:St}:sL st []=some []:=rfl
theorem arN {st:St} {r:il} {rest:List il}:sL st (r::rest)=(((sK st r).bind (ed st.sig)).bind fun x=>(sL st rest).map fun s=>x::s):=by
 simp only[sL]
 cases(sK st r).bind (ed st.sig)<;>cases sL st rest<;>rfl
theorem arD {ρ:Nat→AV} {m:ae} {t:Nat}:sK ⟨ρ,m⟩ (.tmp t)=some (ρ t):=rfl
theorem arC {ρ:Nat→AV} {m:ae} {g:Bool} {n t:Nat}:sK ⟨ρ,m⟩ (.cell g n t)=m.load g n (ρ t):=rfl
theorem aqp:packed []=.tuple []:=rfl
theorem aqq {x:AV}:packed [x]=x:=rfl
theorem aqr {x y:AV} {r:List AV}:packed (x::y::r)=.tuple (x::y::r):=rfl
section
variable{m:ae} {x:Value} {cs:List AV}
theorem aod {k:IntKind} {n:Int}:ed m (.v (.int k n))=some (.v (.int k n)):=rfl
theorem an7 {b:Bool}:ed m (.v (.bool b))=some (.v (.bool b)):=rfl
theorem aoi {b:ByteArray}:ed m (.v (.string b))=some (.v (.string b)):=rfl
theorem an5:ed m (.agg cs)=(pk m cs).map .agg:=rfl
theorem aoe {es:Nat} {xs:List (List AV)}:ed m (.slice .aA es xs)=some (.slice .aA es xs):=rfl
theorem an6 {es:Nat} {xs:List (List AV)}:ed m (.slice .any es xs)=some (.slice .any es xs):=rfl
theorem aoc {es:Nat} {xs:List (List AV)}:ed m (.slice .full es xs)=some (.slice .full es xs):=rfl
theorem aoj {d g es:Nat} {xs:List (List AV)}:ed m (.slice (.tok d g) es xs)=some (.slice .any es xs):=rfl
theorem aou:pk m []=some []:=rfl
theorem leaves_cons {x:AV} {r:List AV}:pk m (x::r)=(ez m x).bind fun y=>(pk m r).map fun s=>y::s:=by
 simp only[pk]
 cases ez m x<;>cases pk m r<;>rfl
theorem aon {k:IntKind} {n:Int}:ez m (.v (.int k n))=some (.v (.int k n)):=rfl
theorem aol {b:Bool}:ez m (.v (.bool b))=some (.v (.bool b)):=rfl
theorem aos {b:ByteArray}:ez m (.v (.string b))=some (.v (.string b)):=rfl
theorem aoo {es:Nat} {xs:List (List AV)}:ez m (.slice .aA es xs)=some (.slice .aA es xs):=rfl
theorem aok {es:Nat} {xs:List (List AV)}:ez m (.slice .any es xs)=some (.slice .any es xs):=rfl
theorem aom {es:Nat} {xs:List (List AV)}:ez m (.slice .full es xs)=some (.slice .full es xs):=rfl
theorem aot {d g es:Nat} {xs:List (List AV)}:ez m (.slice (.tok d g) es xs)=some (.slice .any es xs):=rfl
end
end
attribute [go_sem] aeO acI acq acJ acD S4 S6 acr acE acB acz acx acv ati ath aoT aoU aoV afp afq afr aow aox
attribute [go_sem] agd age agj arO arN arD arC aqp aqq aqr aod an7 aoi an5 aoe an6 aoc aoj aou leaves_cons aon aol aos aoo aok aom aot
attribute [go_sem] pop_push dK eK Option.map_none Option.bind_none iM nO kN kq AV.cells dO iK AV.bt vK Ck sQ iq Hr Lx kt R6 Sq LC HA Sn adp ado ads adr GW oH mq pK aep NG aes aeo aer aeu
section
variable{o:Own} {es:Nat} {xs:List (List AV)} {k:Nat} {row:List AV}
theorem GB (h:xs[k]? =some row):kG none es (.slice o es xs) (.v (.int .i64 (k:Int)))=some (.bq row 0):=by
 have hk:k<xs.length:=(bd.1 h).1
 have:(0:Int)≤(k:Int)∧(k:Int)<(xs.length:Int):=by omega
 simp only[kG,bB,idx,ak this,eK,Ci,h,dK]
theorem idx_eq {k:IntKind} {n:Int} {len:Nat}:idx (.v (.int k n)) len=if 0≤n∧n<len then some n.toNat else none:=rfl
theorem akI {n es:Nat} {g:Bool} {cs:List AV} {j:AV}:Gx n es g (.agg cs) j=(idx j n).bind fun k=>part g es cs (k*es):=rfl
theorem af8 {n off:Nat} {g:Bool} {cs:List AV}:Fq g n off (.agg cs)=part g n cs off:=rfl
theorem akv {n d b off es:Nat} {j:AV}:kG (some n) es (.ptr d b off) j=(idx j n).map fun k=>.ptr d b (off+k*es):=rfl
theorem aku {n off es:Nat} {cs:List AV} {j:AV}:kG (some n) es (.bq cs off) j=(idx j n).map fun k=>.bq cs (off+k*es):=rfl
theorem atG (x:Int):IntKind.i64.wrap x=if 9223372036854775808≤x%18446744073709551616 then x%18446744073709551616-18446744073709551616 else x%18446744073709551616:=by
 have e1:((2:Int)^(64:Nat))=18446744073709551616:=by decide
 have e2:((2:Int)^(64-1:Nat))=9223372036854775808:=by decide
 show(if(true&&decide (x%(2:Int)^(64:Nat)≥(2:Int)^(64-1:Nat)))=true then x%(2:Int)^(64:Nat)-(2:Int)^(64:Nat)else x%(2:Int)^(64:Nat))=_
 simp only[e1,e2,iq,dY,ge_iff_le]
theorem bW {x:Int} (h1:-9223372036854775808≤x) (h2:x<9223372036854775808):IntKind.i64.wrap x=x:=by
 rw[atG];split<;>omega
theorem bK {k n:Nat} (h:k<n) (hn:(n:Int)<9223372036854775808):IntKind.i64.wrap ((k:Int)+1)=((k+1:Nat):Int):=by
 rw[bW]<;>omega
end
section
variable{c:Bool} {x y z:AV} {a b:Bool} {n k:Int}
theorem ad6:cond c (cond c x y) z=cond c x z:=by cases c<;>rfl
theorem ad7:cond c x (cond c y z)=cond c x z:=by cases c<;>rfl
theorem ad3:cond c (AV.v (.bool a)) (AV.v (.bool b))=.v (.bool (cond c a b)):=by cases c<;>rfl
theorem ad5:cond c (AV.v (.int .i64 n)) (AV.v (.int .i64 k))=.v (.int .i64 (cond c n k)):=by cases c<;>rfl
theorem ad4:cond c a false=(c&&a):=by cases c<;>simp
theorem ad8:cond c true a=(c||a):=by cases c<;>simp
end
attribute [go_sem] bW idx_eq akI af8 akv aku and_true K9 na kL mW Uo Bool.cond_self oJ qs ad6 ad7 ad3 ad5 ad4 ad8
end Go.Ax.Sx
/-
  How plain data look to the executor; loops over slices.
-/
namespace Go.Ax.Sx
abbrev I (n:Int):AV:=.v (.int .i64 n)
abbrev B (b:Bool):AV:=.v (.bool b)
def P1 (x:Int):Prop:=-9223372036854775808≤x∧x<9223372036854775808
def ints (l:List Int):List (List AV):=l.map fun n=>[I n]
theorem akO {l:List Int}:(ints l).length=l.length:=by simp[ints]
theorem akN {l:List Int} {k:Nat} {x:Int} (h:l[k]? =some x):(ints l)[k]? =some [I x]:=by simp[ints,h]
section
variable{AP:FuncId→Option aJ} {F:cV→St→Option (AV×ae)} {L:au} {ks:List K}
theorem ck (N:Nat) (P:Nat→(Nat→AV)→ae→Prop) (R:Nat→Option (AV×ae))
  (step:∀k ρ m,k<N→P k ρ m→(∀ρ' m',P (k+1) ρ' m'→go AP F (.c (.loop L)::ks) ⟨ρ',m'⟩=R (k+1))→go AP F (.c L::.lp L::ks) ⟨ρ,m⟩=R k)
  (last:∀ρ m,P N ρ m→go AP F (.c L::.lp L::ks) ⟨ρ,m⟩=R N):
  ∀k ρ m,k≤N→P k ρ m→go AP F (.c (.loop L)::ks) ⟨ρ,m⟩=R k:=by
 intro k ρ m hk hP
 induction h:N-k generalizing k ρ m with
 |zero=>
  have e:k=N:=by omega
  subst e
  rw[go_loop];exact last ρ m hP
 |succ n ih=>
  rw[go_loop]
  exact step k ρ m (by omega) hP (fun ρ' m' uT=>ih (k+1) ρ' m' (by omega) uT (by omega))
theorem Ql (hi:Int) (P:Int→(Nat→AV)→ae→Prop) (R:Int→Option (AV×ae))
  (step:∀i ρ m,i≤hi→P i ρ m→(∀ρ' m',P (i+1) ρ' m'→go AP F (.c (.loop L)::ks) ⟨ρ',m'⟩=R (i+1))→go AP F (.c L::.lp L::ks) ⟨ρ,m⟩=R i)
  (last:∀i ρ m,hi<i→P i ρ m→go AP F (.c L::.lp L::ks) ⟨ρ,m⟩=R i):
  ∀i ρ m,P i ρ m→go AP F (.c (.loop L)::ks) ⟨ρ,m⟩=R i:=by
 intro i ρ m hP
 induction h:(hi+1-i).toNat generalizing i ρ m with
 |zero=>rw[go_loop];exact last i ρ m (by omega) hP
 |succ n ih=>
  rw[go_loop]
  exact step i ρ m (by omega) hP (fun ρ' m' uT=>ih (i+1) ρ' m' uT (by omega))
theorem YJ (N:Nat) (P:Nat→(Nat→AV)→ae→Prop) (R:Option (AV×ae)→Prop)
  (step:∀k ρ m,k<N→P k ρ m→(∀ρ' m',P (k+1) ρ' m'→R (go AP F (.c (.loop L)::ks) ⟨ρ',m'⟩))→R (go AP F (.c L::.lp L::ks) ⟨ρ,m⟩))
  (last:∀ρ m,P N ρ m→R (go AP F (.c L::.lp L::ks) ⟨ρ,m⟩)):
  ∀k ρ m,k≤N→P k ρ m→R (go AP F (.c (.loop L)::ks) ⟨ρ,m⟩):=by
 intro k ρ m hk hP
 induction h:N-k generalizing k ρ m with
 |zero=>
  have e:k=N:=by omega
  subst e
  rw[go_loop];exact last ρ m hP
 |succ n ih=>
  rw[go_loop]
  exact step k ρ m (by omega) hP (fun ρ' m' uT=>ih (k+1) ρ' m' (by omega) uT (by omega))
theorem aoE (hi:Int) (P:Int→(Nat→AV)→ae→Prop) (R:Option (AV×ae)→Prop)
  (step:∀i ρ m,i≤hi→P i ρ m→(∀ρ' m',P (i+1) ρ' m'→R (go AP F (.c (.loop L)::ks) ⟨ρ',m'⟩))→R (go AP F (.c L::.lp L::ks) ⟨ρ,m⟩))
  (last:∀i ρ m,hi<i→P i ρ m→R (go AP F (.c L::.lp L::ks) ⟨ρ,m⟩)):
  ∀i ρ m,P i ρ m→R (go AP F (.c (.loop L)::ks) ⟨ρ,m⟩):=by
 intro i ρ m hP
 induction h:(hi+1-i).toNat generalizing i ρ m with
 |zero=>rw[go_loop];exact last i ρ m (by omega) hP
 |succ n ih=>
  rw[go_loop]
  exact step i ρ m (by omega) hP (fun ρ' m' uT=>ih (i+1) ρ' m' uT (by omega))
theorem eP {α:Type} {l:List α} {k:Nat} {x:α} (h:l[k]? =some x):l.drop k=x::l.drop (k+1):=by
 have hk:=(bd.1 h).1
 rw[List.drop_eq_getElem_cons hk];congr 1
 exact(bd.1 h).2
theorem get_some {α:Type} {l:List α} {k:Nat} (h:k<l.length):∃x,l[k]? =some x:=⟨l[k],cM h⟩
theorem fT {α:Type} {l:List α} {k:Nat} {x:α} (h:l[k]? =some x):l.take (k+1)=l.take k++[x]:=by
 rw[List.take_add_one,h];rfl
theorem aS {k n:Nat} (h:k<n):decide ((k:Int)<(n:Int))=true:=by simp;omega
theorem bM (n:Nat):decide ((n:Int)<(n:Int))=false:=by simp
end
theorem dec_lt (a b:Int):decide (b<a)=!decide (a≤b):=by
 by_cases h:a≤b
 ·simp[h]
 ·simp[h];omega
section
variable{α:Type} {l r:List α} {x x1 x2 x3 y:α}
theorem at_len:(l++x::r)[l.length]? =some x:=by simp
theorem rD:(l++x1::x::r)[l.length+1]? =some x:=by simp
theorem acQ:(l++x1::x2::x::r)[l.length+1+1]? =some x:=by
 rw[gD (by omega)];simp[show l.length+1+1-l.length=2 by omega]
theorem acR:(l++x1::x2::x3::x::r)[l.length+1+1+1]? =some x:=by
 rw[gD (by omega)];simp[show l.length+1+1+1-l.length=3 by omega]
theorem mT:(l++x::r).set l.length y=l++y::r:=by simp
theorem ri:(l++x1::x::r).set (l.length+1) y=l++x1::y::r:=by
 rw[Hz _ _ (by omega)];simp
theorem asz:(l++x1::x2::x::r).set (l.length+1+1) y=l++x1::x2::y::r:=by
 rw[Hz _ _ (by omega)];simp[show l.length+1+1-l.length=2 by omega]
theorem asA:(l++x1::x2::x3::x::r).set (l.length+1+1+1) y=l++x1::x2::x3::y::r:=by
 rw[Hz _ _ (by omega)];simp[show l.length+1+1+1-l.length=3 by omega]
theorem qV:(l++[x]).length=l.length+1:=by simp
theorem BH:(l++[x,x1]).length=l.length+1+1:=by simp
theorem aov:(l++[x,x1,x2]).length=l.length+1+1+1:=by simp
end
attribute [go_sem] at_len rD acQ acR mT ri asz asA qV BH aov gW
def bG (es:Nat):List (List AV)→AV
 |[]=>.slice .aA 0 []
 |x::r=>.slice .any es (x::r)
def Acc (d es:Nat) (xs:List (List AV)) (x:AV) (og:Option Nat) (toks:List (Option Nat)):Prop:=
 match og with
 |none=>xs=[]∧x=.slice .aA 0 []
 |some g=>xs≠[]∧x=.slice (.tok d g) es xs∧toks[g]? =some (some xs.length)
theorem Acc.start {d es:Nat} {toks:List (Option Nat)}:Acc d es [] (.slice .aA 0 []) none toks:=⟨rfl,rfl⟩
theorem Acc.append {s:ae} {es:Nat} {xs:List (List AV)} {x:AV} {og:Option Nat} {toks:List (Option Nat)} (h:Acc s.ag.length es xs x og toks) (hs:Ok s) (o:Own) {ys:List (List AV)} (hy:ys≠[]) (hl:xs.length+ys.length≤4294967296):
  ∃x' gl toks',(∀boxes,eD (s.push ⟨boxes,toks⟩) es x (.slice o es ys)=some (x',s.push ⟨boxes,toks'⟩))∧Acc s.ag.length es (xs++ys) x' gl toks'∧gl≠none∧
   (∀oL pz x2 fk,Acc s.ag.length oL pz x2 fk toks→(fk≠og∨fk=none)→Acc s.ag.length oL pz x2 fk toks'∧fk≠gl):=by
 have sy:ys.isEmpty=false:=by cases ys<;>simp_all
 cases og with
 | none =>
  obtain⟨rfl,rfl⟩:=h
  refine⟨.slice (.tok s.ag.length toks.length) es ys,some toks.length,toks++[some ys.length],fun boxes=>?_,⟨by simpa using hy,rfl,by simp⟩,by simp,?_⟩
  ·have:ys.length≤4294967296:=by simpa using hl
   simp[eD,sy,Own.isNil,most,this,qb,oE]
  ·intro oL pz x2 fk h2 _
   cases fk with
   |none=>exact⟨h2,by simp⟩
   |some g=>
    obtain⟨a,b,c⟩:=h2
    have:=(bd.1 c).1
    exact⟨⟨a,b,by rw[dC this];exact c⟩,by simp;omega⟩
 | some g =>
  obtain⟨hx,rfl,hg⟩:=h
  refine⟨.slice (.tok s.ag.length g) es (xs++ys),some g,toks.set g (some (xs.length+ys.length)),fun boxes=>?_,⟨by simp[hx],rfl,?_⟩,by simp,?_⟩
  ·simp[eD,sy,most,hl,Ca,hg,Q8,hs.ro,K5]
  ·rw[mj (bd.1 hg).1];simp
  ·intro oL pz x2 fk h2 aB
   cases fk with
   |none=>exact⟨h2,by simp⟩
   |some g2=>
    obtain⟨a,b,c⟩:=h2
    have aB:g2≠g:=by rcases aB with h|h<;>simp_all
    exact⟨⟨a,b,by rw[eI (fun e=>aB e.symm)];exact c⟩,by simpa using aB⟩
section
variable{d es:Nat} {xs:List (List AV)} {x:AV} {og:Option Nat} {toks:List (Option Nat)}
theorem Acc.leave (h:Acc d es xs x og toks) (m:ae):ed m x=some (bG es xs):=by
 cases og with
 |none=>obtain⟨rfl,rfl⟩:=h;rfl
 |some g=>
  obtain⟨hx,rfl,_⟩:=h
  cases xs with
  |nil=>exact absurd rfl hx
  |cons a r=>rfl
theorem Acc.BF (h:Acc d es xs x og toks) (m:ae):ez m x=some (bG es xs):=by
 cases og with
 |none=>obtain⟨rfl,rfl⟩:=h;rfl
 |some g=>
  obtain⟨hx,rfl,_⟩:=h
  cases xs with
  |nil=>exact absurd rfl hx
  |cons a r=>rfl
theorem Acc.close (h:Acc d es xs x og toks):x.close=some (bG es xs):=by
 cases og with
 |none=>obtain⟨rfl,rfl⟩:=h;rfl
 |some g=>
  obtain⟨hx,rfl,_⟩:=h
  cases xs with
  |nil=>exact absurd rfl hx
  |cons a r=>rfl
theorem Acc.len (h:Acc d es xs x og toks):mN false x=some (.v (.int .i64 xs.length)):=by
 cases og with
 |none=>obtain⟨rfl,rfl⟩:=h;rfl
 |some g=>obtain⟨hx,rfl,_⟩:=h;rfl
theorem Acc.bt (h:Acc d es xs x og toks):x.bt=true:=by
 cases og with
 |none=>obtain⟨rfl,rfl⟩:=h;rfl
 |some g=>obtain⟨hx,rfl,_⟩:=h;rfl
end
def wF:List (List AV)→Own
 |[]=>.full
 |_::_=>.any
def ud (d es:Nat) (xs:List (List AV)) (x:AV) (og:Option Nat) (toks:List (Option Nat)):Prop:=
 match og with
 |none=>xs=[]∧x=.slice .full es []
 |some g=>xs≠[]∧x=.slice (.tok d g) es xs∧toks[g]? =some (some xs.length)
theorem ud.start {d es:Nat} {toks:List (Option Nat)}:ud d es [] (.slice .full es []) none toks:=⟨rfl,rfl⟩
theorem ud.append {s:ae} {es:Nat} {xs:List (List AV)} {x:AV} {og:Option Nat} {toks:List (Option Nat)} (h:ud s.ag.length es xs x og toks) (hs:Ok s) (o:Own) {ys:List (List AV)} (hy:ys≠[]) (hl:xs.length+ys.length≤4294967296):
  ∃x' gl toks',(∀boxes,eD (s.push ⟨boxes,toks⟩) es x (.slice o es ys)=some (x',s.push ⟨boxes,toks'⟩))∧ud s.ag.length es (xs++ys) x' gl toks'∧gl≠none∧
   (∀oL pz x2 fk,ud s.ag.length oL pz x2 fk toks→(fk≠og∨fk=none)→ud s.ag.length oL pz x2 fk toks'∧fk≠gl):=by
 have sy:ys.isEmpty=false:=by cases ys<;>simp_all
 cases og with
 | none =>
  obtain⟨rfl,rfl⟩:=h
  refine⟨.slice (.tok s.ag.length toks.length) es ys,some toks.length,toks++[some ys.length],fun boxes=>?_,⟨by simpa using hy,rfl,by simp⟩,by simp,?_⟩
  ·have:ys.length≤4294967296:=by simpa using hl
   simp[eD,sy,Own.isNil,most,this,qb,oE]
  ·intro oL pz x2 fk h2 _
   cases fk with
   |none=>exact⟨h2,by simp⟩
   |some g=>
    obtain⟨a,b,c⟩:=h2
    have:=(bd.1 c).1
    exact⟨⟨a,b,by rw[dC this];exact c⟩,by simp;omega⟩
 | some g =>
  obtain⟨hx,rfl,hg⟩:=h
  refine⟨.slice (.tok s.ag.length g) es (xs++ys),some g,toks.set g (some (xs.length+ys.length)),fun boxes=>?_,⟨by simp[hx],rfl,?_⟩,by simp,?_⟩
  ·simp[eD,sy,most,hl,Ca,hg,Q8,hs.ro,K5]
  ·rw[mj (bd.1 hg).1];simp
  ·intro oL pz x2 fk h2 aB
   cases fk with
   |none=>exact⟨h2,by simp⟩
   |some g2=>
    obtain⟨a,b,c⟩:=h2
    have aB:g2≠g:=by rcases aB with h|h<;>simp_all
    exact⟨⟨a,b,by rw[eI (fun e=>aB e.symm)];exact c⟩,by simpa using aB⟩
theorem ud.leave {d es:Nat} {xs:List (List AV)} {x:AV} {og:Option Nat} {toks:List (Option Nat)} (h:ud d es xs x og toks) (m:ae):ed m x=some (.slice (wF xs) es xs):=by
 cases og with
 |none=>obtain⟨rfl,rfl⟩:=h;rfl
 |some g=>
  obtain⟨hx,rfl,_⟩:=h
  cases xs with
  |nil=>exact absurd rfl hx
  |cons a r=>rfl
theorem aeE {s:ae} {r:Rec} {es:Nat} {x:AV} {xs:List (List AV)} {o:Own} (hx:x=.slice o es xs) (hl:xs.length≤4294967296):
  ∃x' t',eD (s.push r) es (.slice .full es []) x=some (x',s.push ⟨r.boxes,t'⟩)∧∀m,ed m x'=some (.slice (wF xs) es xs):=by
 subst hx
 cases xs with
 |nil=>exact⟨.slice .full es [],r.toks,by simp[eD],fun m=>rfl⟩
 |cons a l=>
  refine⟨.slice (.tok s.ag.length r.toks.length) es (a::l),r.toks++[some (l.length+1)],?_,fun m=>rfl⟩
  have qH:l.length+1≤4294967296:=by simpa using hl
  simp[eD,Own.isNil,most,qH,qb,oE]
theorem Kx {es k:Nat} {xs:List (List AV)} {row:List AV} (h:xs[k]? =some row):kG none es (bG es xs) (.v (.int .i64 (k:Int)))=some (.bq row 0):=by
 cases xs with
 |nil=>simp at h
 |cons a r=>exact GB h
theorem Qi {es:Nat} {xs:List (List AV)}:mN false (bG es xs)=some (.v (.int .i64 xs.length)):=by cases xs<;>rfl
theorem YA {es:Nat} {xs:List (List AV)} {m:ae}:ed m (bG es xs)=some (bG es xs):=by cases xs<;>rfl
theorem YC {es:Nat} {xs:List (List AV)} {m:ae}:ez m (bG es xs)=some (bG es xs):=by cases xs<;>rfl
theorem aen {es:Nat} {xs:List (List AV)}:(bG es xs).close=some (bG es xs):=by cases xs<;>rfl
theorem Yd {es:Nat} {xs:List (List AV)}:(bG es xs).bt=true:=by cases xs<;>rfl
theorem I7 {es:Nat} {xs:List (List AV)}:(bG es xs).cells=[bG es xs]:=by cases xs<;>rfl
attribute [go_sem] Qi YA YC aen Yd I7
def dk:List Int→Int
 |[]=>0
 |e::r=>if e=0 then dk r else e
end Go.Ax.Sx
/-
  Loops over functions: the rounds.
-/
namespace Go.Ax.Sx
section
variable{AP:FuncId→Option aJ} {Fin:cV→St→Option (AV×ae)} {ks:List K} {ρ:Nat→AV} {m S:ae} {l:Nat} {lp:dx}
noncomputable def A2 (AP:FuncId→Option aJ) (Fin:cV→St→Option (AV×ae)) (l:Nat) (ks:List K) (ρ:Nat→AV) (s:ae):Option (AV×ae):=
 (xo s l).bind fun p=>iR AP Fin ks (p.1.getD .normal) ⟨ρ,p.2⟩
theorem Ob {x:aF} {ps:List Nat} {a b:au} {g:FuncId} {first caps:List AV} (h:aE ρ x=.fn g first caps):
  go AP Fin (.c (.rangeFunc x ps a b)::ks) ⟨ρ,m⟩=(aw AP (.fn g) (first++.yield m.loops.length::caps) (enterLoop m ⟨true,none,ρ,ps,a,b⟩)).bind fun p=>A2 AP Fin m.loops.length ks ρ p.2:=by
 simp only[go,iR,ar2,h,A2]
 cases aw AP (.fn g) (first++.yield m.loops.length::caps) (enterLoop m ⟨true,none,ρ,ps,a,b⟩)with
 |none=>rfl
 |some p=>
  obtain⟨x,s⟩:=p
  simp only[eK]
  cases xo s m.loops.length with
  |none=>rfl
  |some q=>rfl
theorem YB (h:m.loops.length=l) (hr:lp.ready=true∨lp.eF.isSome=true):xo (enterLoop m lp) l=some (lp.eF,m):=by
 subst h
 have:(lp.ready=true∨lp.eF.isSome=true):=hr
 simp[xo,enterLoop,this]
theorem Oa (h:m.loops.length=l) (hr:lp.ready=true) (hp:lp.eF=none):A2 AP Fin l ks ρ (enterLoop m lp)=go AP Fin ks ⟨ρ,m⟩:=by
 rw[A2,YB h (.inl hr),hp];rfl
theorem ag2 (h:m.loops.length=l) (hp:lp.eF=some .ret):A2 AP Fin l ks ρ (enterLoop m lp)=Fin .ret ⟨ρ,m⟩:=by
 rw[A2,YB h (.inr (by simp[hp])),hp]
 exact Fx (ks:=ks)
structure ml (l:Nat) (lp:dx) (S:ae):Prop where
 get:S.loops[l]? =some lp
 ready:lp.ready=true
 eF:lp.eF=none
 bo:S.bo≤l
def busy (l:Nat) (S:ae):ae:=et S l fun p=>{p with ready:=false}
def over (l:Nat) (e:cV) (S:ae):ae:=et S l fun p=>{p with ready:=false,eF:=some e}
theorem adv {d b:Nat}:(busy l S).box d b=S.box d b:=rfl
theorem Ok.busy (h:Ok S):Ok (busy l S):=⟨h.ro,by have:=h.bo;simp[Sx.busy,et];exact this⟩
theorem Ok.over {e:cV} (h:Ok S):Ok (over l e S):=⟨h.ro,by have:=h.bo;simp[Sx.over,et];exact this⟩
theorem Ok.enter (h:Ok S):Ok (enterLoop S lp):=⟨h.ro,by have:=h.bo;simp[enterLoop];omega⟩
theorem ae8 {d b:Nat}:(enterLoop S lp).box d b=S.box d b:=rfl
theorem Rr {r:Rec} {f:dx→dx}:et (S.push r) l f=(et S l f).push r:=rfl
theorem Vs {ρ:Nat→AV} {ps:List Nat} {a b:au} (h:Ok m):ml m.loops.length ⟨true,none,ρ,ps,a,b⟩ (enterLoop m ⟨true,none,ρ,ps,a,b⟩):=⟨by simp[enterLoop],rfl,rfl,h.bo⟩
theorem ml.push (h:ml l lp S) (r:Rec):ml l lp (S.push r):=⟨h.get,h.ready,h.eF,h.bo⟩
theorem adu (h:ml l lp S):et (busy l S) l (fun p=>{p with ready:=true,eF:=none})=S:=by
 have e:(S.loops.modify l fun p=>{p with ready:=false}).modify l (fun p=>{p with ready:=true,eF:=none})=S.loops:=by
  apply pD
  intro i
  simp only[vN]
  by_cases hi:l=i
  ·subst hi
   have:=h.get
   rw[this]
   obtain⟨a,b,c,d,f,g⟩:=lp
   have h1:=h.ready
   have h2:=h.eF
   simp at h1 h2
   simp[h1,h2]
  ·simp[hi]
 simp only[busy,et,e]
noncomputable def Jt (AP:FuncId→Option aJ) (l:Nat) (body:au) (e:cV) (st:St):Option (AV×ae):=
 match e with
 |.normal=>if BJ st.sig l=true then go AP (qv l) [.c body] ⟨st.tmps,busy l st.sig⟩else none
 |_=>none
theorem ahl {body:au} {st:St}:go AP (qv l) [.c body] st=endRound l (fw AP body st):=by
 simp only[go,iR,qv]
 cases fw AP body st with
 |none=>rfl
 |some p=>rfl
theorem Ny {as:List AV} (h:ml l lp S) (hl:as.length=lp.params.length):
  aw AP (.yield l) as S=go AP (Jt AP l lp.body) [.c lp.assign] ⟨tX lp.tmps lp.params as,S.push ⟨[],[]⟩⟩:=by
 rw[adI,h.get]
 simp only
 rw[ak ⟨h.ready,h.bo,hl⟩]
 simp only[go,iR,Jt]
 cases fw AP lp.assign ⟨tX lp.tmps lp.params as,S.push ⟨[],[]⟩⟩with
 |none=>rfl
 | some p =>
  obtain⟨e,st⟩:=p
  cases e with
  |normal=>
   simp only[eK]
   have:=ahl (AP:=AP) (l:=l) (body:=lp.body) (st:=⟨st.tmps,busy l st.sig⟩)
   simp only[go,iR]at this
   rw[this];rfl
  |exit j=>rfl
  |ret=>rfl
theorem Ju {body:au} {r:Rec} (h:ml l lp S):Jt AP l body .normal ⟨ρ,S.push r⟩=go AP (qv l) [.c body] ⟨ρ,(busy l S).push r⟩:=by
 have:BJ (S.push r) l=true:=by
  simp only[BJ,ae.push,h.get,h.ready]
 simp only[Jt,this,bB];rfl
theorem N3 {r:Rec} (h:ml l lp S):qv l .normal ⟨ρ,(busy l S).push r⟩=some (.v (.bool true),S):=by
 simp only[qv,endRound,Rr,adu h,pop_push]
theorem Zp {e:cV}:et (busy l S) l (fun p=>{p with ready:=false,eF:=some e})=over l e S:=by
 have:(S.loops.modify l fun p=>{p with ready:=false}).modify l (fun p=>{p with ready:=false,eF:=some e})=S.loops.modify l fun p=>{p with ready:=false,eF:=some e}:=by
  apply pD
  intro i
  simp only[vN]
  by_cases hi:l=i
  ·cases S.loops[i]? <;>simp[hi]
  ·simp[hi]
 simp only[busy,over,et,this]
theorem VY {r:Rec}:qv l .ret ⟨ρ,(busy l S).push r⟩=some (.v (.bool false),over l .ret S):=by
 simp only[qv,endRound,Rr,Zp,pop_push]
theorem agf {r:Rec} {j:Nat}:qv l (.exit j) ⟨ρ,(busy l S).push r⟩=some (.v (.bool false),over l (.exit j) S):=by
 simp only[qv,endRound,Rr,Zp,pop_push]
theorem GY {p:Nat} {x:AV}:tX ρ [p] [x]=put p x ρ:=rfl
theorem asx:tX ρ [] []=ρ:=rfl
end
section
variable{S s:ae} {r:Rec} {d b l:Nat} {lp:dx}
theorem aoI:s.ag.length<(s.push r).ag.length:=by simp[ae.push]
theorem aoH (h:d<S.ag.length):d<(S.push r).ag.length:=by simp[ae.push];omega
theorem aoF (h:d<S.ag.length):d<(busy l S).ag.length:=h
theorem aoG (h:d<S.ag.length):d<(enterLoop S lp).ag.length:=h
theorem adk (h:d<S.ag.length):(S.push r).box d b=S.box d b:=by
 simp only[ae.box,ae.push]
 rw[dC h]
theorem adj:((busy l S).push r).box S.ag.length b=r.boxes[b]? :=iu (busy l S) r b
theorem acP {α:Type} {l r:List α} {k:Nat}:(l++r)[l.length+k]? =r[k]? :=by
 rw[gD (by omega)];congr 1;omega
theorem asy {α:Type} {l r:List α} {k:Nat} {y:α}:(l++r).set (l.length+k) y=l++r.set k y:=by
 rw[Hz _ _ (by omega)];congr 2;omega
end
attribute [go_sem] asy
attribute [go_sem] aoI aoH aoF aoG adk adj acP cj
attribute [go_sem] adv Ok.busy Ok.over Ok.enter ae8 VY agf GY asx
end Go.Ax.Sx
/-
  Slices that came in: their cells and who owns them.
-/
namespace Go.Ax.Sx
structure Sl (α:Type)where
 o:Own
 e:Nat
 l:List α
abbrev Sl.v {α:Type} (f:α→List AV) (x:Sl α):AV:=.slice x.o x.e (x.l.map f)
def Sl.ok {α:Type} (n:Nat) (x:Sl α):Prop:=(x.l=[]∨x.e=n)∧(x.o=.any∨x.o=.full∨(x.o=.aA∧x.l=[]))
section
variable{α:Type} {f:α→List AV} {x:Sl α} {n k:Nat} {a:α} {m:ae}
theorem cq {o:Own} {es:Nat} {l:List α} (hk:l[k]? =some a):kG none es (.slice o es (l.map f)) (.v (.int .i64 (k:Int)))=some (.bq (f a) 0):=GB (by rw[je,hk];rfl)
theorem Sl.ix (h:x.ok n) (hk:x.l[k]? =some a):kG none n (x.v f) (.v (.int .i64 (k:Int)))=some (.bq (f a) 0):=by
 have he:x.e=n:=by
  rcases h.1 with h|h
  ·rw[h]at hk;simp at hk
  ·exact h
 rw[Sl.v,he]
 exact GB (by simp[hk])
theorem Sl.iG (h:x.ok n):(x.v f).iG=true:=by
 rcases h.2 with h|h|h<;>simp[Sl.v,AV.iG,h]
theorem Sl.close (h:x.ok n):(x.v f).close=some (x.v f):=by
 rcases h.2 with h|h|h<;>simp[Sl.v,AV.close,AV.isClosed,AV.iG,h]
theorem Sl.BF (h:x.ok n):ez m (x.v f)=some (x.v f):=by
 rcases h.2 with h|h|h<;>simp[Sl.v,ez,AV.close,AV.isClosed,AV.iG,h]
theorem Sl.leave (h:x.ok n):ed m (x.v f)=some (x.v f):=by
 rw[show ed m (x.v f)=ez m (x.v f)from rfl];exact Sl.BF h
end
attribute [go_sem] bY
section
variable{a b:Int} {x y:ByteArray} {k:Nat} {c:UInt8}
theorem acC:dy .lss (.v (.int .u8 a)) (.v (.int .u8 b))=some (.v (.bool (decide (a<b)))):=rfl
theorem acA:dy .leq (.v (.int .u8 a)) (.v (.int .u8 b))=some (.v (.bool (decide (a≤b)))):=rfl
theorem acy:dy .gtr (.v (.int .u8 a)) (.v (.int .u8 b))=some (.v (.bool (decide (b<a)))):=rfl
theorem acw:dy .geq (.v (.int .u8 a)) (.v (.int .u8 b))=some (.v (.bool (decide (b≤a)))):=rfl
theorem acs:dy .eql (.v (.int .u8 a)) (.v (.int .u8 b))=some (.v (.bool (decide (a=b)))):=by
 simp only[dy,p6,sB];by_cases h:a=b<;>simp[h]
theorem acF:dy .neq (.v (.int .u8 a)) (.v (.int .u8 b))=some (.v (.bool (decide (a≠b)))):=by
 simp only[dy,p6,sB];by_cases h:a=b<;>simp[h]
theorem acu:dy .eql (.v (.string x)) (.v (.string y))=some (.v (.bool (decide (x=y)))):=by
 have:sO .eql x y=some (.bool (decide (x=y))):=by
  simp only[sO]
  congr 2
  by_cases h:x=y
  ·simp[h]
  ·have:¬x.data=y.data:=fun e=>h (Lm e)
   simp[h,this]
 simp[dy,this]
theorem acG:dy .neq (.v (.string x)) (.v (.string y))=some (.v (.bool (decide (x≠y)))):=by
 have:sO .neq x y=some (.bool (decide (x≠y))):=by
  simp only[sO]
  congr 2
  by_cases h:x=y
  ·simp[h]
  ·have:¬x.data=y.data:=fun e=>h (Lm e)
   simp[h,this]
 simp[dy,this]
theorem aeN:mr .bytes (.v (.string x))=some (.slice .any 1 (byteCells x)):=rfl
theorem ady:(byteCells x).length=x.data.size:=by simp[byteCells]
theorem adx (h:x.data.toList[k]? =some c):(byteCells x)[k]? =some [.v (.int .u8 c.toNat)]:=by simp[byteCells]at h⊢;simp[h]
end
attribute [go_sem] acC acA acy acw acs acF acu acG aeN ady
theorem aof {m:ae}:ed m (.v (.pointer none))=some (.v (.pointer none)):=rfl
theorem aoq {m:ae}:ez m (.v (.pointer none))=some (.v (.pointer none)):=rfl
theorem aet:(AV.v (.pointer none)).close=some (.v (.pointer none)):=rfl
theorem an9 {m:ae} {cs:List AV} {off:Nat}:ed m (.bq cs off)=some (.bq cs off):=rfl
theorem Qg {m:ae} {cs:List AV} {off:Nat}:ez m (.bq cs off)=some (.bq cs off):=rfl
theorem aeq {cs:List AV} {off:Nat}:(AV.bq cs off).close=some (.bq cs off):=rfl
theorem aog {s:ae} {r:Rec} {b off:Nat}:ed (s.push r) (.ptr s.ag.length b off)=(r.boxes[b]?).bind fun cs=>(closeAll cs).map fun cs'=>.bq cs' off:=by
 have:ed (s.push r) (.ptr s.ag.length b off)=ez (s.push r) (.ptr s.ag.length b off):=rfl
 rw[this,ez,ak (by rw[fD]),iu]
theorem aor {s:ae} {r:Rec} {b off:Nat}:ez (s.push r) (.ptr s.ag.length b off)=(r.boxes[b]?).bind fun cs=>(closeAll cs).map fun cs'=>.bq cs' off:=by
 rw[ez,ak (by rw[fD]),iu]
attribute [go_sem] aof aoq aet an9 Qg aeq aog aor
theorem ao9 {d b off:Nat}:zz (.ptr d b off)=some (.ptr d b off):=rfl
theorem ao8 {cs:List AV} {off:Nat}:zz (.bq cs off)=some (.bq cs off):=rfl
attribute [go_sem] ao9 ao8
theorem afl {ρ:aF→AV}:qt ρ none=none:=.trans rfl rfl
theorem afm {ρ:aF→AV} {x:aF}:qt ρ (some x)=some (ρ x):=.trans rfl rfl
attribute [go_sem ↓] afl afm
theorem afc {a b:Bool}:oK .bool (.v (.bool a)) (.v (.bool b))=some (a==b):=rfl
attribute [go_sem] afc
theorem arP {m:ae} {d b:Nat}:(cT m).box d b=m.box d b:=rfl
theorem Nu {s:ae} {b0:List AV} {r:List (List AV)} {t:List (Option Nat)}:(s.push ⟨b0::r,t⟩).box s.ag.length 0=some b0:=by rw[iu];rfl
theorem Uq {s:ae} {b0 b1:List AV} {r:List (List AV)} {t:List (Option Nat)}:(s.push ⟨b0::b1::r,t⟩).box s.ag.length 1=some b1:=by rw[iu];rfl
def fh (l:List Int):Sl Int:=⟨wF (ints l),1,l⟩
theorem Fj {l:List Int}:(fh l).ok 1:=by
 refine⟨.inr rfl,?_⟩
 cases l
 ·exact .inr (.inl rfl)
 ·exact .inl rfl
end Go.Ax.Sx
/-
  Functions that yield: what a round gets, and what stands behind all rounds.
-/
namespace Go.Ax.Sx
def up (S:ae) (B:List Rec) (ls:List dx):ae:={S with ag:=S.ag++B,loops:=S.loops++ls}
section
variable{S:ae} {B:List Rec} {ls:List dx} {r:Rec} {lp:dx} {d b:Nat}
theorem Ld:(up S B ls).push r=up S (B++[r]) ls:=by simp[up,ae.push]
theorem QS:S.push r=up S [r] []:=by simp[up,ae.push]
theorem atm {B':List Rec} {Qm:List dx}:up (up S B ls) B' Qm=up S (B++B') (ls++Qm):=by simp[up]
theorem abb:enterLoop (up S B ls) lp=up S B (ls++[lp]):=by simp[up,enterLoop]
theorem atk:(up S B ls).ag.length=S.ag.length+B.length:=by simp[up]
theorem atl:(up S B ls).loops.length=S.loops.length+ls.length:=by simp[up]
theorem Ok.up (h:Ok S):Ok (up S B ls):=⟨by have:=h.ro;simp[Sx.up];omega,by have:=h.bo;simp[Sx.up];omega⟩
theorem Le:(up S (r::B) ls).box S.ag.length b=r.boxes[b]? :=by
 simp[ae.box,up]
theorem abd {l:Nat} (h:ml l lp S):ml l lp (up S B ls):=
 ⟨by have:=(bd.1 h.get).1;simp only[up];rw[dC this];exact h.get,h.ready,h.eF,h.bo⟩
theorem KF {α:Type} {l l':List α} {k:Nat} {f:α→α} (h:k<l.length):(l++l').modify k f=l.modify k f++l':=by
 apply pD
 intro i
 rw[vN]
 by_cases hi:i<l.length
 ·rw[dC hi,dC (by simpa using hi),vN]
 ·rw[gD (by omega),gD (by simp;omega),Lz]
  have:¬k=i:=by omega
  simp[this]
theorem aa9 {l:Nat} (h:l<S.loops.length):busy l (up S B ls)=up (busy l S) B ls:=by
 simp only[busy,et,up,KF h]
end
section
variable{α ι:Type} (I:List α→ι→Prop) (stop:List α→α→Bool) (O:List α→α→ι→Prop)
def Ends:List α→List α→Bool→ι→Prop
 |done,[],b,i=>b=true∧I done i
 |done,x::r,b,i=>if stop done x=true then b=false∧O done x i else Ends (done++[x]) r b i
variable{I stop O}
theorem Ends.all {done xs:List α} {i:ι} (h:Ends I stop O done xs true i):I (done++xs) i:=by
 induction xs generalizing done with
 |nil=>simpa using h.2
 |cons x r ih=>
  simp only[Ends]at h
  split at h
  ·exact absurd h.1 (by simp)
  ·have:=ih h;simpa using this
theorem Ends.HS {done xs ys:List α} {i i':ι} {b:Bool} (h:Ends I stop O done xs true i) (h':Ends I stop O (done++xs) ys b i'):Ends I stop O done (xs++ys) b i':=by
 induction xs generalizing done with
 |nil=>simpa using h'
 | cons x r ih =>
  simp only[Ends,kq]at h⊢
  split at h
  ·exact absurd h.1 (by simp)
  ·rename_i hs
   rw[aq hs]
   exact ih h (by simpa using h')
theorem Ends.SY {done xs:List α} (ys:List α) {i:ι} (h:Ends I stop O done xs false i):Ends I stop O done (xs++ys) false i:=by
 induction xs generalizing done with
 |nil=>exact absurd h.1 (by simp)
 |cons x r ih=>
  simp only[Ends,kq]at h⊢
  split at h
  ·rename_i hs;rw[ak hs];exact h
  ·rename_i hs;rw[aq hs];exact ih h
theorem Ends.never {done xs:List α} {i:ι} {b:Bool} (hs:∀d x,stop d x=false) (h:Ends I stop O done xs b i):b=true∧I (done++xs) i:=by
 have:b=true:=by
  induction xs generalizing done with
  |nil=>exact h.1
  |cons x r ih=>
   simp only[Ends,hs]at h
   exact ih (by simpa using h)
 subst this
 exact⟨rfl,h.all⟩
theorem Ends.first {done xs:List α} {i:ι} (h:Ends I stop O done xs false i):∃pre x post,xs=pre++x::post∧O (done++pre) x i∧stop (done++pre) x=true∧∀p y q,pre=p++y::q→stop (done++p) y=false:=by
 induction xs generalizing done with
 |nil=>exact absurd h.1 (by simp)
 | cons x r ih =>
  simp only[Ends]at h
  split at h
  ·rename_i hs
   exact⟨[],x,r,rfl,by simpa using h.2,by simpa using hs,fun p y q e=>by simp at e⟩
  ·rename_i hs
   obtain⟨pre,y,post,e1,e2,e3,e4⟩:=ih h
   refine⟨x::pre,y,post,by simp[e1],by simpa using e2,by simpa using e3,fun p z q e=>?_⟩
   cases p with
   |nil=>
    simp only[kN,vM]at e
    rw[←e.1];simpa using hs
   |cons a p=>
    simp only[kq,vM]at e
    have:=e4 p z q e.2
    rw[e.1]at this;simpa using this
end
theorem Ends.map {α β ι κ:Type} {I:List α→ι→Prop} {stop:List α→α→Bool} {O:List α→α→ι→Prop} {mk:β→α} {f:κ→ι} {d0:List α} {I2:List β→κ→Prop} {aaO:List β→β→Bool} {O2:List β→β→κ→Prop}
  (hI:∀dn j,I2 dn j→I (d0++dn.map mk) (f j)) (hs:∀dn g,aaO dn g=stop (d0++dn.map mk) (mk g)) (hO:∀dn g j,O2 dn g j→O (d0++dn.map mk) (mk g) (f j)) {xs:List β} {b:Bool} {j:κ}:
  ∀{dn:List β},Ends I2 aaO O2 dn xs b j→Ends I stop O (d0++dn.map mk) (xs.map mk) b (f j):=by
 induction xs with
 |nil=>intro dn h;exact⟨h.1,hI _ _ h.2⟩
 | cons x r ih =>
  intro dn h
  simp only[Ends,iM]at h⊢
  rw[hs]at h
  by_cases hc:stop (d0++dn.map mk) (mk x)=true
  ·rw[ak hc]at h⊢;exact⟨h.1,hO _ _ _ h.2⟩
  ·rw[aq hc]at h⊢
   have:=ih h
   simpa using this
section
variable{S:ae} {B:List Rec} {ls:List dx} {lp:dx} {l:Nat}
theorem adw (h:S.loops.length=l):busy l (up S B (lp::ls))=up S B ({lp with ready:=false}::ls):=by
 subst h
 have:∀(L:List dx) (f:dx→dx),(L++lp::ls).modify L.length f=L++f lp::ls:=by
  intro L f
  induction L with
  |nil=>rfl
  |cons a L ih=>simpa using ih
 simp only[busy,et,up,this]
theorem aqi {e:cV} (h:S.loops.length=l):over l e (up S B (lp::ls))=up S B ({lp with ready:=false,eF:=some e}::ls):=by
 subst h
 have:∀(L:List dx) (f:dx→dx),(L++lp::ls).modify L.length f=L++f lp::ls:=by
  intro L f
  induction L with
  |nil=>rfl
  |cons a L ih=>simpa using ih
 simp only[over,et,up,this]
theorem Z0 (hs:Ok S) (h:S.loops.length=l) (hr:lp.ready=true) (hp:lp.eF=none):ml l lp (up S B (lp::ls)):=by
 subst h
 exact⟨by simp[up],hr,hp,hs.bo⟩
end
structure Hand {α ι:Type} (AP:FuncId→Option aJ) (L:Nat) (V:α→AV) (base:ι→ae) (I:List α→ι→Prop) (stop:List α→α→Bool) (O:List α→α→ι→Prop) (X:α→Prop) (N NL M:Nat):Prop where
 ok:∀i,Ok (base i)
 len:∀i,(base i).ag.length=N
 jG:∀i,(base i).loops.length=NL
 go:∀done x i B ls,done.length<M→I done i→X x→stop done x=false→∃i',aw AP (.yield L) [V x] (up (base i) B ls)=some (.v (.bool true),up (base i') B ls)∧I (done++[x]) i'
 st:∀done x i B ls,done.length<M→I done i→X x→stop done x=true→∃i',aw AP (.yield L) [V x] (up (base i) B ls)=some (.v (.bool false),up (base i') B ls)∧O done x i'
section
variable{α ι:Type} {AP:FuncId→Option aJ} {L:Nat} {V:α→AV} {base:ι→ae} {I:List α→ι→Prop} {stop:List α→α→Bool} {O:List α→α→ι→Prop} {X:α→Prop} {N NL M:Nat}
theorem Hand.one (h:Hand AP L V base I stop O X N NL M) {done:List α} {x:α} {i:ι} {B:List Rec} {ls:List dx} (hm:done.length<M) (hi:I done i) (hx:X x) (r:Rec):
  ∃b i',aw AP (.yield L) [V x] ((up (base i) B ls).push r)=some (.v (.bool b),(up (base i') B ls).push r)∧Ends I stop O done [x] b i':=by
 rw[Ld]
 cases hs:stop done x with
 |false=>
  obtain⟨i',h1,h2⟩:=h.go done x i (B++[r]) ls hm hi hx hs
  exact⟨true,i',by rw[h1,Ld],by simp[Ends,hs,h2]⟩
 |true=>
  obtain⟨i',h1,h2⟩:=h.st done x i (B++[r]) ls hm hi hx hs
  exact⟨false,i',by rw[h1,Ld],by simp[Ends,hs,h2]⟩
end
structure gE (X:Rec→ae) (d:Nat):Prop where
 get:∀r,(X r).ag[d]? =some r
 on:∀r f,(X r).bp d f=X (f r)
 ro:∀r,(X r).ro≤d
theorem YS {s:ae} {l:Nat} {lp:dx} {B:List Rec} {ls:List dx} (hs:Ok s):gE (fun r=>up (busy l (enterLoop (s.push r) lp)) B ls) s.ag.length:=by
 refine⟨fun r=>?_,fun r f=>?_,fun r=>hs.ro⟩
 ·simp[up,busy,et,enterLoop,ae.push]
 ·have:((s.ag++[r])++B).modify s.ag.length f=(s.ag++[f r])++B:=by
   rw[KF (by simp)]
   congr 1
   exact(hU ae.ag (zA s r f):_)
  simp only[ae.bp,up,busy,et,enterLoop,ae.push,this]
section
variable{X:Rec→ae} {d:Nat} {r r0:Rec}
theorem gE.lt (h:gE X d) (r:Rec):d<(X r).ag.length:=(bd.1 (h.get r)).1
theorem gE.GL (h:gE X d) (f:Rec→Rec):((X r).push r0).bp d f=(X (f r)).push r0:=by
 rw[←h.on r f]
 simp only[ae.bp,ae.push,KF (h.lt r)]
theorem gE.box (h:gE X d) {b:Nat}:((X r).push r0).box d b=r.boxes[b]? :=by
 have:=h.lt r
 simp only[ae.box,ae.push]
 rw[dC this,h.get r];rfl
theorem gE.tok (h:gE X d) {g:Nat}:((X r).push r0).tok d g=(r.toks[g]?).join:=by
 have:=h.lt r
 simp only[ae.tok,ae.push]
 rw[dC this,h.get r];rfl
theorem gE.jI (h:gE X d):((X r).push r0).jI d=r.toks.length:=by
 have:=h.lt r
 simp only[ae.jI,ae.push]
 rw[dC this,h.get r]
theorem gE.dA (h:gE X d) {b:Nat} {cs:List AV}:((X r).push r0).dA d b cs=(X ⟨r.boxes.set b cs,r.toks⟩).push r0:=h.GL _
theorem gE.mf (h:gE X d) {g:Nat} {n:Option Nat}:((X r).push r0).mf d g n=(X ⟨r.boxes,r.toks.set g n⟩).push r0:=h.GL _
theorem gE.kT (h:gE X d) {n:Nat}:((X r).push r0).kT d n=(X ⟨r.boxes,r.toks++[some n]⟩).push r0:=h.GL _
theorem Jw {m:ae} {d:Nat}:∀{cs:List AV},(cs.all AV.isClosed=true)→m.fitAll d cs=some (cs,m)
 |[],_=>rfl
 | x :: r, h => by
  simp only[vK,dB]at h
  have hx:m.fit d x=some (x,m):=by
   cases x with
   |slice o es xs=>
    cases o with
    |tok=>simp[AV.isClosed,AV.iG]at h
    |_=>simp[ae.fit,AV.close,AV.isClosed,AV.iG]
   |ptr=>simp[AV.isClosed,AV.iG]at h
   |aO=>simp[AV.isClosed,AV.iG]at h
   |_=>simp only[ae.fit,AV.close,h.1,bB,dK]
  simp only[ae.fitAll,hx,Jw h.2]
theorem gE.store (h:gE X d) {b off n:Nat} {y:AV} (hc:y.cells.all AV.isClosed=true) (hn:kB n y.cells=true) {row Z8:List AV} (hb:r.boxes[b]? =some row) (ho:l7 row off y.cells=some Z8):
  ((X r).push r0).store n (.ptr d b off) y=some ((X ⟨r.boxes.set b Z8,r.toks⟩).push r0):=by
 have aC:=h.lt r
 have gQ:((X r).push r0).cur=(X r).ag.length:=fD _ _
 have bh:((X r).push r0).ro≤d:=h.ro r
 obtain⟨h1,h2⟩:=qw.1 hn
 have aB:¬d=(X r).ag.length:=by omega
 rw[vw]at ho
 by_cases hl:off+y.cells.length≤row.length
 ·rw[ak hl]at ho
  injection ho with ho
  subst ho
  have hle:off+n≤row.length:=by omega
  simp only[ae.store,bh,h1,h2,na,bB,gQ,aB,cE,Jw hc,h.box,hb,hle,h.dA]
 ·rw[aq hl]at ho;cases ho
theorem gE.append (h:gE X d) {es b:Nat} {xs:List (List AV)} {x:AV} {og:Option Nat} (ha:Acc d es xs x og r.toks) (o:Own) {ys:List (List AV)} (hy:ys≠[]) (hl:xs.length+ys.length≤4294967296) (hb:b<r.boxes.length) (cg:∃c,r.boxes[b]? =some [c]):
  ∃x1 m1 ZQ x' gl tk',eD ((X r).push r0) es x (.slice o es ys)=some (x1,m1)∧m1.store 1 (.ptr d b 0) x1=some ((X ⟨r.boxes.set b [x'],tk'⟩).push ZQ)∧ZQ.boxes=r0.boxes∧Acc d es (xs++ys) x' gl tk'∧gl≠none∧
   (∀oL pz x2 fk,Acc d oL pz x2 fk r.toks→(fk≠og∨fk=none)→Acc d oL pz x2 fk tk'∧fk≠gl):=by
 have aC:=h.lt r
 have gQ:∀q,((X r).push q).cur=(X r).ag.length:=fun q=>fD _ _
 have bh:∀q,((X r).push q).ro≤d:=fun q=>h.ro r
 have aB:¬d=(X r).ag.length:=by omega
 have Pc:¬(X r).ag.length≤d:=by omega
 obtain⟨c,cg⟩:=cg
 have sy:ys.isEmpty=false:=by cases ys<;>simp_all
 cases og with
 | none =>
  obtain⟨rfl,rfl⟩:=ha
  have qH:ys.length≤4294967296:=by simpa using hl
  refine⟨.slice (.tok (X r).ag.length r0.toks.length) es ys,(X r).push ⟨r0.boxes,r0.toks++[some ys.length]⟩,⟨r0.boxes,(r0.toks++[some ys.length]).set r0.toks.length none⟩,.slice (.tok d r.toks.length) es ys,some r.toks.length,r.toks++[some ys.length],?_,?_,rfl,⟨by simpa using hy,rfl,by simp⟩,by simp,?_⟩
  ·simp[eD,sy,Own.isNil,most,qH,gQ,qb,oE]
  ·have br:(AV.slice (.tok (X r).ag.length r0.toks.length) es ys).cells=[.slice (.tok (X r).ag.length r0.toks.length) es ys]:=rfl
   have zk:((X r).push ⟨r0.boxes,r0.toks++[some ys.length]⟩).tok (X r).ag.length r0.toks.length=some ys.length:=by rw[Ca];simp
   have lS:((X r).push ⟨r0.boxes,r0.toks++[some ys.length]⟩).fitAll d [.slice (.tok (X r).ag.length r0.toks.length) es ys]=some ([.slice (.tok d r.toks.length) es ys],(X ⟨r.boxes,r.toks++[some ys.length]⟩).push ⟨r0.boxes,(r0.toks++[some ys.length]).set r0.toks.length none⟩):=by
    simp only[ae.fitAll,ae.fit,Pc,cE,gQ,zk,na,bB,h.jI,K5,h.kT]
   simp only[ae.store,bh,br,dO,iK,vK,Ck,AV.bt,xH,na,bB,gQ,aB,cE,lS,h.box,cg,h.dA,fB,aH,setCells,HA]
  ·intro oL pz x2 fk h2 _
   cases fk with
   |none=>exact⟨h2,by simp⟩
   |some g=>
    obtain⟨a,b,c⟩:=h2
    have:=(bd.1 c).1
    exact⟨⟨a,b,by rw[dC this];exact c⟩,by simp;omega⟩
 | some g =>
  obtain⟨hx,rfl,hg⟩:=ha
  refine⟨.slice (.tok d g) es (xs++ys),(X ⟨r.boxes,r.toks.set g (some (xs.length+ys.length))⟩).push r0,r0,.slice (.tok d g) es (xs++ys),some g,r.toks.set g (some (xs.length+ys.length)),?_,?_,rfl,⟨by simp[hx],rfl,?_⟩,by simp,?_⟩
  ·simp[eD,sy,most,hl,h.tok,hg,bh,h.mf]
  ·have br:(AV.slice (.tok d g) es (xs++ys)).cells=[.slice (.tok d g) es (xs++ys)]:=rfl
   have ait:∀q tk,((X ⟨r.boxes,tk⟩).push q).cur=(X ⟨r.boxes,tk⟩).ag.length:=fun q tk=>fD _ _
   have ajW:∀q tk,((X ⟨r.boxes,tk⟩).push q).ro≤d:=fun q tk=>h.ro _
   have Pb:∀tk,¬d=(X ⟨r.boxes,tk⟩).ag.length:=fun tk=>by have:=h.lt ⟨r.boxes,tk⟩;omega
   have lS:∀m:ae,m.fitAll d [.slice (.tok d g) es (xs++ys)]=some ([.slice (.tok d g) es (xs++ys)],m):=fun m=>by
    simp only[ae.fitAll,ae.fit,aH,bB]
   simp only[ae.store,ajW,br,dO,iK,vK,Ck,AV.bt,xH,na,bB,ait,Pb,cE,lS,h.box,cg,h.dA,fB,aH,setCells,HA]
  ·rw[mj (bd.1 hg).1];simp
  ·intro oL pz x2 fk h2 aB
   cases fk with
   |none=>exact⟨h2,by simp⟩
   |some g2=>
    obtain⟨a,b,c⟩:=h2
    have aB:g2≠g:=by rcases aB with h|h<;>simp_all
    exact⟨⟨a,b,by rw[eI (fun e=>aB e.symm)];exact c⟩,by simpa using aB⟩
end
end Go.Ax.Sx
/-
  Lists whose elements may be written to, each in a box of some activation; calls in the caller's own activation.
-/
namespace Go.Ax.Sx
section
variable{call:aZ} {ρ:Nat→AV} {m:ae}
theorem apx {es:Nat} {x y h:aF}:aN call (aE ρ) m (.rC es x y h)=qk m es (aE ρ x) (aE ρ y) (aE ρ h):=.trans rfl rfl
theorem aqb {es:Nat} {x:aF}:aN call (aE ρ) m (.sM es x)=rf m es (aE ρ x):=.trans rfl rfl
theorem apL {zs:List AV} {x:aF}:aN call (aE ρ) m (.clear zs x)=wB m zs (aE ρ x):=.trans rfl rfl
theorem apF {f:FuncId} {as:List aF}:aN call (aE ρ) m (.tf f as)=lK call m f (as.map (aE ρ)):=.trans rfl rfl
theorem apJ {f:FuncId} {as:List aF} {ws:List (Bool×Nat×Nat)}:aN call (aE ρ) m (.qn f as ws)=oF call m (.fn f) (as.map (aE ρ)) (ws.map fun q=>(q.1,q.2.1,ρ q.2.2)):=.trans rfl rfl
end
attribute [go_sem ↓] apx aqb apL apF apJ
theorem adG {AP:FuncId→Option aJ} {f:FuncId} {np nt:Nat} {b:au} {rs:List il} {own:Bool} (hf:AP f=some (.code np nt b rs own)) {as:List AV} {m:ae} (hl:as.length=np) (hm:m.ro<m.ag.length):
  aw AP (.inl f) as m=go AP (fun e st=>match e with|.exit _=>none|_=>(tU st rs).map fun l=>(packed l,st.sig)) [.c b] ⟨jy as,m⟩:=by
 rw[adH hf,ak ⟨hl,hm⟩]
 simp only[go,iR]
 cases h:fw AP b ⟨jy as,m⟩with
 |none=>rfl
 |some p=>obtain⟨e,aQ⟩:=p;cases e<;>rfl
section
variable{s:ae} {bs:List (List AV)} {tk:List (Option Nat)} {cs:List AV} {b:Nat}
theorem arG:(s.push ⟨bs,tk⟩).sJ s.ag.length b cs=s.push ⟨bs.set b []++[cs],tk++[none]⟩:=by rw[ae.sJ,zA]
theorem Q9 {es:Nat} (h:kB es cs=true) (h0:0<es):rf (s.push ⟨bs,tk⟩) es (.agg cs)=some (.aO s.ag.length bs.length 0 es 1 1,s.push ⟨bs++[cs],tk⟩):=by
 obtain⟨h1,h2⟩:=qw.1 h
 simp only[rf,AV.cells,h1,h2,h0,na,bB,fD,xw,ae.dz,CD]
def GX (d es:Nat) (row:List AV) (n:Nat) (x:AV) (bs:List (List AV)):Prop:=
 (n=0∧row=[]∧x=.slice .aA 0 [])∨(0<n∧∃b,bs[b]? =some row∧x=.aO d b 0 es n 0)
def RY (d:Nat) (x:AV) (bs fY:List (List AV)):Prop:=bs.length<fY.length∧∀j,j<bs.length→(∀es n,x≠.aO d j 0 es n 0)→fY[j]? =bs[j]?
theorem GX.len {d es n:Nat} {row:List AV} {x:AV} (h:GX d es row n x bs):mN false x=some (.v (.int .i64 (n:Int))):=by
 obtain⟨rfl,rfl,rfl⟩|⟨_,b,_,rfl⟩:=h<;>rfl
theorem GX.cell {d es n:Nat} {row:List AV} {x:AV} (h:GX d es row n x bs):x.bt=true:=by
 obtain⟨rfl,rfl,rfl⟩|⟨_,b,_,rfl⟩:=h<;>rfl
theorem GX.cells {d es n:Nat} {row:List AV} {x:AV} (h:GX d es row n x bs):x.cells=[x]:=by
 obtain⟨rfl,rfl,rfl⟩|⟨_,b,_,rfl⟩:=h<;>rfl
theorem uE {r:List (List AV)} {j:Nat} {c:List AV} (h:bs[j]? =some c):(bs++r)[j]? =some c:=by
 rw[dC (bd.1 h).1];exact h
theorem aco {es n b0 c p q:Nat} {row r2:List AV} {x:AV} (hs:Ok s) (h:GX s.ag.length es row n x bs) (hb:bs[b0]? =some r2) (h2:r2.length=es) (hl:row.length=n*es) (hm:n+1≤4294967296):
  ∃x' fY tk',qk (s.push ⟨bs,tk⟩) es x (.aO s.ag.length b0 0 es 1 c) (.ptr s.ag.length p q)=some (x',s.push ⟨fY,tk'⟩)∧GX s.ag.length es (row++r2) (n+1) x' fY∧RY s.ag.length x bs fY∧
   ∃b',fY[b']? =some (row++r2)∧x'=.aO s.ag.length b' 0 es (n+1) 0∧bs.length≤b':=by
 have bh:(s.push ⟨bs,tk⟩).ro≤s.ag.length:=hs.ro
 have Gl:(s.push ⟨bs,tk⟩).zJ es (.aO s.ag.length b0 0 es 1 c)=some (r2,1):=by
  simp only[ae.zJ,fD,na,bB,iu,hb,eK,fB,rz,h2,aH,kt]
  rw[Sp (by omega)]
 obtain⟨rfl,rfl,rfl⟩|⟨hn,b,gd,rfl⟩:=h
 ·refine⟨.aO s.ag.length bs.length 0 es 1 0,bs++[r2],tk,?_,.inr ⟨by omega,bs.length,?_,rfl⟩,⟨by simp,fun j hj _=>dC hj⟩,bs.length,?_,rfl,aH _⟩
  ·have y6:(1:Nat)≤most:=by decide
   simp only[qk,Gl,eK,LJ,cE,bh,fD,aH,true_or,na,bB,Hu,Own.isNil,y6,xw,CD]
  ·simp
  ·simp
 ·have y6:n+1≤most:=hm
  refine⟨.aO s.ag.length bs.length 0 es (n+1) 0,bs.set b []++[row++r2],tk++[none],?_,.inr ⟨by omega,bs.length,?_,rfl⟩,⟨by simp,fun j hj aB=>?_⟩,bs.length,?_,rfl,aH _⟩
  ·simp only[qk,Gl,eK,LJ,cE,bh,fD,aH,true_or,na,bB,hn,y6,iu,gd,hl,xw,arG]
  ·rw[gD (by simp)];simp
  ·rw[dC (by simpa using hj),eI (fun e=>aB es n (by rw[e]))]
  ·rw[gD (by simp)];simp
end
section
variable{X:Rec→ae} {d:Nat} {r r0:Rec}
theorem gE.rC (h:gE X d) {es n b0 c p q:Nat} {row r2:List AV} {x:AV} (hg:GX d es row n x r.boxes) (hb:r0.boxes[b0]? =some r2) (h2:r2.length=es) (aT:r2.all AV.iG=true) (hl:row.length=n*es) (hm:n+1≤4294967296):
  ∃x' fY tk',qk ((X r).push r0) es x (.aO (X r).ag.length b0 0 es 1 c) (.ptr d p q)=some (x',(X ⟨fY,tk'⟩).push r0)∧GX d es (row++r2) (n+1) x' fY∧RY d x r.boxes fY∧∃b',x'=.aO d b' 0 es (n+1) 0∧r.boxes.length≤b':=by
 have aC:=h.lt r
 have gQ:((X r).push r0).cur=(X r).ag.length:=fD _ _
 have bh:((X r).push r0).ro≤d:=h.ro r
 have hle:d≤(X r).ag.length:=by omega
 have mJ:((X r).push r0).bL d=r.boxes.length:=by
  simp only[ae.bL,ae.push]
  rw[dC aC,h.get r]
 have Gl:((X r).push r0).zJ es (.aO (X r).ag.length b0 0 es 1 c)=some (r2,1):=by
  simp only[ae.zJ,gQ,na,bB,iu,hb,eK,fB,rz,h2,aH,kt]
  rw[Sp (by omega)]
 obtain⟨rfl,rfl,rfl⟩|⟨hn,b,gd,rfl⟩:=hg
 ·have gJ:((X r).push r0).jj d r2=(X ⟨r.boxes++[r2],r.toks⟩).push r0:=h.GL _
  refine⟨.aO d r.boxes.length 0 es 1 0,r.boxes++[r2],r.toks,?_,.inr ⟨by omega,r.boxes.length,by simp,rfl⟩,⟨by simp,fun j hj _=>dC hj⟩,_,rfl,aH _⟩
  have y6:(1:Nat)≤most:=by decide
  simp only[qk,Gl,eK,LJ,cE,bh,gQ,hle,aT,or_true,na,bB,Hu,Own.isNil,true_or,y6,mJ,gJ]
 ·have y6:n+1≤most:=hm
  have di:((X r).push r0).box d b=some row:=by rw[h.box,gd]
  have hrg:((X r).push r0).sJ d b (row++r2)=(X ⟨r.boxes.set b []++[row++r2],r.toks++[none]⟩).push r0:=h.GL _
  refine⟨.aO d r.boxes.length 0 es (n+1) 0,r.boxes.set b []++[row++r2],r.toks++[none],?_,.inr ⟨by omega,r.boxes.length,?_,rfl⟩,⟨by simp,fun j hj aB=>?_⟩,_,rfl,aH _⟩
  ·simp only[qk,Gl,eK,LJ,cE,bh,gQ,hle,aT,or_true,na,bB,hn,y6,di,hl,mJ,hrg]
  ·rw[gD (by simp)];simp
  ·rw[dC (by simpa using hj),eI (fun e=>aB es n (by rw[e]))]
theorem gE.as0 (h:gE X d) {b:Nat} {y:AV} {es n:Nat} (hy:∃b',y=.aO d b' 0 es n 0) {c:AV} (hb:r.boxes[b]? =some [c]):
  ((X r).push r0).store 1 (.ptr d b 0) y=some ((X ⟨r.boxes.set b [y],r.toks⟩).push r0):=by
 obtain⟨b',rfl⟩:=hy
 have aC:=h.lt r
 have gQ:((X r).push r0).cur=(X r).ag.length:=fD _ _
 have bh:((X r).push r0).ro≤d:=h.ro r
 have aB:¬d=(X r).ag.length:=by omega
 simp only[ae.store,bh,AV.cells,dO,iK,fB,vK,Ck,AV.bt,xH,na,bB,gQ,aB,cE,ae.fitAll,ae.fit,aH,h.box,hb,h.dA,setCells,HA]
end
section
variable{AP:FuncId→Option aJ} {s:ae} {bs:List (List AV)} {tk:List (Option Nat)} {f:FuncId} {args:List AV}
theorem aqj {Q:ae} {bx:List (List AV)} {tk:List (Option Nat)} {r:Rec} {b es n:Nat} {cs:List AV} (hQ:Ok Q) (hb:r.boxes[b]? =some cs) (hn:0<n) (hl:cs.length=n*es) (aB:cs≠[]) (hc:closeAll cs=some cs):
  kg ((Q.push ⟨bx,tk⟩).push r) (.aO (Q.push ⟨bx,tk⟩).ag.length b 0 es n 0)=some (.aO Q.ag.length bx.length 0 es n 0,Q.push ⟨bx++[cs],tk⟩):=by
 have hd:(Q.push ⟨bx,tk⟩).ag.length=Q.ag.length+1:=by simp[ae.push]
 have bh:((Q.push ⟨bx,tk⟩).push r).ro<(Q.push ⟨bx,tk⟩).ag.length:=by
  have:=hQ.ro;rw[hd];show Q.ro<_;omega
 have he:cs.isEmpty=false:=by cases cs<;>simp_all
 have h1:1≤(Q.push ⟨bx,tk⟩).ag.length:=by omega
 simp only[kg,fD,K9]
 rw[ak (by first|exact⟨h1,bh,hn⟩|exact⟨h1,bh,trivial,trivial,hn⟩),iu,hb,eK,ak ⟨he,hl⟩,hc]
 simp only[dK,pop_push,hd,HE]
 have e1:((Q.push ⟨bx,tk⟩).push r).bL Q.ag.length=bx.length:=by
  have:((Q.push ⟨bx,tk⟩).push r).ag[Q.ag.length]? =some ⟨bx,tk⟩:=by
   show((Q.ag++[_])++[_])[_]? =_
   rw[dC (by simp)];simp
  simp only[ae.bL,this]
 rw[e1,CD]
theorem adR {es n:Nat} {cs:List AV} (hm:(s.push ⟨bs,tk⟩).ro<(s.push ⟨bs,tk⟩).ag.length)
  (h:aw AP (.fn f) args ((cT (s.push ⟨bs,tk⟩)).push ⟨[],[]⟩)=some (.aO (s.push ⟨bs,tk⟩).ag.length 0 0 es n 0,(cT (s.push ⟨bs,tk⟩)).push ⟨[cs],[]⟩)) (hn:0<n) (hl:cs.length=n*es) (aB:cs≠[]) (hc:closeAll cs=some cs):
  lK (aw AP) (s.push ⟨bs,tk⟩) f args=some (.aO s.ag.length bs.length 0 es n 0,s.push ⟨bs++[cs],tk⟩):=by
 have he:cs.isEmpty=false:=by cases cs<;>simp_all
 have h:aw AP (.fn f) args {(s.push ⟨bs,tk⟩).push ⟨[],[]⟩with ro:=(s.push ⟨bs,tk⟩).ag.length,bo:=(s.push ⟨bs,tk⟩).loops.length}=some (.aO (s.push ⟨bs,tk⟩).ag.length 0 0 es n 0,(cT (s.push ⟨bs,tk⟩)).push ⟨[cs],[]⟩):=h
 have hb:((cT (s.push ⟨bs,tk⟩)).push ⟨[cs],[]⟩).box (s.push ⟨bs,tk⟩).ag.length 0=some cs:=iu (cT (s.push ⟨bs,tk⟩)) ⟨[cs],[]⟩ 0
 unfold lK
 rw[h]
 simp only
 rw[ak ⟨trivial,by omega,hm,trivial,trivial,hn⟩,hb,eK,ak ⟨he,hl⟩,hc]
 simp only[dK,fD,xw,ae.dz,CD]
theorem adQ (h:aw AP (.fn f) args ((cT s).push ⟨[],[]⟩)=some (.slice .aA 0 [],(cT s).push ⟨[],[]⟩)):lK (aw AP) s f args=some (.slice .aA 0 [],s):=by
 have h:aw AP (.fn f) args {s.push ⟨[],[]⟩with ro:=s.ag.length,bo:=s.loops.length}=some (.slice .aA 0 [],(cT s).push ⟨[],[]⟩):=h
 unfold lK
 rw[h]
 rfl
theorem UG {m m':ae} {t:Target} {v:AV} {ws:List (Bool×Nat×AV)} (h:aw AP t args m=some (v,m')) (hw:∀q∈ws,m'.load q.1 q.2.1 q.2.2=m.load q.1 q.2.1 q.2.2):oF (aw AP) m t args ws=some (v,m'):=E8.2 ⟨h,hw⟩
end
theorem Fc {es:Nat}:∀{xs:List (List AV)},(∀r∈xs,r.length=es)→chunks es xs.length xs.flatten=xs
 |[],_=>rfl
 |r::t,h=>by
  have hr:=h r (by simp)
  simp only[dO,chunks,sV]
  rw[So (by omega),Sp (by omega),R4 (by omega),zN (by omega),kN]
  rw[Fc fun q hq=>h q (jf _ hq)]
theorem Vk {m:ae}:∀{cs c:List AV},closeAll cs=some c→jN m cs=some c
 |[],c,h=>h
 | x :: r, c, h => by
  simp only[closeAll]at h
  split at h
  ·rename_i y t e1 e2
   have hx:nU m x=some y:=by
    cases x<;>first|exact e1|(simp[AV.close,AV.isClosed,AV.iG]at e1;done)
   simp only[jN,hx,Vk e2]
   exact h
  ·cases h
theorem Zn {m:ae} {cs:List AV}:(closeAll cs).or (jN m cs)=jN m cs:=by
 cases h:closeAll cs with
 |none=>rfl
 |some c=>rw[Vk h];rfl
theorem NR {m:ae}:∀{a b x y:List AV},jN m a=some x→jN m b=some y→jN m (a++b)=some (x++y)
 |[],b,x,y,h1,h2=>by
  simp only[jN]at h1
  injection h1 with h1
  subst h1
  exact h2
 | c :: a, b, x, y, h1, h2 => by
  simp only[jN]at h1
  split at h1
  ·rename_i z t e1 e2
   injection h1 with h1
   subst h1
   simp only[kq,jN,e1,NR e2 h2]
  ·cases h1
end Go.Ax.Sx
