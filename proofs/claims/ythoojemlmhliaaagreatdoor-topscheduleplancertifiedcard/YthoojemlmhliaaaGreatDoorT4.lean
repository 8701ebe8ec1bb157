/-
  A region whose order is drawn: every order gives the same.
-/
import Derived.Test.YthoojemlmhliaaaGreatDoorT3
import Derived.Test.YthoojemlmhliaaaGreatDoorT1
set_option linter.unusedSimpArgs false
set_option linter.unusedVariables false
set_option maxRecDepth 100000
namespace Go.Ax
open Go.RowKit
section
variable{P:Program} {B0:Nat} {w0:World} {G:aH} {k nl:Nat} {w:World} {s:ae}
noncomputable def bC (call:bj) (o:bt) (ρ:Nat→AV) (m:ae):Option (AV×ae):=
 if kO ρ o.guard then aO call (aD ρ) m o.op else some (AV.undef,m)
theorem Ng (call:bj) (o:bt) (st:St):rO call o st=(bC call o st.tmps st.sig).map fun p=>⟨kL st.tmps o.dst p.1,p.2⟩:=by
 unfold rO bC
 split
 ·split
  ·rename_i h;simp[h]
  ·rename_i h;simp[h]
 ·rfl
theorem Xq {call:bj} {o:bt} {ρ ρ':Nat→AV} (h:pZ (we o) ρ ρ') (m:ae):bC call o ρ m=bC call o ρ' m:=by
 have h1:pZ (M4 o.op) ρ ρ':=ns h
 have h2:kO ρ o.guard=kO ρ' o.guard:=by
  have h2:=qS h
  cases hg:o.guard with
  |none=>rfl
  |some p=>
   obtain⟨t,b⟩:=p
   rw[hg]at h2
   simp only[kO]
   rw[h2 t (by simp)]
 simp only[bC,h2,atZ h1]
def vV (a b:UW):Bool:=
 match a,b with
 |.pure,_|_,.pure|.load,.load|.load,.soft|.soft,.load|.load,.fresh|.jM,.jM|.jM,.fresh|.fresh,.jM|.fW _,.fW _|.slot _,.slot _=>true
 |.fW r,.slot b|.slot b,.fW r|.fW r,.fill b|.fill b,.fW r=>decide (b≤r)
 |_,_=>false
theorem Xv {call:bj} {o:bt} (h:cV o.op=.pure) (ρ:Nat→AV):∃r:Option AV,∀m,bC call o ρ m=r.map (·,m):=by
 obtain⟨f,hf⟩:=auE (call:=call) h
 by_cases hw:kO ρ o.guard=true
 ·exact⟨f (aD ρ),fun m=>by simp only[bC,aj hw,hf]⟩
 ·exact⟨some AV.undef,fun m=>by simp only[bC,ak hw];rfl⟩
theorem Qh {call:bj} {o:bt} (h:cV o.op=.load) (ρ:Nat→AV) {m m':ae} (hs:uQ m m'):∃r:Option AV,bC call o ρ m=r.map (·,m)∧bC call o ρ m'=r.map (·,m'):=by
 by_cases hw:kO ρ o.guard=true
 ·obtain⟨r,h1,h2⟩:=Ta (call:=call) h (ρ:=aD ρ) hs
  exact⟨r,by simp only[bC,aj hw,h1],by simp only[bC,aj hw,h2]⟩
 ·exact⟨some AV.undef,by simp only[bC,ak hw];rfl,by simp only[bC,ak hw];rfl⟩
theorem KY {call:bj} {o:bt} (h:cV o.op=.jM) (ρ:Nat→AV) {m m':ae} (hs:rS m m'):∃r:Option AV,bC call o ρ m=r.map (·,m)∧bC call o ρ m'=r.map (·,m'):=by
 by_cases hw:kO ρ o.guard=true
 ·obtain⟨r,h1,h2⟩:=Tb (call:=call) h (ρ:=aD ρ) hs
  exact⟨r,by simp only[bC,aj hw,h1],by simp only[bC,aj hw,h2]⟩
 ·exact⟨some AV.undef,by simp only[bC,ak hw];rfl,by simp only[bC,ak hw];rfl⟩
theorem Xs {call:bj} {o:bt} (h:cV o.op=.fresh) {ρ:Nat→AV} {m m':ae} {x:AV} (ho:bC call o ρ m=some (x,m')):rS m m':=by
 unfold bC at ho
 split at ho
 ·exact abY h ho
 ·injection ho with ho
  injection ho with _ ho
  exact .inl ho.symm
theorem Xt {call:bj} {x y:bt} (hx:cV x.op=.jM) (hy:cV y.op=.fresh∨cV y.op=.jM) {ρ:Nat→AV} {m m1 m2:ae} {u v:AV} (h1:bC call x ρ m=some (v,m1)) (h2:bC call y ρ m1=some (u,m2)):
  ∃dO,bC call y ρ m=some (u,dO)∧bC call x ρ dO=some (v,m2):=by
 obtain⟨r0,a1,_⟩:=KY (call:=call) hx ρ (m:=m) (m':=m) (.inl rfl)
 rw[a1]at h1
 obtain⟨q1,q2⟩:=ld h1
 simp only at q1 q2
 subst q2
 have hf:∃f:rS m1 m2,True:=by
  rcases hy with hy|hy
  ·exact⟨Xs hy h2,trivial⟩
  ·obtain⟨r,b1,_⟩:=KY (call:=call) hy ρ (m:=m1) (m':=m1) (.inl rfl)
   rw[b1]at h2
   obtain⟨_,q⟩:=ld h2
   exact⟨.inl (by first|exact q|exact q.symm),trivial⟩
 obtain⟨hf,_⟩:=hf
 obtain⟨r,c1,c2⟩:=KY (call:=call) hx ρ hf
 refine⟨m2,h2,?_⟩
 rw[c2]
 have e:=c1.symm.trans a1
 have:r=r0:=by cases r<;>cases r0<;>simp_all
 rw[this,q1]
 rfl
theorem ah0 {call:bj} {x y:bt} (hx:cV x.op=.fresh) (hy:cV y.op=.jM) {ρ:Nat→AV} {m m1 m2:ae} {u v:AV} (h1:bC call x ρ m=some (v,m1)) (h2:bC call y ρ m1=some (u,m2)):
  ∃dO,bC call y ρ m=some (u,dO)∧bC call x ρ dO=some (v,m2):=by
 obtain⟨r,c1,c2⟩:=KY (call:=call) hy ρ (Xs hx h1)
 rw[c2]at h2
 obtain⟨q1,q2⟩:=ld h2
 simp only at q1 q2
 subst q2
 exact⟨m,by rw[c1,q1];rfl,h1⟩
theorem Xx {call:bj} {o:bt} (h:cV o.op=.soft) {ρ:Nat→AV} {m m':ae} {x:AV} (ho:bC call o ρ m=some (x,m')):uQ m m':=by
 unfold bC at ho
 split at ho
 ·exact auH h ho
 ·injection ho with ho
  injection ho with _ ho
  subst ho
  exact fun _ _=>rfl
theorem ah2 {call:bj} {o:bt} (h:cV o.op=.fresh) {ρ:Nat→AV} {m m':ae} {x:AV} (ho:bC call o ρ m=some (x,m')):uK m m':=by
 unfold bC at ho
 split at ho
 ·exact auo h ho
 ·injection ho with ho
  injection ho with _ ho
  subst ho
  exact fun _ _ cs e=>⟨cs,e,.inl rfl⟩
theorem Qi {call:bj} {o:bt} {back:Nat} (h:cV o.op=.slot back) (ρ:Nat→AV):(∃zs,∀m,bC call o ρ m=mJ m back zs)∨∀m,bC call o ρ m=some (AV.undef,m):=by
 obtain⟨zs,hb⟩:=Tc (call:=call) h
 by_cases hw:kO ρ o.guard=true
 ·exact .inl ⟨zs,fun m=>by simp only[bC,aj hw,hb]⟩
 ·exact .inr fun m=>by simp[bC,ak hw]
theorem ah4 {call:bj} {x y:bt} {b1 b2:Nat} (hx:cV x.op=.slot b1) (hy:cV y.op=.slot b2) {ρ:Nat→AV} {m m1 m2:ae} {u v:AV} (h1:bC call x ρ m=some (v,m1)) (h2:bC call y ρ m1=some (u,m2)):
  ∃dO,bC call y ρ m=some (u,dO)∧bC call x ρ dO=some (v,m2):=by
 rcases Qi (call:=call) hx ρ with⟨z1,e1⟩|e1
 ·rcases Qi (call:=call) hy ρ with⟨z2,e2⟩|e2
  ·rw[e1]at h1
   rw[e2]at h2
   obtain⟨dO,c1,c2⟩:=axU h1 h2
   exact⟨dO,(e2 m).trans c1,(e1 dO).trans c2⟩
  ·rw[e2]at h2
   injection h2 with h2
   injection h2 with h3 h4
   subst h3 h4
   exact⟨m,e2 m,h1⟩
 ·rw[e1]at h1
  injection h1 with h1
  injection h1 with h3 h4
  subst h3 h4
  exact⟨m2,h2,e1 m2⟩
def DT (back:Nat) (m m':ae):Prop:=m'=m∨∃cs,m'=m.dQ m.cur (m.cE m.cur-back) cs
theorem Xw {call:bj} {o:bt} {back:Nat} (h:cV o.op=.slot back) {ρ:Nat→AV} {m m':ae} {x:AV} (ho:bC call o ρ m=some (x,m')):DT back m m':=by
 rcases Qi (call:=call) h ρ with⟨zs,e⟩|e
 ·rw[e]at ho
  exact .inr ⟨_,(Iz ho).2.2.2⟩
 ·rw[e]at ho
  injection ho with ho
  injection ho with _ ho
  exact .inl ho.symm
theorem Xr {call:bj} {o:bt} {back:Nat} (h:cV o.op=.fill back) {ρ:Nat→AV} {m m':ae} {x:AV} (ho:bC call o ρ m=some (x,m')):DT back m m':=by
 unfold bC at ho
 split at ho
 ·exact .inr (S9 h ho)
 ·injection ho with ho
  injection ho with _ ho
  exact .inl ho.symm
theorem KZ {call:bj} {o:bt} {res back:Nat} (h:cV o.op=.fW res) (hb:back≤res) (ρ:Nat→AV) {m m':ae} (hw:DT back m m'):∃r:Option AV,bC call o ρ m=r.map (·,m)∧bC call o ρ m'=r.map (·,m'):=by
 rcases hw with rfl|⟨cs,rfl⟩
 ·by_cases hw:kO ρ o.guard=true
  ·obtain⟨r,h1,_⟩:=MX (call:=call) h (aV _) (ρ:=aD ρ) (m:=m') []
   exact⟨r,by simp only[bC,aj hw,h1],by simp only[bC,aj hw,h1]⟩
  ·exact⟨some AV.undef,by simp only[bC,ak hw];rfl,by simp only[bC,ak hw];rfl⟩
 ·by_cases hw:kO ρ o.guard=true
  ·obtain⟨r,h1,h2⟩:=MX (call:=call) h hb (ρ:=aD ρ) (m:=m) cs
   exact⟨r,by simp only[bC,aj hw,h1],by simp only[bC,aj hw,h2]⟩
  ·exact⟨some AV.undef,by simp only[bC,ak hw];rfl,by simp only[bC,ak hw];rfl⟩
theorem Xu {call:bj} {x y:bt} {res back:Nat} (hx:cV x.op=.fW res) (hb:back≤res) {ρ:Nat→AV} {m m1 m2:ae} {u v:AV} (hw:DT back m1 m2) (h1:bC call x ρ m=some (v,m1)) (h2:bC call y ρ m1=some (u,m2)):
  ∃dO,bC call y ρ m=some (u,dO)∧bC call x ρ dO=some (v,m2):=by
 obtain⟨r0,a1,_⟩:=KZ (call:=call) hx hb ρ (m:=m) (m':=m) (.inl rfl)
 rw[a1]at h1
 obtain⟨q1,q2⟩:=ld h1
 simp only at q1 q2
 subst q2
 obtain⟨r,c1,c2⟩:=KZ (call:=call) hx hb ρ hw
 refine⟨m2,h2,?_⟩
 rw[c2]
 have e:=c1.symm.trans a1
 have:r=r0:=by cases r<;>cases r0<;>simp_all
 rw[this,q1]
 rfl
theorem Qj {call:bj} {x y:bt} {res back:Nat} (hy:cV y.op=.fW res) (hb:back≤res) {ρ:Nat→AV} {m m1 m2:ae} {u v:AV} (hw:DT back m m1) (h1:bC call x ρ m=some (v,m1)) (h2:bC call y ρ m1=some (u,m2)):
  ∃dO,bC call y ρ m=some (u,dO)∧bC call x ρ dO=some (v,m2):=by
 obtain⟨r,c1,c2⟩:=KZ (call:=call) hy hb ρ hw
 rw[c2]at h2
 obtain⟨q1,q2⟩:=ld h2
 simp only at q1 q2
 subst q2
 exact⟨m,by rw[c1,q1];rfl,h1⟩
theorem ah3 {call:bj} {o:bt} (h:cV o.op=.load) {ρ:Nat→AV} {m m1:ae} {v:AV} (ho:bC call o ρ m=some (v,m1)):m1=m∧∀m',uK m m'→bC call o ρ m'=some (v,m'):=by
 unfold bC at ho⊢
 split at ho
 ·rename_i hw
  obtain⟨h1,h2⟩:=auu h ho
  exact⟨h1,fun m' hg=>by rw[aj hw];exact h2 m' hg⟩
 ·rename_i hw
  injection ho with ho
  injection ho with h1 h2
  subst h1 h2
  exact⟨rfl,fun m' _=>by rw[ak hw]⟩
theorem ah5 {call:bj} {x y:bt} (h:vV (cV x.op) (cV y.op)=true) {ρ:Nat→AV} {m m1 m2:ae} {u v:AV} (h1:bC call x ρ m=some (v,m1)) (h2:bC call y ρ m1=some (u,m2)):
  ∃dO,bC call y ρ m=some (u,dO)∧bC call x ρ dO=some (v,m2):=by
 have xp:cV x.op=.pure→∃dO,bC call y ρ m=some (u,dO)∧bC call x ρ dO=some (v,m2):=fun hx=>by
  obtain⟨r,hr⟩:=Xv (call:=call) hx ρ
  rw[hr]at h1
  obtain⟨q1,q2⟩:=ld h1
  simp only at q1 q2
  subst q2
  exact⟨m2,h2,by rw[hr,q1];rfl⟩
 have yp:cV y.op=.pure→∃dO,bC call y ρ m=some (u,dO)∧bC call x ρ dO=some (v,m2):=fun hy=>by
  obtain⟨r,hr⟩:=Xv (call:=call) hy ρ
  rw[hr]at h2
  obtain⟨q1,q2⟩:=ld h2
  simp only at q1 q2
  subst q2
  exact⟨m,by rw[hr,q1];rfl,h1⟩
 have ly:cV y.op=.load→uQ m m1→∃dO,bC call y ρ m=some (u,dO)∧bC call x ρ dO=some (v,m2):=fun hy hs=>by
  obtain⟨r,r1,r2⟩:=Qh (call:=call) hy ρ hs
  rw[r2]at h2
  obtain⟨q1,q2⟩:=ld h2
  simp only at q1 q2
  subst q2
  exact⟨m,by rw[r1,q1];rfl,h1⟩
 have lx:cV x.op=.load→m1=m∧(uQ m m2→∃dO,bC call y ρ m=some (u,dO)∧bC call x ρ dO=some (v,m2)):=fun hx=>by
  obtain⟨r,r1,_⟩:=Qh (call:=call) (m':=m) hx ρ (fun _ _=>rfl)
  rw[r1]at h1
  obtain⟨q1,q2⟩:=ld h1
  simp only at q1 q2
  subst q2
  refine⟨rfl,fun hs=>?_⟩
  obtain⟨r',Tt,Tv⟩:=Qh (call:=call) hx ρ hs
  refine⟨m2,h2,?_⟩
  rw[Tv]
  rw[Tt]at r1
  have:r'=r:=by
   cases r<;>cases r'<;>simp_all
  rw[this,q1]
  rfl
 cases hx:cV x.op<;>cases hy:cV y.op<;>rw[hx,hy]at h<;>first
  |exact xp hx
  |exact yp hy
  |(simp[vV]at h;done)
  |skip
 ·exact ly hy (by rw[(lx hx).1];exact fun _ _=>rfl)
 ·have:=lx hx
  obtain⟨rfl,f⟩:=this
  exact f (Xx hy h2)
 ·obtain⟨rfl,f⟩:=ah3 hx h1
  exact⟨m2,h2,f _ (ah2 hy h2)⟩
 ·exact ly hy (Xx hx h1)
 ·exact ah0 hx hy h1 h2
 ·exact ah4 hx hy h1 h2
 ·exact Qj hy (by simpa[vV]using h) (Xw hx h1) h1 h2
 ·exact Xu hx (by simpa[vV]using h) (Xw hy h2) h1 h2
 ·exact Qj hy (aV _) (by
   obtain⟨r,a1,_⟩:=KZ (call:=call) hx (aV _) ρ (m:=m) (m':=m) (.inl rfl)
   rw[a1]at h1
   obtain⟨_,q2⟩:=ld h1
   exact .inl (by first|exact q2|exact q2.symm)) h1 h2
 ·exact Xu hx (by simpa[vV]using h) (Xr hy h2) h1 h2
 ·exact Qj hy (by simpa[vV]using h) (Xr hx h1) h1 h2
 ·exact Xt hx (.inl hy) h1 h2
 ·exact Xt hx (.inr hy) h1 h2
theorem ay7 {x:AV} {y:AV} {k:ZK} (h:Ny x=some k) (h':Ny y=some k):x=y:=by
 unfold Ny at h h'
 split at h<;>first|(cases h;done)|skip
 all_goals(injection h with h;subst h;split at h'<;>first|(cases h';done)|(injection h' with h';injection h' with e1 e2;subst e1 e2;rfl)|(injection h' with h';injection h' with e1;subst e1;rfl)|rfl)
theorem aev:∀{a b:List AV} {p:List ZK},ym a=some p→ym b=some p→a=b
 |[],[],_,_,_=>rfl
 |[],y::r,p,h,h'=>by
  injection h with h
  subst h
  simp only[ym]at h'
  split at h'<;>cases h'
 |x::r,[],p,h,h'=>by
  injection h' with h'
  subst h'
  simp only[ym]at h
  split at h<;>cases h
 | x :: r, y :: q, p, h, h' => by
  simp only[ym]at h h'
  split at h
  ·rename_i k1 s1 e1 e2
   injection h with h
   subst h
   split at h'
   ·rename_i k2 s2 e3 e4
    injection h' with h'
    injection h' with q1 q2
    subst q1 q2
    rw[ay7 e1 e3,aev e2 e4]
   ·cases h'
  ·cases h
theorem axo {a b:List AV} (h:TF a b=true):a=b:=by
 unfold TF at h
 split at h
 ·rename_i p q h1 h2
  rw[fB]at h
  subst h
  exact aev h1 h2
 ·cases h
theorem SP:∀{zss bx:List (List AV)},bx∈qZ zss↔bx.length=zss.length∧∀i (h1:i<bx.length) (h2:i<zss.length),bx[i]=[]∨bx[i]=zss[i]
 |[],bx=>by
  simp only[qZ,fS,jU]
  constructor
  ·rintro rfl;exact⟨rfl,fun i h=>absurd h (dH _)⟩
  ·rintro⟨h,_⟩;exact rV h
 |z::r,[]=>by simp[qZ]
 | z :: r, b :: bx => by
  have ih:=SP (zss:=r) (bx:=bx)
  simp only[qZ,dR,cN,DB,cH]
  constructor
  ·rintro(⟨x,hx,rfl,rfl⟩|⟨x,hx,rfl,rfl⟩)
   ·obtain⟨h1,h2⟩:=ih.1 hx
    refine⟨by omega,fun i q1 q2=>?_⟩
    cases i with
    |zero=>exact .inl rfl
    |succ i=>exact h2 i (by simpa using q1) (by simpa using q2)
   ·obtain⟨h1,h2⟩:=ih.1 hx
    refine⟨by omega,fun i q1 q2=>?_⟩
    cases i with
    |zero=>exact .inr rfl
    |succ i=>exact h2 i (by simpa using q1) (by simpa using q2)
  ·rintro⟨h1,h2⟩
   have hm:bx∈qZ r:=ih.2 ⟨by omega,fun i q1 q2=>h2 (i+1) (by omega) (by omega)⟩
   rcases h2 0 (by omega) (by omega)with e|e
   ·exact .inl ⟨bx,hm,by simpa using e.symm,rfl⟩
   ·exact .inr ⟨bx,hm,by simpa using e.symm,rfl⟩
section
variable{m:ae} {r:Nat} {a b:List (List AV)}
theorem IE (h:0<r) (hr:r≤m.cE m.cur):∃q,m.ag[m.cur]? =some q∧r≤q.boxes.length∧m.cE m.cur=q.boxes.length∧m.tail r=q.boxes.drop (q.boxes.length-r):=by
 unfold ae.cE at hr
 split at hr
 ·rename_i q hq
  exact⟨q,hq,hr,by simp[ae.cE,hq],by simp[ae.tail,hq]⟩
 ·omega
theorem Ql:(m.jd r a).cur=m.cur:=by simp[ae.cur,ae.jd,ae.bG]
theorem U5:(m.jd r a).ag.length=m.ag.length:=by simp[ae.jd,ae.bG]
theorem YC:(m.jd r a).ag[m.cur]? =(m.ag[m.cur]?).map fun q=>{q with boxes:=q.boxes.take (q.boxes.length-r)++a}:=by
 simp only[ae.jd,ae.bG,eE,cI]
theorem TX (h:0<r) (hr:r≤m.cE m.cur) (ha:a.length=r):(m.jd r a).tail r=a:=by
 obtain⟨q,hq,hl,_,_⟩:=IE h hr
 unfold ae.tail
 rw[Ql,YC,hq]
 simp only[dJ,cG,ez,ha]
 rw[List.drop_append_of_le_length (by rw[ez];omega)]
 rw[List.drop_eq_nil_of_le (by rw[ez];omega)];rfl
theorem abq (h:0<r) (hr:r≤m.cE m.cur) (ha:a.length=r):(m.jd r a).cE m.cur=m.cE m.cur:=by
 obtain⟨q,hq,hl,hn,_⟩:=IE h hr
 rw[hn]
 unfold ae.cE
 rw[YC,hq]
 simp only[dJ,cG,ez,ha];omega
theorem atG {d:Nat}:(m.jd r a).lZ d=m.lZ d:=by
 simp only[ae.lZ,ae.jd,ae.bG,wG]
 by_cases h:m.cur=d
 ·cases m.ag[d]? <;>simp[h]
 ·cases m.ag[d]? <;>simp[h]
theorem adg (h:0<r) (hr:r≤m.cE m.cur) (ha:a.length=r):(m.jd r a).jd r b=m.jd r b:=by
 obtain⟨q,hq,hl,_,_⟩:=IE h hr
 have hc:(m.jd r a).cur=m.cur:=Ql
 show(m.jd r a).bG (m.jd r a).cur _=_
 rw[hc]
 simp only[ae.jd,ae.bG]
 congr 1
 apply mM
 intro i
 simp only[eE]
 by_cases hi:m.cur=i
 ·subst hi
  rw[aj rfl,aj rfl,aj rfl,hq]
  simp only[dJ,cG,ez,ha]
  congr 2
  rw[List.take_append_of_le_length (by rw[ez];omega),List.take_take]
  congr 1
  congr 1
  omega
 ·rw[ak hi,ak hi,ak hi]
theorem ac9 {zs:List AV} {k:Nat} (hk:0<k) (hkr:k≤r) (hr:r≤m.cE m.cur):m.dQ m.cur (m.cE m.cur-k) zs=m.jd r ((m.tail r).set (r-k) zs):=by
 obtain⟨q,hq,hl,hn,ht⟩:=IE (by omega) hr
 rw[hn,ht]
 simp only[ae.dQ,ae.jd,ae.bG]
 congr 1
 apply mM
 intro i
 simp only[eE]
 by_cases hi:m.cur=i
 ·subst hi
  rw[aj rfl,aj rfl,hq]
  simp only[dJ]
  congr 2
  have e:q.boxes=q.boxes.take (q.boxes.length-r)++q.boxes.drop (q.boxes.length-r):=(DL _ _).symm
  conv=>lhs;rw[e]
  rw[Ay _ _ (by rw[ez];simp;omega)]
  congr 2
  rw[ez];simp;omega
 ·rw[ak hi,ak hi]
theorem WZ {k:Nat} (hk:0<k) (hkr:k≤r) (hr:r≤m.cE m.cur):m.box m.cur (m.cE m.cur-k)=(m.tail r)[r-k]? :=by
 obtain⟨q,hq,hl,hn,ht⟩:=IE (by omega) hr
 rw[hn,ht]
 simp only[ae.box,hq,dI,Ux]
 congr 1;omega
end
theorem ajt {call:bj} {ro:Bool} {m m1 m2:ae} {zss:List (List AV)} {k:Nat} {zs:List AV} {t:Target} {args:List AV} {u v:AV} (hk:0<k) (zu:k≤zss.length) (hz:zss[zss.length-k]? =some zs)
  (h1:nD call ro m zss t args=some (v,m1)) (h2:mJ m1 k zs=some (u,m2)):
  ∃dO,mJ m k zs=some (u,dO)∧nD call ro dO zss t args=some (v,m2):=by
 have hd:=Qy h1
 unfold nD at h1
 rw[hd]at h1
 simp only at h1
 split at h1
 ·rename_i hc
  obtain⟨c0,c1,c3,c4,c5,c6,c7⟩:=hc
  have iF:0<zss.length:=by omega
  obtain⟨hT,hTi⟩:=SP.1 c0
  have hr:zss.length≤m.cE m.cur:=by
   unfold ae.tail at hT
   split at hT
   ·rename_i q hq
    have:m.cE m.cur=q.boxes.length:=by unfold ae.cE;rw[hq]
    rw[pU]at hT
    rw[this]
    omega
   ·simp at hT;omega
  have lM:m1.cur=m.cur:=by unfold ae.cur;rw[c3]
  have im:zss.length≤m1.cE m1.cur:=by rw[lM,c4];exact hr
  obtain⟨b1,b2,rfl,rfl⟩:=Iz h2
  rw[WZ hk zu im,c5,←WZ hk zu hr]at b1
  rw[lM]at b2
  have vL:=ac9 (m:=m) (zs:=zs) hk zu hr
  have ZY:=ac9 (m:=m1) (zs:=zs) hk zu im
  rw[c5]at ZY
  rw[ZY]
  have xL:((m.tail zss.length).set (zss.length-k) zs).length=zss.length:=by rw[tt];exact hT
  have gm:(m.tail zss.length).set (zss.length-k) zs∈qZ zss:=by
   refine SP.2 ⟨xL,fun i q1 q2=>?_⟩
   rw[UB]
   split
   ·rename_i e
    subst e
    right
    have:=(bI.1 hz).2
    exact this.symm
   ·rw[tt]at q1
    exact hTi i q1 q2
  refine⟨m.jd zss.length ((m.tail zss.length).set (zss.length-k) zs),?_,?_⟩
  ·rw[TO b1 ⟨b2.1,c7 b2.2⟩,vL,lM,c4]
  ·unfold nD
   rw[c1 _ gm]
   simp only
   rw[aj]
   have sE:(m.jd zss.length ((m.tail zss.length).set (zss.length-k) zs)).cur=m.cur:=Ql
   have CK:zss.length≤m1.cE m1.cur:=im
   refine⟨by rw[TX iF hr xL];exact gm,fun bx dC=>by rw[adg iF hr xL,adg iF im xL];exact c1 bx dC,by rw[U5,U5];exact c3,?_,by rw[TX iF hr xL,TX iF im xL],fun h=>by rw[c6 h],fun h=>?_⟩
   ·rw[sE,abq iF hr xL]
    have:=abq (m:=m1) iF im xL
    rw[lM]at this
    rw[this];exact c4
   ·rw[sE,atG]at h⊢
    exact c7 h
 ·cases h1
theorem ah1 {call:bj} {x y:bt} (h:BU x.op y.op=true) {ρ:Nat→AV} {m m1 m2:ae} {u v:AV} (h1:bC call x ρ m=some (v,m1)) (h2:bC call y ρ m1=some (u,m2)):
  ∃dO,bC call y ρ m=some (u,dO)∧bC call x ρ dO=some (v,m2):=by
 by_cases hx:kO ρ x.guard=true
 ·by_cases hy:kO ρ y.guard=true
  ·simp only[bC,aj hx]at h1⊢
   simp only[bC,aj hy]at h2⊢
   unfold BU at h
   split at h
   ·rename_i ro zss f as b zs' ex ey
    rw[dE,fB]at h
    obtain⟨hb,hz⟩:=h
    split at hz
    ·rename_i z hzs
     have hz:=axo hz
     subst hz
     rw[ex]at h1⊢
     rw[ey]at h2⊢
     exact ajt hb.1 hb.2 hzs h1 h2
    ·cases hz
   ·rename_i ro zs f as r g n a ex ey
    subst h
    rw[ex]at h1⊢
    rw[ey]at h2⊢
    have hm:m1=m:=by
     simp only[aO,nD]at h1
     split at h1
     ·split at h1
      ·rename_i hc
       injection h1 with h1
       injection h1 with _ h1
       rw[←h1]
       exact hc.2.2.2.2.2.1 rfl
      ·cases h1
     ·cases h1
    subst hm
    have jH:m2=m1:=by
     simp only[aO]at h2
     obtain⟨_,_,h2⟩:=aZ.1 h2
     injection h2 with _ h2
     exact h2.symm
    subst jH
    exact⟨m2,h2,h1⟩
   ·rename_i r g n a ro zs f as ex ey
    subst h
    rw[ex]at h1⊢
    rw[ey]at h2⊢
    have hm:m1=m:=by
     simp only[aO]at h1
     obtain⟨_,_,h1⟩:=aZ.1 h1
     injection h1 with _ h1
     exact h1.symm
    subst hm
    have jH:m2=m1:=by
     simp only[aO,nD]at h2
     split at h2
     ·split at h2
      ·rename_i hc
       injection h2 with h2
       injection h2 with _ h2
       rw[←h2]
       exact hc.2.2.2.2.2.1 rfl
      ·cases h2
     ·cases h2
    subst jH
    exact⟨m2,h2,h1⟩
   ·cases h
  ·simp only[bC,ak hy]at h2⊢
   injection h2 with h2
   injection h2 with h2 h3
   subst h2 h3
   exact⟨m,rfl,h1⟩
 ·simp only[bC,ak hx]at h1⊢
  injection h1 with h1
  injection h1 with h1 h3
  subst h1 h3
  exact⟨m2,h2,rfl⟩
theorem ax6 {call:bj} {x y:bt} (h:vV (cV x.op) (cV y.op)=true∨BU x.op y.op=true) (hd:∀t,x.dst=some t→y.dst≠some t) (hx:∀t,x.dst=some t→t∉we y) (hy:∀t,y.dst=some t→t∉we x)
  {st cZ wx:St} (h1:rO call x st=some cZ) (h2:rO call y cZ=some wx):∃TT,rO call y st=some TT∧rO call x TT=some wx:=by
 rw[Ng]at h1
 obtain⟨⟨v,m1⟩,c1,h1⟩:=aZ.1 h1
 subst h1
 rw[Ng]at h2
 obtain⟨⟨u,m2⟩,c2,h2⟩:=aZ.1 h2
 subst h2
 simp only at c2
 have acx:∀(o o':bt) (ρ:Nat→AV) (z:AV),(∀t,o.dst=some t→t∉we o')→pZ (we o') (kL ρ o.dst z) ρ:=fun o o' ρ z ho t ht=>by
  cases hdo:o.dst with
  |none=>rfl
  |some d=>
   simp only[kL,put]
   rw[ak (fun e=>ho d hdo (by rw[←e];exact ht))]
 rw[Xq (acx x y st.tmps v hx)]at c2
 obtain⟨dO,c3,c4⟩:∃dO,bC call y st.tmps st.sig=some (u,dO)∧bC call x st.tmps dO=some (v,m2):=by
  rcases h with h|h
  ·exact ah5 h c1 c2
  ·exact ah1 h c1 c2
 refine⟨⟨kL st.tmps y.dst u,dO⟩,by rw[Ng,c3];rfl,?_⟩
 rw[Ng]
 simp only
 rw[Xq (acx y x st.tmps u hy),c4]
 simp only[dJ,fI,St.mk.injEq,DW]
 cases hdx:x.dst with
 |none=>rfl
 | some d =>
  cases hdy:y.dst with
  |none=>rfl
  | some d' =>
   have aF:d'≠d:=fun e=>hd d hdx (by rw[hdy,e])
   funext t
   simp only[kL,put]
   by_cases h1:t=d
   ·subst h1
    rw[aj rfl,ak (qQ aF),aj rfl]
   ·rw[ak h1]
    split<;>rfl
noncomputable def oW (call:bj) (as:List bt):List Nat→St→Option St
 |[],st=>some st
 |i::r,st=>match as[i]? with
  |some o=>(rO call o st).bind (oW call as r)
  |none=>none
theorem acX (call:bj) (as:List bt):∀(l:List bt) (i:Nat),(∀j,l[j]? =as[i+j]?)→∀st,oW call as (List.range' i l.length) st=ops call l st
 |[],i,_,st=>rfl
 |o::r,i,h,st=>by
  have h0:as[i]? =some o:=by simpa using(h 0).symm
  simp only[cH,NU,oW,h0,S7]
  congr 1
  funext cZ
  exact acX call as r (i+1) (fun j=>by have:=h (j+1);simpa[wM,NY 1 j]using this) cZ
theorem awS (call:bj) (as:List bt) (st:St):oW call as (List.range as.length) st=ops call as st:=by
 rw[DH]
 exact acX call as as 0 (by simp) st
def unordered (pre:List Nat) (i j:Nat):Prop:=before pre i j=false∧before pre j i=false
theorem aiq {pre:List Nat} {l:List bt} (h:tQ pre l=true) {i j:Nat} {x y:bt} (hx:l[i]? =some x) (hy:l[j]? =some y) (aB:i<j) (hu:unordered pre i j):
  (vV (cV x.op) (cV y.op)=true∨BU x.op y.op=true)∧(∀t,x.dst=some t→y.dst≠some t)∧(∀t,y.dst=some t→t∉we x)∧(∀t,x.dst=some t→t∉we y):=by
 have aF:i≠j:=by omega
 unfold tQ at h
 rw[dE]at h
 have h1:=h.1
 unfold acb at h1
 have mem:∀{i:Nat} {x:bt},l[i]? =some x→(x,i)∈l.zipIdx:=fun e=>by
  rw[List.mem_zipIdx_iff_getElem?]
  exact e
 have h2:=jh.1 h1 _ (mem hx)
 have h3:=jh.1 h2 _ (mem hy)
 have h4:=jh.1 (jh.1 h1 _ (mem hy)) _ (mem hx)
 have RE:(i==j)=false:=by simpa using aF
 have amZ:(j==i)=false:=by simpa using qQ aF
 have Zz:decide (j<i)=false:=by simp;omega
 obtain⟨Z8,Z9⟩:=hu
 simp only[RE,nq,dE,Z8,Z9,uJ]at h3
 simp only[amZ,nq,dE,Z8,Z9,uJ]at h4
 obtain⟨⟨a1,a2⟩,a3⟩:=h3
 obtain⟨⟨_,a4⟩,_⟩:=h4
 refine⟨?_,fun t ht e=>?_,fun t ht hm=>?_,fun t ht hm=>?_⟩
 ·cases mn:cV x.op<;>cases Hk:cV y.op<;>rw[mn,Hk]at a3<;>first|exact .inl rfl|(simp[Zz]at a3;done)|(simp[Zz,aB]at a3;exact .inr a3)|(refine .inl ?_;simpa[vV]using a3)
 ·rw[ht,e]at a1
  simp at a1
 ·rw[ht]at a2
  simp at a2
  exact a2 hm
 ·rw[ht]at a4
  simp at a4
  exact a4 hm
theorem unordered.symm {pre:List Nat} {i j:Nat} (h:unordered pre i j):unordered pre j i:=⟨h.2,h.1⟩
theorem adY {call:bj} {pre:List Nat} {as:List bt} (h:tQ pre as=true) {i:Nat} {q:List Nat} {f:St}:∀(p:List Nat) (st:St),(∀j,j∈p→j<i∧unordered pre i j)→oW call as (p++i::q) st=some f→
  oW call as (i::(p++q)) st=some f
 |[],st,_,hr=>hr
 | j :: p, st, hp, hr => by
  simp only[fZ,oW]at hr
  split at hr
  ·rename_i y hy
   obtain⟨cZ,s1,hr⟩:=dS.1 hr
   have nQ:=adY h p cZ (fun j' dx=>hp j' (by simp[dx])) hr
   simp only[oW]at nQ
   split at nQ
   ·rename_i x hx
    obtain⟨wx,s2,nQ⟩:=dS.1 nQ
    obtain⟨aB,hu⟩:=hp j (by simp)
    obtain⟨d1,d2,d3,d6⟩:=aiq h hy hx aB hu.symm
    obtain⟨TT,t1,t2⟩:=ax6 d1 d2 d6 d3 s1 s2
    simp only[oW,fZ,hx,hy,t1,dI,t2]
    exact nQ
   ·cases nQ
  ·cases hr
def r7 (o:Oper):List Edge:=o.after.toList.filter (Region.binds .any)
theorem Yw {acc:List Nat} {i:Nat}:∀(es:List Edge) (m:Nat),(es.foldl (fun m e=>m|||1<<<e.on|||acc.getD e.on 0) m).testBit i=true→m.testBit i=true∨∃e,e∈es∧(e.on=i∨(acc.getD e.on 0).testBit i=true)
 |[],m,h=>.inl h
 | e :: r, m, h => by
  simp only[ma]at h
  rcases Yw r _ h with h|⟨e',h1,h2⟩
  ·rw [DR, DR, An, An] at h
   rcases h with(h|h)|h
   ·exact .inl h
   ·rw[Nat.testBit_shiftLeft]at h
    simp only[dE,fB]at h
    have:=h.2
    have h0:i-e.on=0:=by
     cases hq:i-e.on with
     |zero=>rfl
     |succ n=>
      rw[hq,Nat.testBit_succ]at this
      simp at this
    exact .inr ⟨e,by simp,.inl (by omega)⟩
   ·exact .inr ⟨e,by simp,.inr h⟩
  ·exact .inr ⟨e',by simp[h1],h2⟩
theorem acw:∀(l:List Oper) (acc pre:List Nat),z8 acc l=some pre→(∀j,j<acc.length→pre.getD j 0=acc.getD j 0)∧pre.length=acc.length+l.length∧
  ∀j o,l[j]? =some o→(∀e,e∈r7 o→e.on<acc.length+j)∧∀i,(pre.getD (acc.length+j) 0).testBit i=true→∃e,e∈r7 o∧(e.on=i∨(pre.getD e.on 0).testBit i=true)
 |[],acc,pre,h=>by
  simp only[z8]at h
  injection h with h
  subst h
  exact⟨fun _ _=>rfl,rfl,fun j o hj=>by simp at hj⟩
 | o :: r, acc, pre, h => by
  simp only[z8]at h
  split at h
  ·rename_i jF
   obtain⟨h1,h2,h3⟩:=acw r _ pre h
   simp only[cG,cH,jU]at h1 h2 h3
   have Q9:∀e,e∈r7 o→e.on<acc.length:=fun e he=>by simpa using jh.1 jF e he
   refine⟨fun j hj=>?_,by simp only[cH];omega,fun j o' hj=>?_⟩
   ·rw[h1 j (by omega)]
    simp[NI,dG hj]
   ·cases j with
    | zero =>
     simp only[Aq,fI]at hj
     subst hj
     refine⟨fun e he=>by have:=Q9 e he;omega,fun i hi=>?_⟩
     rw[AA,h1 acc.length (by omega)]at hi
     have hv:(acc++[(r7 o).foldl (fun m e=>m|||1<<<e.on|||acc.getD e.on 0) 0]).getD acc.length 0=(r7 o).foldl (fun m e=>m|||1<<<e.on|||acc.getD e.on 0) 0:=by
      simp[NI]
     have br:((r7 o).foldl (fun m e=>m|||1<<<e.on|||acc.getD e.on 0) 0).testBit i=true:=by
      rw[←hv]
      exact hi
     rcases Yw _ _ br with h0|⟨e,e1,e2⟩
     ·simp at h0
     ·refine⟨e,e1,e2.imp id fun e3=>?_⟩
      rw[h1 e.on (by have:=Q9 e e1;omega)]
      have:(acc++[(r7 o).foldl (fun m e=>m|||1<<<e.on|||acc.getD e.on 0) 0]).getD e.on 0=acc.getD e.on 0:=by
       simp[NI,dG (Q9 e e1)]
      exact(gX (fun q=>Nat.testBit q i) this).trans e3
    |succ j=>
     simp only[IY]at hj
     obtain⟨g1,g2⟩:=h3 j o' hj
     refine⟨fun e he=>by have:=g1 e he;omega,fun i hi=>g2 i ?_⟩
     have:acc.length+1+j=acc.length+(j+1):=by omega
     rw[this]
     exact hi
  ·cases h
structure Je (l:List Oper) (pre:List Nat):Prop where
 len:pre.length=l.length
 edge:∀j o,l[j]? =some o→∀e,e∈r7 o→e.on<j
 why:∀j o,l[j]? =some o→∀i,before pre i j=true→∃e,e∈r7 o∧(e.on=i∨before pre i e.on=true)
theorem avO {l:List Oper} {pre:List Nat} (h:z8 [] l=some pre):Je l pre:=by
 obtain⟨_,h2,h3⟩:=acw l [] pre h
 simp only[jU,gU]at h2 h3
 exact⟨h2,fun j o hj=>(h3 j o hj).1,fun j o hj i hi=>(h3 j o hj).2 i hi⟩
theorem Je.lt {l:List Oper} {pre:List Nat} (h:Je l pre):∀(j i:Nat),before pre i j=true→i<j:=by
 intro j
 induction j using Nat.strongRecOn with
 | _ j ih =>
  intro i hi
  by_cases hj:j<l.length
  ·obtain⟨e,e1,e2⟩:=h.why j _ (dq hj) i hi
   have:=h.edge j _ (dq hj) e e1
   rcases e2 with e2|e2
   ·omega
   ·have:=ih e.on this i e2
    omega
  ·have:pre.getD j 0=0:=by
    rw[NI,lu (by rw[h.len];omega)]
    rfl
   simp only[before,this,Nat.zero_testBit]at hi
   cases hi
def mF (n:Nat) (listed:Array Bool):List Nat:=(List.range n).filter fun j=>!listed.getD j true
theorem SQ {n j:Nat} {listed:Array Bool}:j∈mF n listed↔j<n∧listed.getD j true=false:=by
 simp[mF,ji]
theorem awx {n i:Nat} {listed:Array Bool} (hi:i∈mF n listed):∃p q,mF n listed=p++i::q∧mF n (listed.setIfInBounds i true)=p++q∧∀j,j∈p→j<i∧listed.getD j true=false:=by
 obtain⟨h1,h2⟩:=SQ.1 hi
 refine⟨(List.range i).filter fun j=>!listed.getD j true,(List.range' (i+1) (n-(i+1))).filter fun j=>!listed.getD j true,?_,?_,fun j hj=>?_⟩
 ·have hr:List.range n=List.range i++i::List.range' (i+1) (n-(i+1)):=by
   rw[DH,DH,show n=i+(n-(i+1)+1)by omega,←List.range'_append_1]
   simp[NU]
   omega
  rw[mF,hr,qN,NH]
  simp[h2]
 ·have hr:List.range n=List.range i++i::List.range' (i+1) (n-(i+1)):=by
   rw[DH,DH,show n=i+(n-(i+1)+1)by omega,←List.range'_append_1]
   simp[NU]
   omega
  have hs:(listed.setIfInBounds i true).getD i true=true:=by
   by_cases aB:i<listed.size
   ·simp[Array.getD,aB]
   ·simp[Array.getD,aB]
  rw[mF,hr,qN,NH]
  simp only[hs,ov,ew,eu]
  congr 1
  ·refine NG fun j hj=>?_
   rw[getD_set_ne true (by have:=pW.1 hj;omega)]
  ·refine NG fun j hj=>?_
   rw[getD_set_ne true (by have:=List.mem_range'_1.1 hj;omega)]
 ·rw[ji,pW]at hj
  exact⟨hj.1,by simpa using hj.2⟩
theorem Qg {all:List Oper} {md:Nat→Md}:∀(l:List Oper) (i:Nat) (al:List bt),oE P all md i l=some al→al.length=l.length∧∀j o,l[j]? =some o→∃ao,al[j]? =some ao∧ao.dst=o.dst∧BI all o.guard=some ao.guard∧gN P (md (i+j)) o.op=some ao.op
 |[],i,al,h=>by
  simp only[oE]at h
  injection h with h
  subst h
  exact⟨rfl,fun j o hj=>by simp at hj⟩
 | o :: r, i, al, h => by
  simp only[oE]at h
  split at h
  ·rename_i g op rest e1 e2 e3
   injection h with h
   subst h
   obtain⟨h1,h2⟩:=Qg r (i+1) rest e3
   refine⟨by simp[h1],fun j o' hj=>?_⟩
   cases j with
   |zero=>
    simp only[Aq,fI]at hj
    subst hj
    exact⟨_,rfl,rfl,e1,e2⟩
   |succ j=>
    obtain⟨ao,a1,a2,a3,a4⟩:=h2 j o' (by simpa using hj)
    exact⟨ao,by simpa using a1,a2,a3,by rw[←a4];congr 2;omega⟩
  ·cases h
theorem air {call:bj} (dV:mL P B0 w0 call) (fi:oA P B0 w0 call) (bO:jl call) {rd:Option Nat} {n:Nat} {all:Array Oper} {md:Nat→Md} {as:List bt} {pre:List Nat} (hc:oE P all.toList md 0 all.toList=some as)
  (jZ:Je all.toList pre) (bz:tQ pre as=true) {f:St} {Q:Exit→Act→World→Prop}:∀(fuel:Nat) (listed:Array Bool) (G:aH) (st:St) (a:Act) (w:World),
  listed.size=all.size→(mF all.size listed).length≤fuel→(∀i j,listed.getD j false=true→before pre i j=true→listed.getD i false=true)→oW call as (mF all.size listed) st=some f→
  At P B0 w0 G k nl st.sig w→st.sig.loops.length=nl→eM G k nl st.tmps a→(∀o,o∈as→∀t,o.dst=some t→t<a.tmps.size)→(∀a' w',rZ P B0 w0 G k nl st.sig a f a' w'→Q .normal a' w')→
  wpAnyIn (jn rd) n P .any all Q fuel listed a w:=by
 have am7 : ∀ (listed : Array Bool), listed.size = all.size → Region.ready .any all listed = [] → mF all.size listed = [] := fun listed cj hr => by
  have key:∀j,j<all.size→listed.getD j true=true:=fun j=>by
   induction j using Nat.strongRecOn with
   | _ j ih =>
    intro hj
    cases hl:listed.getD j true with
    |true=>rfl
    | false =>
     exfalso
     have:j∈Region.ready .any all listed:=by
      rw[mem_ready]
      refine⟨hl,all[j],aeG hj,fun e he hb=>?_⟩
      have aB:=jZ.edge j all[j] (by simp[hj]) e (by simp[r7,ji];exact⟨he,hb⟩)
      have:=ih e.on aB (by omega)
      have amP:e.on<listed.size:=by omega
      simpa[Array.getD,amP]using this
     rw[hr]at this
     cases this
  rw[mF,Ut]
  intro j hj
  rw[key j (pW.1 hj)]
  simp
 have done:∀(listed:Array Bool) (G:aH) (st:St) (a:Act) (w:World),listed.size=all.size→Region.ready .any all listed=[]→oW call as (mF all.size listed) st=some f→At P B0 w0 G k nl st.sig w→eM G k nl st.tmps a→
   (∀a' w',rZ P B0 w0 G k nl st.sig a f a' w'→Q .normal a' w')→Q .normal a w:=fun listed G st a w cj hr dN h hR hQ=>by
  rw[am7 listed cj hr]at dN
  simp only[oW]at dN
  injection dN with dN
  subst dN
  exact hQ a w ⟨G,h,.refl _ _ _,rfl,hR,rfl,rfl⟩
 intro fuel
 induction fuel with
 | zero =>
  intro listed G st a w cj hlen aQ dN h aU hR hd hQ
  have iF:Region.ready .any all listed=[]:=by
   cases hr:Region.ready .any all listed with
   |nil=>rfl
   |cons i r=>
    exfalso
    have hi:i∈Region.ready .any all listed:=by rw[hr];simp
    obtain⟨h1,o,h2,_⟩:=mem_ready.1 hi
    have:i∈mF all.size listed:=SQ.2 ⟨(uI.1 h2).1,h1⟩
    have h0:mF all.size listed=[]:=rV (by omega)
    rw[h0]at this
    cases this
  exact⟨iF,done listed G st a w cj iF dN h hR hQ⟩
 | succ fuel ih =>
  intro listed G st a w cj hlen aQ dN h aU hR hd hQ
  refine⟨fun hr=>done listed G st a w cj hr dN h hR hQ,fun i hi=>?_⟩
  obtain⟨h1,o,h2,alI⟩:=mem_ready.1 hi
  have aB:i<all.size:=(uI.1 h2).1
  have gm:i∈mF all.size listed:=SQ.2 ⟨aB,h1⟩
  obtain⟨p,q,e1,e2,e3⟩:=awx gm
  have ho:all.toList[i]? =some o:=by simpa using h2
  have Y6:∀j,before pre j i=true→listed.getD j false=true:=fun j hj=>by
   obtain⟨e,c1,c2⟩:=jZ.why i o ho j hj
   have he:e∈o.after∧Region.binds .any e=true:=by
    simp only[r7,ji]at c1
    exact⟨by simpa using c1.1,c1.2⟩
   have hl:=alI e he.1 he.2
   rcases c2 with c2|c2
   ·rw[←c2];exact hl
   ·exact aQ j e.on hl c2
  have Zm:oW call as (i::(p++q)) st=some f:=by
   refine adY bz p st (fun j hj=>?_) (by rw[←e1];exact dN)
   obtain⟨j1,j2⟩:=e3 j hj
   refine⟨by omega,?_,?_⟩
   ·cases hb:before pre i j with
    |false=>rfl
    |true=>have:=jZ.lt j i hb;omega
   ·cases hb:before pre j i with
    |false=>rfl
    |true=>
     exfalso
     have:=Y6 j hb
     have hjs:j<listed.size:=by omega
     simp[Array.getD,hjs]at this j2
     rw[this]at j2
     cases j2
  obtain⟨g1,g2⟩:=Qg _ 0 as hc
  obtain⟨ao,a1,a2,a3,a4⟩:=g2 i o ho
  simp only[oW,a1]at Zm
  obtain⟨cZ,s1,s2⟩:=dS.1 Zm
  unfold wpOpIn
  simp only[h2]
  have jF:all=all.toList.toArray:=by simp
  have iY:=abP dV fi bO (rd:=rd) (n:=n) (all:=all.toList) (Q:=Q) h aU hR a3 a4 a2 (fun t ht=>hd ao (bE a1) t ht) s1 (K:=wpAnyIn (jn rd) n P .any all Q fuel (listed.setIfInBounds i true)) (fun tE w1 hp=>by
   obtain⟨G1,k1,k2,k3,k4,k5,k6⟩:=hp
   refine ih (listed.setIfInBounds i true) G1 cZ tE w1 (by simp[cj]) ?_ ?_ (by rw[e2];exact s2) k1 (k3.trans aU) k4 (fun o' nN t ht=>by rw[k5];exact hd o' nN t ht) (fun a' w' CJ=>hQ a' w' ?_)
   ·rw[e2]
    rw[e1]at hlen
    simp at hlen⊢
    omega
   ·intro x y hy dX
    by_cases hyi:y=i
    ·subst hyi
     exact getD_set_true (Y6 x dX)
    ·rw[getD_set_ne false (qQ hyi)]at hy
     exact getD_set_true (aQ x y hy dX)
   ·obtain⟨G2,q1,q2,q3,q4,q5,q6⟩:=CJ
    rw[k3]at q2 q3
    exact⟨G2,q1,k2.trans q2,q3,q4,q5.trans k5,q6.trans k6⟩)
  simpa using iY
theorem Im {call:bj} (dV:mL P B0 w0 call) (fi:oA P B0 w0 call) (bO:jl call) (hm:P.follows .mixedOrders=true) {rd:Option Nat} {n id:Nat} {all:Array Oper} {md:Nat→Md} {as:List bt} {pre:List Nat} {st aM:St} {a:Act}
  (jZ:z8 [] all.toList=some pre) (po:oE P all.toList md 0 all.toList=some as) (bz:tQ pre as=true) (h:At P B0 w0 G k nl st.sig w) (aU:st.sig.loops.length=nl) (hR:eM G k nl st.tmps a) (hd:∀o,o∈as→∀t,o.dst=some t→t<a.tmps.size) (hs:ops call as st=some aM)
  {Q:Exit→Act→World→Prop} (hQ:∀a' w',rZ P B0 w0 G k nl st.sig a aM a' w'→Q .normal a' w'):(Code.region id all true).wpIn (jn rd) n P Q a w:=by
 have hlen:=(Qg _ 0 _ po).1
 refine wpIn_region_any hm ?_
 have eP:At P B0 w0 G k nl st.sig w.drew:=⟨h.rel.drew,h.len,h.cur⟩
 have ZV:mF all.size (Array.replicate all.size false)=List.range as.length:=by
  rw[hlen]
  simp only[NA,mF]
  rw[List.filter_eq_self]
  intro j hj
  have:=pW.1 hj
  simp[Array.getD,this]
 have dN:oW call as (mF all.size (Array.replicate all.size false)) st=some aM:=by
  rw[ZV,awS]
  exact hs
 refine air dV fi bO po (avO jZ) bz all.size _ G st a _ (by simp) ?_ ?_ dN eP aU hR hd hQ
 ·rw[ZV,hlen];simp
 ·intro i j hj
  by_cases aB:j<all.size
  ·simp[Array.getD,aB]at hj
  ·simp[Array.getD,aB]at hj
theorem abb {mu:Mu} {pre:List Nat} {l:List Oper} {n0:Nat} {as:List bt} (h:KV P mu pre l=some (n0,as)):∃md,oE P l md 0 l=some as∧tQ pre as=true:=by
 unfold KV at h
 split at h
 ·rename_i AL po
  split at h
  ·rename_i bz
   injection h with h
   injection h with _ h
   subst h
   exact⟨_,po,bz⟩
  ·cases h
 ·cases h
theorem awv {call : bj} (dV : mL P B0 w0 call) (fi : oA P B0 w0 call) (bO : jl call) (hm : P.follows .mixedOrders = true) {rd : Option Nat} {n id : Nat} {all : Array Oper} {drawn : Bool} {as : List bt} {n0 : Nat} {st aM : St} {a : Act}
  {mu:Mu} (hc:KX P mu all.toList drawn=some (n0,as)) (h:At P B0 w0 G k nl st.sig w) (aU:st.sig.loops.length=nl) (hR:eM G k nl st.tmps a) (hd:∀o,o∈as→∀t,o.dst=some t→t<a.tmps.size) (hs:ops call as st=some aM)
  {Q:Exit→Act→World→Prop} (hQ:∀a' w',rZ P B0 w0 G k nl st.sig a aM a' w'→Q .normal a' w'):(Code.region id all drawn).wpIn (jn rd) n P Q a w:=by
 cases drawn with
 |false=>
  simp only[KX,ew,eu]at hc
  obtain⟨AL,mm,he⟩:=aZ.1 hc
  injection he with _ he
  subst he
  refine wpIn_region_list ?_
  have:=abW dV fi bO (rd:=rd) (n:=n) (Q:=Q) all.toList 0 AL G st aM a w mm h aU hR hd hs hQ
  simpa using this
 | true =>
  simp only[KX,cI]at hc
  split at hc
  ·cases hc
  rename_i pre jZ
  split at hc
  ·rename_i AL po
   split at hc
   ·rename_i bz
    injection hc with hc
    injection hc with _ hc
    subst hc
    exact Im dV fi bO hm jZ po bz h aU hR hd hs hQ
   ·split at hc
    ·rename_i Om al6
     split at hc
     ·rename_i bz
      injection hc with hc
      injection hc with _ hc
      subst hc
      exact Im dV fi bO hm jZ al6 bz h aU hR hd hs hQ
     ·split at hc
      ·split at hc
       ·rename_i as3 al7
        split at hc
        ·rename_i bz
         injection hc with hc
         injection hc with _ hc
         subst hc
         exact Im dV fi bO hm jZ al7 bz h aU hR hd hs hQ
        ·obtain⟨_,Rf,RG⟩:=abb hc
         exact Im dV fi bO hm jZ Rf RG h aU hR hd hs hQ
       ·cases hc
      ·obtain⟨_,Rf,RG⟩:=abb hc
       exact Im dV fi bO hm jZ Rf RG h aU hR hd hs hQ
    ·cases hc
  ·cases hc
end
end Go.Ax
/-
  Loops over functions: their records.
-/
namespace Go.Ax
open Go.RowKit
section
variable{P:Program} {B0:Nat} {w0:World} {G:aH} {k nl:Nat} {w:World} {s:ae}
theorem U7 (h:cQ P B0 w0 G s w) (o:Obj) {b i:Nat} {v:Value} (e:G.I b i=some v):(w.alloc o).cell? ⟨b,i,none⟩=some v:=by
 have aB:=h.uL e
 rw[World.cell?_alloc_lt _ _ _ (by exact aB)]
 exact h.fM b i v e
theorem atj (h:At P B0 w0 G k nl s w):∃G',At P B0 w0 G' k nl s (w.alloc (.deferred (some [])))∧bL k s.loops.length G G'∧G'.loops=G.loops∧
  ∃gr,G.ag[k]? =some gr∧G'.ag[k]? =some {gr with marks:=gr.marks++[w.heap.size]}:=by
 obtain⟨r,gr,hr,hg⟩:=h.dt (aI k)
 have aT:=h.rel.dt k r gr hr hg
 have hlen:G.ag.length=k+1:=by rw[h.rel.len,h.len]
 let G':aH:={G with ag:=G.ag.modify k fun q=>{q with marks:=q.marks++[w.heap.size]},own:=fun b=>if b=w.heap.size then some (.mark k gr.marks.length)else G.own b}
 have hH:G'.ag[k]? =some {gr with marks:=gr.marks++[w.heap.size]}:=by
  show(G.ag.modify k _)[k]? =_
  rw[eE,aj rfl,hg];rfl
 have hold:∀d,d≠k→G'.ag[d]? =G.ag[d]? :=fun d hd=>by
  show(G.ag.modify k _)[d]? =_
  rw[eE,ak (qQ hd)]
 have hle:∀k' gH,k'≤k→bL k' gH G G':=fun k' gH sI=>⟨fun _ _ _ e=>e,fun d q hd e=>by
  by_cases iT:d=k
  ·subst iT
   rw[hg]at e
   injection e with e
   subst e
   exact⟨_,hH,⟨fun _ _ e=>e,fun _ T e=>⟨T,e,.refl T⟩,rfl,fun _ _ e=>e⟩,fun aB=>by omega⟩
  ·exact⟨q,by rw[hold d iT];exact e,.refl q,fun _=>rfl⟩,fun _ _ _ e=>e⟩
 have oK:j9 (fun _=>False) G w G' (w.alloc (.deferred (some []))):=fun b o e _=>by
  have aB:=h.rel.fq b o e
  exact⟨by simp only[G'];rw[ak (by omega)];exact e,Below.heap_alloc _ _ _ aB,fun _ e=>e⟩
 have hs:cQ P B0 w0 G' s (w.alloc (.deferred (some []))):=by
  refine⟨fun b i v e=>U7 h.rel _ e,by simp[G',h.rel.len],h.rel.jL,fun d q gq h1 h2=>?_,fun l lp q h1 h2=>?_,fun d q h1=>?_,fun d d' q q' hd h1 h2=>?_,h.rel.below.alloc h.rel.low _,by have:=h.rel.low;simp;omega,fun b o e=>?_⟩
  ·have iT:d≤k:=by have:=(bI.1 h1).1;rw[h.len]at this;omega
   by_cases hd:d=k
   ·subst hd
    rw[hH]at h2
    injection h2 with h2
    subst h2
    rw[hr]at h1
    injection h1 with h1
    subst h1
    have sJ:=aT.dj (hle d gr.nl (aI _)) oK (fun o ho=>ho.elim)
    refine⟨sJ.gV,sJ.jx,sJ.box,sJ.full,sJ.tok,fun i b e=>?_,sJ.qi⟩
    rcases gi e with⟨_,e⟩|⟨hi,rfl⟩
    ·exact sJ.mark i b e
    ·subst hi
     exact⟨h.rel.low,by simp[G'],World.alloc_heap_new w _⟩
   ·rw[hold d hd]at h2
    exact(h.rel.dt d q gq h1 h2).dj (hle d _ iT) oK (fun o ho=>ho.elim)
  ·have hq:=h.rel.loop l lp q h1 h2
   obtain⟨k1,k2,_⟩:=oK _ _ hq.2.1 (fun x=>x)
   exact hq.dj (fun k' gH a1 _=>hle k' gH (by omega)) (by simp[G']) k1 k2
  ·by_cases hd:d=k
   ·subst hd
    rw[hH]at h1
    injection h1 with h1
    subst h1
    exact h.rel.pN d gr hg
   ·rw[hold d hd]at h1
    exact h.rel.pN d q h1
  ·have get:∀(d:Nat) (q:dF),G'.ag[d]? =some q→∃q0,G.ag[d]? =some q0∧q.nl=q0.nl:=fun d q e=>by
    by_cases hd:d=k
    ·subst hd
     rw[hH]at e
     injection e with e
     subst e
     exact⟨gr,hg,rfl⟩
    ·rw[hold d hd]at e
     exact⟨q,e,rfl⟩
   obtain⟨q0,a1,a2⟩:=get d q h1
   obtain⟨q0',tE,DU⟩:=get d' q' h2
   rw[a2,DU]
   exact h.rel.rL d d' q0 q0' hd a1 tE
  ·simp only[G']at e
   split at e
   ·rename_i hb;subst hb;simp
   ·have:=h.rel.fq b o e;simp;omega
 exact⟨G',h.to hs (hle k nl (aI _)) rfl,hle k _ (aI _),rfl,gr,hg,hH⟩
theorem aiD (h:At P B0 w0 G k nl s w) (aU:s.loops.length=nl) {lp:da} {rc:Loop} (h1:rc.state=.ready∧lp.ready=true∧lp.eH=none∧rc.pending=none) (hp:rc.params.toList=lp.params) {mu:Mu} (ha:comp P mu rc.assign=some lp.assign)
  (hb:comp P mu rc.body=some lp.body) (ta:j8 rc.tmps.size lp.assign=true) (tb:j8 rc.tmps.size lp.body=true) (tp:∀p,p∈lp.params→p<rc.tmps.size) (hR:∀t,Rel G k nl (lp.tmps t) (rc.tmps.getD t Go.undef)):
  ∃G',At P B0 w0 G' k nl (enterLoop s lp) (w.alloc (.loop rc))∧bL (k+1) nl G G'∧G'.ag=G.ag∧G'.loops=G.loops++[w.heap.size]:=by
 let G':aH:={G with loops:=G.loops++[w.heap.size],own:=fun b=>if b=w.heap.size then some (.loop nl)else G.own b}
 have kz:G.loops.length=nl:=by rw[h.rel.jL,aU]
 have hle:∀k' gH,bL k' gH G G':=fun k' gH=>⟨fun _ _ _ e=>e,fun d q hd e=>⟨q,e,.refl q,fun _=>rfl⟩,fun l r _ e=>qg e⟩
 have oK:j9 (fun _=>False) G w G' (w.alloc (.loop rc)):=fun b o e _=>by
  have aB:=h.rel.fq b o e
  exact⟨by simp only[G'];rw[ak (by omega)];exact e,Below.heap_alloc _ _ _ aB,fun _ e=>e⟩
 have hlen:G.ag.length=k+1:=by rw[h.rel.len,h.len]
 have hs:cQ P B0 w0 G' (enterLoop s lp) (w.alloc (.loop rc)):=by
  refine⟨fun b i v e=>U7 h.rel _ e,h.rel.len,by simp[G',enterLoop,h.rel.jL],fun d q gq a1 a2=>?_,fun l q r a1 a2=>?_,fun d q a1=>?_,h.rel.rL,h.rel.below.alloc h.rel.low _,by have:=h.rel.low;simp;omega,fun b o e=>?_⟩
  ·exact(h.rel.dt d q gq a1 a2).dj (hle d _) oK (fun o ho=>ho.elim)
  ·rcases gi a1 with⟨hl,a1⟩|⟨hl,rfl⟩
   ·rcases gi a2 with⟨_,a2⟩|⟨rm,_⟩
    ·have hq:=h.rel.loop l q r a1 a2
     obtain⟨k1,k2,_⟩:=oK _ _ hq.2.1 (fun x=>x)
     exact hq.dj (fun k' gH _ _=>hle k' gH) (aI _) k1 k2
    ·omega
   ·have hr:r=w.heap.size:=by
     rcases gi a2 with⟨rm,_⟩|⟨_,e⟩
     ·omega
     ·exact e
    subst hr
    have amJ:l=nl:=by omega
    subst amJ
    refine⟨h.rel.low,by simp[G'],rc,World.alloc_heap_new w _,fun _=>⟨h1.1,h1.2.2.1⟩,fun e=>?_,?_,?_,hp,⟨mu,ha,hb⟩,ta,tb,tp,k,l,?_,aI _,fun d gq e aB=>?_,fun t=>(hR t).mono (hle _ _) (aI _) (aI _)⟩
    ·rw[h1.2.1]at e;cases e
    ·rw[h1.2.2.2,h1.2.2.1];rfl
    ·rw[h1.2.2.1];simp
    ·show k+1≤G.ag.length
     omega
    ·have e':G.ag[d]? =some gq:=e
     have:=h.rel.pN d gq e'
     omega
  ·have:=h.rel.pN d q a1
   simp[enterLoop];omega
  ·simp only[G']at e
   split at e
   ·rename_i hb;subst hb;simp
   ·have:=h.rel.fq b o e;simp;omega
 obtain⟨gr,g1,g2⟩:=h.cur
 exact⟨G',⟨hs,h.len,gr,g1,g2⟩,hle _ _,rfl,rfl⟩
theorem axv (h:cQ P B0 w0 G s w) {l r:Nat} {lp ng:da} {rc nk:Loop} (hl:s.loops[l]? =some lp) (hr:G.loops[l]? =some r) (na:w.heap[r]? =some (.loop rc)) {f:da→da} (hf:f lp=ng) (ho:pX P G l ng nk):
  cQ P B0 w0 G (ef s l f) (w.putObj r (.loop nk)):=by
 obtain⟨b1,b2,_⟩:=h.loop l lp r hl hr
 have oK:j9 (· =.loop l) G w G (w.putObj r (.loop nk)):=fun b o e ho=>⟨e,World.putObj_heap_other (fun hb=>ho (by subst hb;rw[b2]at e;injection e with e;exact e.symm)),fun _ e=>e⟩
 have fV:r<w.heap.size:=(uI.1 na).1
 refine⟨fun b i v e=>?_,h.len,by simp[ef,h.jL],fun d q gq a1 a2=>?_,fun l' q r' a1 a2=>?_,fun d q a1=>?_,h.rL,?_,by rw[World.putObj_size];exact h.low,fun b o e=>by rw[World.putObj_size];exact h.fq b o e⟩
 ·have:=h.fM b i v e
  by_cases hb:b=r
  ·subst hb
   simp only[World.cell?,na]at this
   cases this
  ·have hh:(w.putObj r (.loop nk)).heap[b]? =w.heap[b]? :=World.putObj_heap_other hb
   rw[←this]
   simp only[World.cell?,hh]
 ·exact(h.dt d q gq a1 a2).dj (bL.refl _ _ _) oK (fun o ho=>by subst ho;exact⟨fun _ e=>(by cases e),fun _ e=>(by cases e),fun _ e=>(by cases e)⟩)
 ·simp only[ef,eE]at a1
  by_cases aU:l=l'
  ·subst aU
   rw[aj rfl,hl]at a1
   simp only[dJ,fI]at a1
   rw[hr]at a2
   injection a2 with a2
   subst a2
   rw[hf]at a1
   subst a1
   exact⟨b1,b2,nk,World.putObj_heap_same fV,ho⟩
  ·rw[ak aU]at a1
   have hq:=h.loop l' q r' a1 a2
   obtain⟨k1,k2,_⟩:=oK _ _ hq.2.1 (fun e=>aU (by injection e with e;exact e.symm))
   exact hq.dj (fun _ _ _ _=>bL.refl _ _ _) (aI _) k1 k2
 ·have:=h.pN d q a1
  simp[ef];omega
 ·exact h.below.trans ⟨rfl,rfl,rfl,by simp,fun c hc=>World.putObj_heap_other (by omega)⟩
theorem asJ (h:At P B0 w0 G k nl s w) (aU:s.loops.length=nl+1) {r:Nat} {lp:da} {rc:Loop} {o':Obj} (hl:s.loops[nl]? =some lp) (hr:G.loops[nl]? =some r) (na:w.heap[r]? =some (.loop rc)):
  ∃G',At P B0 w0 G' k nl {s with loops:=s.loops.take nl} (w.putObj r o')∧bL (k+1) nl G G'∧G'.ag=G.ag:=by
 obtain⟨b1,b2,_⟩:=h.rel.loop nl lp r hl hr
 let G':aH:={G with loops:=G.loops.take nl,own:=fun b=>if b=r then none else G.own b}
 have hle:∀k' gH,gH≤nl→bL k' gH G G':=fun k' gH hn=>⟨fun _ _ _ e=>e,fun d q hd e=>⟨q,e,.refl q,fun _=>rfl⟩,fun l r aB e=>by
  show(G.loops.take nl)[l]? =_
  rw[wI,aj (by omega)]
  exact e⟩
 have oK:j9 (· =.loop nl) G w G' (w.putObj r o'):=fun b o e ho=>by
  have hb:b≠r:=fun hb=>ho (by subst hb;rw[b2]at e;injection e with e;exact e.symm)
  exact⟨by simp only[G'];rw[ak hb];exact e,World.putObj_heap_other hb,fun _ e=>e⟩
 have hlen:G.ag.length=k+1:=by rw[h.rel.len,h.len]
 obtain⟨gk,g1,g2⟩:=h.cur
 have ZL:∀(d:Nat) (q:dF),G.ag[d]? =some q→q.nl≤nl:=fun d q e=>by
  have hd:d≤k:=by have:=(bI.1 e).1;omega
  rw[←g2]
  exact h.rel.rL d k q gk hd e g1
 have hs:cQ P B0 w0 G' {s with loops:=s.loops.take nl} (w.putObj r o'):=by
  refine⟨fun b i v e=>?_,h.rel.len,by simp[G',h.rel.jL],fun d q gq a1 a2=>?_,fun l' q r' a1 a2=>?_,fun d q a1=>?_,h.rel.rL,?_,by rw[World.putObj_size];exact h.rel.low,fun b o e=>?_⟩
  ·have:=h.rel.fM b i v e
   by_cases hb:b=r
   ·subst hb
    simp only[World.cell?,na]at this
    cases this
   ·have hh:(w.putObj r o').heap[b]? =w.heap[b]? :=World.putObj_heap_other hb
    rw[←this]
    simp only[World.cell?,hh]
  ·exact(h.rel.dt d q gq a1 a2).dj (hle d _ (ZL d gq a2)) oK (fun o ho=>by subst ho;exact⟨fun _ e=>(by cases e),fun _ e=>(by cases e),fun _ e=>(by cases e)⟩)
  ·have tE:(s.loops.take nl)[l']? =some q:=a1
   have DU:(G.loops.take nl)[l']? =some r':=a2
   rw[wI]at tE DU
   split at tE
   ·rename_i aB
    rw[aj aB]at DU
    have hq:=h.rel.loop l' q r' tE DU
    obtain⟨k1,k2,_⟩:=oK _ _ hq.2.1 (fun e=>by injection e with e;omega)
    exact hq.dj (fun k' gH _ hn=>hle k' gH (by omega)) (aI _) k1 k2
   ·cases tE
  ·have tE:G.ag[d]? =some q:=a1
   have:=ZL d q tE
   simp;omega
  ·exact h.rel.below.trans ⟨rfl,rfl,rfl,by simp,fun c hc=>World.putObj_heap_other (by omega)⟩
  ·rw[World.putObj_size]
   simp only[G']at e
   split at e
   ·cases e
   ·exact h.rel.fq b o e
 exact⟨G',⟨hs,h.len,gk,g1,g2⟩,hle _ _ (aI _),rfl⟩
end
end Go.Ax
/-
  Code.
-/
namespace Go.Ax
open Go.RowKit
def BR:c8→Exit
 |.normal=>.normal
 |.exit id=>.exit id
 |.ret=>.ret
section
variable{P:Program} {B0:Nat} {w0:World} {G:aH} {k nl:Nat} {w:World} {s:ae} {base:List Nat}
def yv (rd:Option Nat) (G:aH) (nl:Nat):Prop:=∀r,rd=some r→∃l:Nat,l<nl∧G.loops[l]? =some r
def Defs (rd : Option Nat) (base : List Nat) (G : aH) (k : Nat) (a : Act) : Prop := rd = none → ∃ gr new, G.ag[k]? = some gr ∧ gr.marks = base ++ new ∧ a.defers = (new.map fun b => (⟨.collected b, #[]⟩ : Deferred)).reverse
def yq (P:Program) (B0:Nat) (w0:World) (rd:Option Nat) (base:List Nat) (G:aH) (k nl:Nat) (a:Act) (e:c8) (aM:St):Exit→Act→World→Prop:=fun x a' w'=>
 x=BR e∧∃G',At P B0 w0 G' k nl aM.sig w'∧bL k nl G G'∧aM.sig.loops.length=nl∧eM G' k nl aM.tmps a'∧a'.tmps.size=a.tmps.size∧Defs rd base G' k a'
theorem yv.mono {rd:Option Nat} {G':aH} (h:yv rd G nl) (hle:bL k nl G G'):yv rd G' nl:=fun r e=>by
 obtain⟨l,h1,h2⟩:=h r e
 exact⟨l,h1,hle.loops l r h1 h2⟩
theorem Defs.mono {rd:Option Nat} {G':aH} {a a':Act} (h:Defs rd base G k a) (hle:bL (k+1) nl G G') (hd:a'.defers=a.defers):Defs rd base G' k a':=fun e=>by
 obtain⟨gr,new,h1,h2,h3⟩:=h e
 obtain⟨bP,g1,_,g3⟩:=hle.ag k gr (by omega) h1
 exact⟨bP,new,g1,by rw[g3 (by omega),h2],by rw[hd,h3]⟩
theorem aiE {rd:Option Nat} {a:Act} (h:At P B0 w0 G k nl s w) (aU:s.loops.length=nl) (iG:yv rd G nl) (il:Defs rd base G k a) (ps:Array Tmp) (assign body:Code):
  ∃wm Gm mark,At P B0 w0 Gm k nl s wm∧bL k nl G Gm∧Gm.loops=G.loops∧Defs rd base Gm k {a with defers:=mark++a.defers}∧∀fn,∃rc:Loop,(Instr.enterLoop fn a.tmps ps assign body rd).run P w=.ok (wm.heap.size,mark) (wm.alloc (.loop rc))∧
   rc.state=.ready∧rc.pending=none∧rc.tmps=a.tmps∧rc.params=ps∧rc.assign=assign∧rc.body=body:=by
 cases rd with
 | none =>
  obtain⟨Gm,g1,g2,g3,gr,g4,g5⟩:=atj h
  obtain⟨bP,new,e1,e3,e2⟩:=il rfl
  rw[g4]at e1
  injection e1 with e1
  subst e1
  refine ⟨_, Gm, [{ target := .collected w.heap.size, args := #[] }], g1, by rw [aU] at g2; exact g2, g3, fun _ => ⟨_, new ++ [w.heap.size], g5, by simp [e3], ?_⟩, fun fn => ⟨{ state := .ready, pending := none, fn, tmps := a.tmps, params := ps, assign, body, defers := w.heap.size }, ?_, rfl, rfl, rfl, rfl, rfl, rfl⟩⟩
  ·simp[e2]
  ·have:=run_enterLoop_outer (P:=P) (w:=w) fn a.tmps ps assign body
   rw[this]
   simp
 |some r0=>
  obtain⟨l,h1,h2⟩:=iG r0 rfl
  have aB:l<s.loops.length:=by omega
  obtain⟨_,_,rc0,h3,_⟩:=h.rel.loop l _ r0 (dq aB) h2
  refine⟨w,G,[],h,.refl _ _ _,rfl,fun e=>(by cases e),fun fn=>⟨{state:=.ready,pending:=none,fn,tmps:=a.tmps,params:=ps,assign,body,defers:=rc0.defers},?_,rfl,rfl,rfl,rfl,rfl,rfl⟩⟩
  have:=run_getLoop (P:=P) h3
  unfold Instr.enterLoop
  simp only[Sem.run_bind,this,run_newObj_alloc,Result.andThen,Sem.run_pure]
theorem awr {call:bj} (dV:mL P B0 w0 call) {rd:Option Nat} {n:Nat} {f:Operand} {af:aJ} {ps:Array Tmp} {assign body:Code} {AI ab:au} {st aM:St} {a:Act} {e:c8} {lf:Nat}
  (h:At P B0 w0 G k nl st.sig w) (aU:st.sig.loops.length=nl) (hR:eM G k nl st.tmps a) (iG:yv rd G nl) (il:Defs rd base G k a) (cf:dT f=some af) {mu:Mu} (ca:comp P mu assign=some AI) (cb:comp P mu body=some ab)
  (tp:∀p,p∈ps.toList→p<a.tmps.size) (ta:j8 a.tmps.size AI=true) (tb:j8 a.tmps.size ab=true) (he:exec call lf (.rangeFunc af ps.toList AI ab) st=some (e,aM)):
  (Code.rangeFunc f ps assign body).wpIn (jn rd) n P (yq P B0 w0 rd base G k nl a e aM) a w:=by
 simp only[exec]at he
 split at he
 case h_2=>cases he
 rename_i g first caps sH
 split at he
 case h_2=>cases he
 rename_i res s hc
 split at he
 case h_2=>cases he
 rename_i pe s1 dc
 injection he with he
 injection he with lO kv
 subst lO kv
 rw[aU]at hc dc
 have qq:=dm cf hR
 rw[sH]at qq
 obtain⟨a1,a2,hfv,l1,l2,r1,r2⟩:=qq.CT
 obtain⟨wm,Gm,mark,m1,m2,m3,m4,m5⟩:=aiE h aU iG il ps assign body
 refine wpIn_rangeFunc fun fn _=>?_
 obtain⟨rc,q1,q2,q3,q4,q5,q6,q7⟩:=m5 fn
 obtain⟨G1,e1,e2,e3,e4⟩:=aiD (lp:=⟨true,none,st.tmps,ps.toList,AI,ab⟩) (rc:=rc) m1 aU ⟨q2,rfl,rfl,q3⟩ (by rw[q5]) (by rw[q6];exact ca) (by rw[q7];exact cb) (by rw[q4];exact ta) (by rw[q4];exact tb) (by rw[q4];exact tp)
  (fun t=>by rw[q4];exact(hR t).mono m2 (aI _) (aI _))
 have YV:bL k nl G G1:=m2.trans (e2.less (by omega) (aI _))
 have kz:Gm.loops.length=nl:=by rw[m1.rel.jL,aU]
 have kD:G1.loops[nl]? =some wm.heap.size:=by rw[e4,jy (by omega)];simp[kz]
 have fL := dV.fn G1 k (nl + 1) _ _ g (first ++ .yield nl :: caps) (a1 ++ #[.func (.yield wm.heap.size) #[] #[]] ++ a2) res s e1.rel (by simp [enterLoop, h.len]) (by simp [enterLoop, h.len]) (by simp [enterLoop, aU]) (by simp [l1, l2]; omega) (fun i hi => by
  rw[B4,B4]
  simp only[cG,cH]at hi
  by_cases h1:i<first.length
  ·rw[aj (by simp;omega),aj (by omega)]
   have e:(first++AV.yield nl::caps)[i]=first[i]:=wJ h1
   rw[e]
   exact .cl ((r1 i h1).mono YV.I)
  ·by_cases h2:i=first.length
   ·subst h2
    rw[aj (by simp;omega),ak (by omega)]
    have e:(first++AV.yield nl::caps)[first.length]=.yield nl:=by
     rw[wK (aI _)]
     simp
    have e' : (#[Value.func (.yield wm.heap.size) #[] #[]] : Array Value).getD (first.length - a1.size) Go.undef = .func (.yield wm.heap.size) #[] #[] := by rw [l1, DQ]; rfl
    rw[e,e']
    exact .yield (by omega) kD
   ·rw[ak (by simp;omega)]
    have e:(first++AV.yield nl::caps)[i]=caps[i-(first.length+1)]'(by omega):=by
     rw[wK (by omega)]
     have:i-first.length=(i-(first.length+1))+1:=by omega
     simp only[this,IZ]
    have e' : (a1 ++ #[Value.func (.yield wm.heap.size) #[] #[]]).size = first.length + 1 := by simp [l1]
    rw[e,e']
    exact(r2 _ _).mono YV (aI _) (tz _)) hc
 obtain⟨zi,Re⟩:=fL
 have iW : (resolve a.eval (rangeCall f wm.heap.size) 0).run P (wm.alloc (.loop rc)) = .ok { target := .fn (.func g) a2, args := a1 ++ #[.func (.yield wm.heap.size) #[] #[]] } (wm.alloc (.loop rc)) := by
  have amT : (rangeCall f wm.heap.size).args.map a.eval = #[.func (.yield wm.heap.size) #[] #[]] := by simp [Act.eval]
  simp only[resolve,hfv,amT,MT (P:=P) rfl]
 refine⟨_,mark,_,_,_,g,_,_,by rw[aju];exact q1,iW,fun f' _=>Qz rd f',zi.run _ _,(by rw[Ld];intro h;cases h),?_⟩
 refine CallsIn.mono (Lc rd Re) fun en w3 hen=>?_
 obtain⟨z,rfl,G2,c1,c2,c3,c4,c5⟩:=hen
 have sC:At P B0 w0 G2 k nl s w3:=by
  have fm:(enterLoop st.sig ⟨true,none,st.tmps,ps.toList,AI,ab⟩).loops.length=nl+1:=by simp[enterLoop,aU]
  exact e1.to c1 (c4.less (by omega) (by omega)) c2
 have rm:s.loops.length=nl+1:=by rw[c3];simp[enterLoop,aU]
 have fm:(enterLoop st.sig ⟨true,none,st.tmps,ps.toList,AI,ab⟩).loops.length=nl+1:=by simp[enterLoop,aU]
 unfold ya at dc
 rw[aj rm]at dc
 split at dc
 case h_2=>cases dc
 rename_i lp rn
 split at dc
 case isFalse=>cases dc
 rename_i HK
 injection dc with dc
 injection dc with Mp R1
 subst Mp R1
 have xY:G2.loops[nl]? =some wm.heap.size:=c4.loops nl _ (by omega) kD
 obtain⟨b1,b2,qG,b3,b4⟩:=c1.loop nl lp _ rn xY
 obtain⟨o1,o2,o3,o4,_⟩:=b4
 have al4:qG.state≠.busy:=by
  rcases HK with hr|hr
  ·rw[(o1 hr).1];simp
  ·cases aT:lp.ready with
   |true=>rw[(o1 aT).1];simp
   |false=>rw[o2 aT,aj hr];simp
 have sF:=run_endLoop (P:=P) b3 al4
 obtain⟨G3,d1,d2,d3⟩:=asJ (o':=.loop {qG with state:=.exhausted}) sC rm rn xY b3
 have hG2:bL (k+1) nl Gm G2:=e2.trans (c4.less (aI _) (by omega))
 have YW:bL (k+1) nl Gm G3:=hG2.trans d2
 have YX:bL k nl G G3:=m2.trans (YW.less (by omega) (aI _))
 have pE:∀ex,ex=BR (lp.eH.getD .normal)→yq P B0 w0 rd base G k nl a (lp.eH.getD .normal) ⟨st.tmps,{s with loops:=s.loops.take nl}⟩ ex {a with defers:=mark++a.defers} (w3.putObj wm.heap.size (.loop {qG with state:=.exhausted})):=fun ex hex=>
  ⟨hex,G3,d1,YX,by simp[rm],fun t=>(hR t).mono YX (aI _) (aI _),rfl,m4.mono YW rfl⟩
 generalize w3.putObj wm.heap.size (.loop {qG with state:=.exhausted})=w4 at pE sF
 refine⟨qG.pending,w4,sF,?_⟩
 rw[o3]
 cases zA:lp.eH with
 |none=>
  rw[zA]at pE
  exact pE _ rfl
 |some pe=>
  rw[zA]at pE
  cases pe with
  |normal=>exact absurd zA o4
  |exit id=>exact wpIn_exit (pE _ rfl)
  |ret=>exact wpIn_ret (pE _ rfl)
theorem least {p:Nat→Prop} (h:∃m,p m):∃m,p m∧∀j,j<m→¬p j:=by
 obtain⟨m,hm⟩:=h
 induction m using Nat.strongRecOn with
 | _ m ih =>
  by_cases hj:∃j,j<m∧p j
  ·obtain⟨j,h1,h2⟩:=hj
   exact ih j h1 h2
  ·exact⟨m,hm,fun j h1 h2=>hj ⟨j,h1,h2⟩⟩
theorem ay3 {F:Fence} {n:Nat} {c:Code} {Q:Exit→Act→World→Prop} {a:Act} {w:World} (D:Nat→Act→World→Prop) {m:Nat} (h0:D m a w)
  (hs:∀m a w,D m a w→c.wpIn F n P (Exit.then (fun a' w'=>∃j,j<m∧D j a' w') Q) a w):(Code.loop c).wpIn F n P Q a w:=by
 classical
 refine wpIn_loop (fun a w=>∃m,D m a w) (fun a w=>if h:∃m,D m a w then(least h).choose else 0) ⟨m,h0⟩ fun a w hI=>?_
 have hc:=(least hI).choose_spec
 refine wpIn_mono (hs _ a w hc.1) fun e a' w' hq=>?_
 cases e with
 |normal=>
  obtain⟨j,h1,h2⟩:=hq
  refine⟨⟨j,h2⟩,?_⟩
  rw[tP hI,tP ⟨j,h2⟩]
  have mm:=(least (p:=fun m=>D m a' w') ⟨j,h2⟩).choose_spec
  have:¬j<(least (p:=fun m=>D m a' w') ⟨j,h2⟩).choose:=fun aB=>mm.2 j aB h2
  omega
 |_=>exact hq
theorem yq.trans {rd:Option Nat} {G1:aH} {a a1:Act} {e:c8} {aM:St} {x:Exit} {a':Act} {w':World} (hle:bL k nl G G1) (hs:a1.tmps.size=a.tmps.size) (h:yq P B0 w0 rd base G1 k nl a1 e aM x a' w'):
  yq P B0 w0 rd base G k nl a e aM x a' w':=by
 obtain⟨h1,G',h2,h3,h4,h5,h6,h7⟩:=h
 exact⟨h1,G',h2,hle.trans h3,h4,h5,h6.trans hs,h7⟩
theorem K7 {call:bj} (dV:mL P B0 w0 call) (fi:oA P B0 w0 call) (bO:jl call) (hm:P.follows .mixedOrders=true) {rd:Option Nat} {n lf:Nat} {mu:Mu}:∀(c:Code) (ac:au) (G:aH) (st aM:St) (a:Act) (w:World) (e:c8),comp P mu c=some ac→
  At P B0 w0 G k nl st.sig w→st.sig.loops.length=nl→eM G k nl st.tmps a→j8 a.tmps.size ac=true→yv rd G nl→Defs rd base G k a→exec call lf ac st=some (e,aM)→
  c.wpIn (jn rd) n P (yq P B0 w0 rd base G k nl a e aM) a w:=by
 intro c
 induction c with
 |skip=>
  intro ac G st aM a w e hc h aU hR ht iG il he
  simp only[comp]at hc
  injection hc with hc
  subst hc
  simp only[exec]at he
  injection he with he
  injection he with h1 h2
  subst h1 h2
  exact wpIn_skip ⟨rfl,G,h,.refl _ _ _,aU,hR,rfl,il⟩
 | region id l drawn =>
  intro ac G st aM a w e hc h aU hR ht iG il he
  simp only[comp]at hc
  obtain⟨⟨n0,as⟩,has,rfl⟩:=aZ.1 hc
  have key:∀(G:aH) (st:St),At P B0 w0 G k nl st.sig w→st.sig.loops.length=nl→eM G k nl st.tmps a→j8 a.tmps.size (.region drawn as)=true→Defs rd base G k a→exec call lf (.region drawn as) st=some (e,aM)→
    (Code.region id l drawn).wpIn (jn rd) n P (yq P B0 w0 rd base G k nl a e aM) a w:=fun G st h aU hR ht il he=>by
   simp only[exec]at he
   obtain⟨cZ,hs,he⟩:=aZ.1 he
   injection he with h1 h2
   subst h1 h2
   simp only[j8]at ht
   refine awv dV fi bO hm has h aU hR (fun o ho t hd=>?_) hs fun a' w' hp=>?_
   ·have:=jh.1 ht o ho
    rw[hd]at this
    simpa using this
   ·obtain⟨G',g1,g2,g3,g4,g5,g6⟩:=hp
    rw[aU]at g2 g3
    exact⟨rfl,G',g1,g2.less (by omega) (aI _),g3,g4,g5,il.mono g2 g6⟩
  cases n0 with
  |zero=>exact key G st h aU hR ht il he
  | succ n0 =>
   obtain⟨G1,r1,r2,r3,_⟩:=awE h (n0+1)
   simp only[Ty,j8,dE]at ht
   have ku:exec call lf (.region drawn as) ⟨st.tmps,st.sig.l5 (n0+1)⟩=some (e,aM):=by
    simpa[Ty,exec,ops,kO,aO,kL]using he
   rw[aU]at r2 r3
   have hle:bL k nl G G1:=r2.less (by omega) (aI _)
   refine wpIn_mono (key G1 ⟨st.tmps,st.sig.l5 (n0+1)⟩ r1 r3 (fun t=>(hR t).mono hle (aI _) (aI _)) ht.2 (il.mono r2 rfl) ku) fun x a' w' hp=>?_
   obtain⟨h1,G',h2,h3,h4,h5,h6,h7⟩:=hp
   exact⟨h1,G',h2,hle.trans h3,h4,h5,h6,h7⟩
 | seq x y HT MB =>
  intro ac G st aM a w e hc h aU hR ht iG il he
  simp only[comp]at hc
  split at hc
  case h_2=>cases hc
  rename_i ax ay e1 e2
  injection hc with hc
  subst hc
  simp only[j8,dE]at ht
  simp only[exec]at he
  split at he
  ·rename_i cZ hx
   refine wpIn_seq (wpIn_mono (HT ax G st cZ a w .normal e1 h aU hR ht.1 iG il hx) fun ex a1 w1 hp=>?_)
   obtain⟨rfl,G1,g1,g2,g3,g4,g5,g6⟩:=hp
   exact wpIn_mono (MB ay G1 cZ aM a1 w1 e e2 g1 g3 g4 (by rw[g5];exact ht.2) (iG.mono g2) g6 he) fun ex a2 w2 hq=>hq.trans g2 g5
  ·rename_i aF
   refine wpIn_seq (wpIn_mono (HT ax G st aM a w e e1 h aU hR ht.1 iG il he) fun ex a1 w1 hp=>?_)
   have hx:=hp.1
   subst hx
   cases e with
   |normal=>exact absurd he (aF _)
   |exit id=>exact hp
   |ret=>exact hp
 |cond cc x y HT MB=>
  intro ac G st aM a w e hc h aU hR ht iG il he
  simp only[comp]at hc
  split at hc
  case h_2=>cases hc
  rename_i z ax ay e0 e1 e2
  injection hc with hc
  subst hc
  simp only[j8,dE]at ht
  simp only[exec]at he
  split at he
  case h_2=>cases he
  rename_i t hz
  have hv:=dm e0 hR
  rw[hz]at hv
  refine wpIn_cond hv.gp ?_
  cases t with
  |true=>exact HT ax G st aM a w e e1 h aU hR ht.1 iG il (by simpa using he)
  |false=>exact MB ay G st aM a w e e2 h aU hR ht.2 iG il (by simpa using he)
 | block id x ih =>
  intro ac G st aM a w e hc h aU hR ht iG il he
  simp only[comp]at hc
  obtain⟨ax,e1,rfl⟩:=aZ.1 hc
  simp only[j8]at ht
  simp only[exec]at he
  split at he
  ·rename_i j cZ hx
   refine wpIn_block (wpIn_mono (ih ax G st cZ a w (.exit j) e1 h aU hR ht iG il hx) fun ex a1 w1 hp=>?_)
   obtain⟨rfl,hp⟩:=hp
   simp only[BR,Exit.inBlock]
   split at he
   ·rename_i hj
    injection he with he
    injection he with h1 h2
    subst h1 h2
    rw[aj hj]
    exact⟨rfl,hp⟩
   ·rename_i hj
    injection he with he
    injection he with h1 h2
    subst h1 h2
    rw[ak hj]
    exact⟨rfl,hp⟩
  ·rename_i aF
   refine wpIn_block (wpIn_mono (ih ax G st aM a w e e1 h aU hR ht iG il he) fun ex a1 w1 hp=>?_)
   have hx:=hp.1
   subst hx
   cases e with
   |exit j=>exact absurd he (aF _ _)
   |normal=>exact hp
   |ret=>exact hp
 | loop x ih =>
  intro ac G st aM a w e hc h aU hR ht iG il he
  simp only[comp]at hc
  obtain⟨ax,e1,rfl⟩:=aZ.1 hc
  simp only[j8]at ht
  simp only[exec]at he
  refine ay3 (fun m a1 w1=>∃G1 cZ,At P B0 w0 G1 k nl cZ.sig w1∧bL k nl G G1∧cZ.sig.loops.length=nl∧eM G1 k nl cZ.tmps a1∧a1.tmps.size=a.tmps.size∧Defs rd base G1 k a1∧lW (exec call lf ax) m cZ=some (e,aM))
   (m:=lf) ⟨G,st,h,.refl _ _ _,aU,hR,rfl,il,he⟩ fun m a1 w1 hD=>?_
  obtain⟨G1,cZ,g1,g2,g3,g4,g5,g6,hl⟩:=hD
  cases m with
  |zero=>simp[lW]at hl
  | succ m =>
   simp only[lW]at hl
   split at hl
   ·rename_i wx hx
    refine wpIn_mono (ih ax G1 cZ wx a1 w1 .normal e1 g1 g3 g4 (by rw[g5];exact ht) (iG.mono g2) g6 hx) fun ex a2 w2 hp=>?_
    obtain⟨rfl,G2,q1,q2,q3,q4,q5,q6⟩:=hp
    exact⟨m,by omega,G2,wx,q1,g2.trans q2,q3,q4,q5.trans g5,q6,hl⟩
   ·rename_i aF
    refine wpIn_mono (ih ax G1 cZ aM a1 w1 e e1 g1 g3 g4 (by rw[g5];exact ht) (iG.mono g2) g6 hl) fun ex a2 w2 hp=>?_
    have hx:=hp.1
    subst hx
    cases e with
    |normal=>exact absurd hl (aF _)
    |exit j=>exact hp.trans g2 g5
    |ret=>exact hp.trans g2 g5
 |rangeFunc f ps x y HT MB=>
  intro ac G st aM a w e hc h aU hR ht iG il he
  simp only[comp]at hc
  split at hc
  case h_2=>cases hc
  rename_i z ax ay e0 e1 e2
  injection hc with hc
  subst hc
  simp only[j8,dE]at ht
  exact awr dV h aU hR iG il e0 e1 e2 (fun p hp=>by simpa using jh.1 ht.1.1 p hp) ht.1.2 ht.2 he
 |exit id=>
  intro ac G st aM a w e hc h aU hR ht iG il he
  simp only[comp]at hc
  injection hc with hc
  subst hc
  simp only[exec]at he
  injection he with he
  injection he with h1 h2
  subst h1 h2
  exact wpIn_exit ⟨rfl,G,h,.refl _ _ _,aU,hR,rfl,il⟩
 |ret=>
  intro ac G st aM a w e hc h aU hR ht iG il he
  simp only[comp]at hc
  injection hc with hc
  subst hc
  simp only[exec]at he
  injection he with he
  injection he with h1 h2
  subst h1 h2
  exact wpIn_ret ⟨rfl,G,h,.refl _ _ _,aU,hR,rfl,il⟩
 |_=>
  intro ac G st aM a w e hc
  simp[comp]at hc
end
end Go.Ax
/-
  What an execution may not write to.
-/
namespace Go.Ax
open Go.RowKit
theorem Fr.refl (s:ae):Fr s s:=⟨rfl,rfl,rfl,rfl,fun _ _=>rfl,fun _ _=>rfl⟩
theorem Fr.trans {a b c:ae} (h:Fr a b) (k:Fr b c):Fr a c:=
 ⟨k.yz.trans h.yz,k.jL.trans h.jL,k.ro.trans h.ro,k.cq.trans h.cq,fun d hd=>(k.ag d (by rw[h.ro];exact hd)).trans (h.ag d hd),fun l hl=>(k.loops l (by rw[h.cq];exact hl)).trans (h.loops l hl)⟩
theorem Fr.bG (s:ae) {d:Nat} (hd:s.ro≤d) (f:Rec→Rec):Fr s (s.bG d f):=
 ⟨by simp[ae.bG],rfl,rfl,rfl,fun d' h=>by simp only[ae.bG,eE];rw[ak (by omega)],fun _ _=>rfl⟩
theorem Fr.fit {m m':ae} {d:Nat} {x y:AV} (hd:m.ro≤d) (hc:m.ro≤m.cur) (h:m.fit d x=some (y,m')):Fr m m':=by
 unfold ae.fit at h
 split at h
 ·split at h
  ·injection h with h;injection h with _ h;subst h;exact .refl _
  ·split at h
   ·rename_i d' g es xs _ cu
    injection h with h
    injection h with _ h
    subst h
    have h1:Fr m (m.mH d' g none):=Fr.bG m (by rw[cu.1];exact hc) _
    exact h1.trans (Fr.bG _ (by rw[h1.ro];exact hd) _)
   ·injection h with h;injection h with _ h;subst h;exact .refl _
 ·split at h
  ·injection h with h;injection h with _ h;subst h;exact .refl _
  ·cases h
 ·split at h
  ·injection h with h;injection h with _ h;subst h;exact .refl _
  ·cases h
 ·obtain⟨z,_,h⟩:=aZ.1 h
  injection h with _ h
  subst h
  exact .refl _
theorem Fr.cur {m m':ae} (h:Fr m m'):m'.cur=m.cur:=by simp[ae.cur,h.yz]
theorem Fr.fitAll {d:Nat}:∀{xs ys:List AV} {m m':ae},m.ro≤d→m.ro≤m.cur→m.fitAll d xs=some (ys,m')→Fr m m'
 |[],ys,m,m',_,_,h=>by
  simp only[ae.fitAll]at h
  injection h with h
  injection h with _ h
  subst h
  exact .refl _
 | x :: r, ys, m, m', hd, hc, h => by
  simp only[ae.fitAll]at h
  split at h
  ·cases h
  ·rename_i y m1 h1
   have f1:=Fr.fit hd hc h1
   split at h
   ·cases h
   ·rename_i s m2 h2
    injection h with h
    injection h with _ h
    subst h
    exact f1.trans (Fr.fitAll (by rw[f1.ro];exact hd) (by rw[f1.ro,f1.cur];exact hc) h2)
theorem Fr.store {m m':ae} {n:Nat} {x y:AV} (hc:m.ro≤m.cur) (h:m.store n x y=some m'):Fr m m':=by
 unfold ae.store at h
 split at h
 ·split at h
  ·rename_i cu
   split at h
   ·cases h
   ·rename_i cs m1 h1
    have f1:Fr m m1:=by
     split at h1
     ·injection h1 with h1;injection h1 with _ h1;subst h1;exact .refl _
     ·exact Fr.fitAll cu.1 hc h1
    split at h
    ·cases h
    ·split at h
     ·injection h with h
      subst h
      exact f1.trans (Fr.bG _ (by rw[f1.ro];exact cu.1) _)
     ·cases h
  ·cases h
 ·cases h
theorem Fr.eG {m:ae} (hc:m.ro≤m.cur) (cs:List AV):Fr m (m.eG cs).2:=Fr.bG m hc _
theorem Fr.append {m m':ae} {es:Nat} {x y v:AV} (hc:m.ro≤m.cur) (h:et m es x y=some (v,m')):Fr m m':=by
 unfold et at h
 split at h
 ·split at h
  ·injection h with h;injection h with _ h;subst h;exact .refl _
  ·split at h
   ·split at h
    ·injection h with h;injection h with _ h;subst h;exact Fr.bG m hc _
    ·injection h with h;injection h with _ h;subst h;exact Fr.bG m hc _
    ·split at h
     ·rename_i cu
      injection h with h;injection h with _ h;subst h;exact Fr.bG m cu.1 _
     ·cases h
    ·cases h
   ·cases h
 ·cases h
theorem Fr.qT {m m':ae} {es:Nat} {x y v:AV} (hc:m.ro≤m.cur) (h:mO m es x y=some (v,m')):Fr m m':=by
 unfold mO at h
 split at h
 ·split at h
  ·split at h
   ·injection h with h;injection h with _ h;subst h;exact .refl _
   ·injection h with h;injection h with _ h;subst h;exact .refl _
   ·cases h
  ·split at h
   ·split at h
    ·split at h
     ·injection h with h;injection h with _ h;subst h;exact Fr.eG hc _
     ·cases h
    ·split at h
     ·split at h
      ·split at h
       ·injection h with h;injection h with _ h;subst h;exact Fr.bG m hc _
       ·cases h
      ·cases h
     ·cases h
    ·cases h
   ·cases h
 ·cases h
theorem Fr.wY {m m':ae} {es:Nat} {x y v:AV} (hc:m.ro≤m.cur) (h:yA m es x y=some (v,m')):Fr m m':=by
 unfold yA at h
 split at h
 ·split at h
  ·cases h
  ·split at h
   ·injection h with h;injection h with _ h;subst h;exact Fr.eG hc _
   ·exact Fr.qT hc h
 ·cases h
theorem Fr.copy {m m':ae} {x y v:AV} (hc:m.ro≤m.cur) (h:tM m x y=some (v,m')):Fr m m':=by
 unfold tM at h
 split at h
 ·obtain⟨_,_,h⟩:=aZ.1 h
  injection h with _ h
  subst h
  exact .refl _
 ·split at h
  ·obtain⟨_,_,h⟩:=dS.1 h
   split at h
   ·injection h with h;injection h with _ h;subst h;exact .refl _
   ·obtain⟨_,hs,h⟩:=aZ.1 h
    injection h with _ h
    subst h
    exact Fr.store hc hs
  ·cases h
 ·cases h
theorem Fr.freeze {m m':ae} {x v:AV} (hc:m.ro≤m.cur) (h:BV m x=some (v,m')):Fr m m':=by
 unfold BV at h
 split at h
 ·split at h
  ·obtain⟨_,_,h⟩:=dS.1 h
   split at h
   ·cases h
   ·split at h
    ·obtain⟨_,_,h⟩:=aZ.1 h
     injection h with _ h
     subst h
     exact Fr.bG m hc _
    ·cases h
  ·cases h
 ·injection h with h;injection h with _ h;subst h;exact .refl _
 ·cases h
theorem Fr.yO {m m':ae} {es:Nat} {row:List AV} {x v:AV} (hc:m.ro≤m.cur) (h:yP m es row x=some (v,m')):Fr m m':=by
 unfold yP at h
 obtain⟨p,h1,h⟩:=dS.1 h
 obtain⟨_,_,h⟩:=aZ.1 h
 injection h with _ h
 subst h
 exact Fr.freeze hc h1
theorem Fr.eo {call:bj} (bO:jl call) {ro:Bool} {m m':ae} {t:Target} {args:List AV} {v:AV} (h1:m.ro≤m.ag.length) (h2:m.cq≤m.loops.length) (h:eo call ro m t args=some (v,m')):Fr m m':=by
 unfold Ax.eo at h
 split at h
 ·obtain⟨p,_,h⟩:=aZ.1 h
  injection h with _ h
  subst h
  exact .refl _
 ·exact bO _ _ _ _ _ h1 h2 h
theorem Fr.aO {call:bj} (bO:jl call) {ρ:aJ→AV} {m m':ae} {op:cm} {v:AV} (h0:0<m.ag.length) (hc:m.ro≤m.cur) (h2:m.cq≤m.loops.length) (h:aO call ρ m op=some (v,m')):Fr m m':=by
 have h1:m.ro≤m.ag.length:=by unfold ae.cur at hc;omega
 have mp:∀{o:Option AV},o.map (·,m)=some (v,m')→Fr m m':=fun e=>by
  obtain⟨_,q⟩:=ld e
  simp only at q
  subst q
  exact .refl _
 cases op<;>simp only[Ax.aO]at h<;>first
  |exact mp h
  |(injection h with h;injection h with _ h;subst h;first|exact .refl _|exact Fr.eG hc _;done)
  |exact Fr.eo bO h1 h2 h
  |exact Fr.append hc h
  |exact Fr.qT hc h
  |exact Fr.wY hc h
  |exact Fr.copy hc h
  |exact Fr.yO hc h
  |skip
 case box n x=>
  unfold yM at h
  split at h
  ·injection h with h
   have:=Fr.eG hc (ρ x).cells
   rw[h]at this
   exact this
  ·cases h
 case build=>obtain⟨_,_,h⟩:=aZ.1 h;injection h with _ h;subst h;exact .refl _
 case buildSlice=>obtain⟨_,_,h⟩:=aZ.1 h;injection h with _ h;subst h;exact .refl _
 case store=>
  obtain⟨_,hs,h⟩:=aZ.1 h
  injection h with _ h
  subst h
  exact Fr.store hc hs
 case eqv=>obtain⟨_,_,h⟩:=aZ.1 h;injection h with _ h;subst h;exact .refl _
 case mC=>
  split at h
  ·injection h with h;injection h with _ h;subst h;exact .refl _
  ·cases h
 case zR=>
  unfold yh at h
  obtain⟨_,_,h⟩:=dS.1 h
  obtain⟨_,_,h⟩:=dS.1 h
  split at h
  ·cases h
  ·injection h with h;injection h with _ h;subst h;exact Fr.eG hc _
 case mkSlice=>
  unfold yg at h
  obtain⟨_,_,h⟩:=dS.1 h
  obtain⟨_,_,h⟩:=aZ.1 h
  split at h
  ·injection h with _ h
   subst h
   exact .refl _
  ·injection h with _ h
   subst h
   exact Fr.eG hc _
 case alloc zs=>
  split at h
  ·cases h
  ·injection h with h
   have:=Fr.eG hc zs
   rw[h]at this
   exact this
 case l5 n=>
  injection h with h
  injection h with _ h
  subst h
  exact Fr.bG m hc _
 case fill=>
  obtain⟨_,hs,h⟩:=aZ.1 h
  injection h with _ h
  subst h
  unfold y5 at hs
  split at hs
  ·split at hs
   ·exact Fr.store hc hs
   ·cases hs
  ·cases hs
 case slot back zs=>
  obtain⟨_,_,_,rfl⟩:=Iz h
  exact Fr.bG m hc _
 case sg=>exact Fr.eo bO h1 h2 (Qy h)
 case tK=>
  unfold nA at h
  split at h
  ·split at h
   ·rename_i cu
    injection h with h
    injection h with _ h
    subst h
    exact Fr.bG m hc _
   ·injection h with h
    injection h with _ h
    subst h
    exact .refl _
  ·exact mp h
  ·cases h
 case gW=>
  unfold nB at h
  split at h
  ·exact Fr.eo bO h1 h2 h
  ·exact Fr.eo bO h1 h2 h
  ·cases h
structure Open (s:ae):Prop where
 pos:0<s.ag.length
 cur:s.ro≤s.cur
 loops:s.cq≤s.loops.length
theorem Open.fr {s s':ae} (h:Open s) (f:Fr s s'):Open s':=⟨by rw[f.yz];exact h.pos,by rw[f.ro,f.cur];exact h.cur,by rw[f.cq,f.jL];exact h.loops⟩
theorem Fr.ops {call:bj} (bO:jl call):∀{l:List bt} {st aM:St},Open st.sig→ops call l st=some aM→Fr st.sig aM.sig
 |[],st,aM,_,h=>by
  simp only[Ax.ops]at h
  injection h with h
  subst h
  exact .refl _
 | o :: r, st, aM, bU, h => by
  rw[S7]at h
  obtain⟨cZ,h1,h2⟩:=dS.1 h
  have f1:Fr st.sig cZ.sig:=by
   unfold rO at h1
   split at h1
   ·split at h1
    ·rename_i hv
     injection h1 with h1
     subst h1
     exact Fr.aO bO bU.pos bU.cur bU.loops hv
    ·cases h1
   ·injection h1 with h1
    subst h1
    exact .refl _
  exact f1.trans (Fr.ops bO (bU.fr f1) h2)
theorem Fr.lW {f:St→Option (c8×St)} (hf:∀st e aM,Open st.sig→f st=some (e,aM)→Fr st.sig aM.sig):∀{m:Nat} {st:St} {e:c8} {aM:St},Open st.sig→lW f m st=some (e,aM)→Fr st.sig aM.sig
 |0,_,_,_,_,h=>by simp[Ax.lW]at h
 | m + 1, st, e, aM, bU, h => by
  simp only[Ax.lW]at h
  split at h
  ·rename_i cZ h1
   have f1:=hf _ _ _ bU h1
   exact f1.trans (Fr.lW hf (bU.fr f1) h)
  ·exact hf _ _ _ bU h
theorem Fr.exec {call:bj} (bO:jl call) {lf:Nat}:∀{c:au} {st:St} {e:c8} {aM:St},Open st.sig→exec call lf c st=some (e,aM)→Fr st.sig aM.sig:=by
 intro c
 induction c with
 |skip=>intro st e aM _ h;simp only[Ax.exec]at h;injection h with h;injection h with _ h;subst h;exact .refl _
 |exit=>intro st e aM _ h;simp only[Ax.exec]at h;injection h with h;injection h with _ h;subst h;exact .refl _
 |ret=>intro st e aM _ h;simp only[Ax.exec]at h;injection h with h;injection h with _ h;subst h;exact .refl _
 |region d l=>
  intro st e aM bU h
  simp only[Ax.exec]at h
  obtain⟨cZ,h1,h⟩:=aZ.1 h
  injection h with _ h
  subst h
  exact Fr.ops bO bU h1
 | seq a b vQ zI =>
  intro st e aM bU h
  simp only[Ax.exec]at h
  split at h
  ·rename_i cZ h1
   have f1:=vQ bU h1
   exact f1.trans (zI (bU.fr f1) h)
  ·exact vQ bU h
 | cond c a b vQ zI =>
  intro st e aM bU h
  simp only[Ax.exec]at h
  split at h
  ·split at h
   ·exact vQ bU h
   ·exact zI bU h
  ·cases h
 | block id a ih =>
  intro st e aM bU h
  simp only[Ax.exec]at h
  split at h
  ·rename_i j cZ h1
   have f1:=ih bU h1
   split at h
   ·injection h with h;injection h with _ h;subst h;exact f1
   ·injection h with h;injection h with _ h;subst h;exact f1
  ·exact ih bU h
 |loop a ih=>
  intro st e aM bU h
  simp only[Ax.exec]at h
  exact Fr.lW (fun st e aM h1 h2=>ih h1 h2) bU h
 | rangeFunc f ps a b _ _ =>
  intro st e aM bU h
  simp only[Ax.exec]at h
  split at h
  case h_2=>cases h
  split at h
  case h_2=>cases h
  rename_i res s hc
  split at h
  case h_2=>cases h
  rename_i pe s1 dc
  injection h with h
  injection h with _ h
  subst h
  have f1:=bO _ _ _ _ _ (by have:=bU.cur;unfold ae.cur at this;have:=bU.pos;simp[enterLoop];omega) (by have:=bU.loops;simp[enterLoop];omega) hc
  unfold ya at dc
  split at dc
  ·rename_i hlen
   split at dc
   ·split at dc
    ·injection dc with dc
     injection dc with _ dc
     subst dc
     refine⟨f1.yz,by simp[hlen],f1.ro,f1.cq,fun d hd=>f1.ag d hd,fun l hl=>?_⟩
     have:=f1.loops l hl
     have rm:l<st.sig.loops.length:=by have:=bU.loops;omega
     simp only[enterLoop]at this
     rw[dG rm]at this
     show(s.loops.take st.sig.loops.length)[l]? =_
     rw[wI,aj rm]
     exact this
    ·cases dc
   ·cases dc
  ·cases dc
theorem Fr.finish {rs:List iy} {own:Bool} {s0:ae} {r0:Rec} {st:St} {x:AV} {s':ae} (h0:s0.ro≤s0.ag.length) (f:Fr (s0.push r0) st.sig) (h:finish rs own st=some (x,s')):Fr s0 s':=by
 have hlen:st.sig.ag.length=s0.ag.length+1:=by rw[f.yz];simp[ae.push]
 have hp:Fr s0 st.sig.pop:=by
  refine⟨by simp[ae.pop,hlen],f.jL,f.ro,f.cq,fun d hd=>?_,f.loops⟩
  have ua:d<s0.ag.length:=by omega
  simp only[ae.pop,yX hlen]
  rw[aj ua,f.ag d hd]
  simp only[ae.push]
  exact dG ua
 unfold Ax.finish at h
 split at h
 ·split at h
  ·obtain⟨x0,_,h⟩:=dS.1 h
   unfold nZ at h
   split at h
   ·split at h
    ·rename_i cu
     injection h with h
     injection h with _ h
     subst h
     refine hp.trans (Fr.bG _ ?_ _)
     rw[hp.ro]
     have:=cu.2.2.1
     rw[f.ro]at this
     simp only[ae.push]at this
     omega
    ·injection h with h;injection h with _ h;subst h;exact hp
   ·obtain⟨y,_,h⟩:=aZ.1 h
    injection h with _ h
    subst h
    exact hp
  ·cases h
 ·obtain⟨l,_,h⟩:=aZ.1 h
  injection h with _ h
  subst h
  exact hp
theorem Open.push {s:ae} (h1:s.ro≤s.ag.length) (h2:s.cq≤s.loops.length) (r:Rec):Open (s.push r):=
 ⟨by simp[ae.push],by simp[ae.push,ae.cur];exact h1,h2⟩
theorem Fr.ef (s:ae) {l:Nat} (hl:s.cq≤l) (f:da→da):Fr s (ef s l f):=
 ⟨rfl,by simp[Ax.ef],rfl,rfl,fun _ _=>rfl,fun l' h=>by simp only[Ax.ef,eE];rw[ak (by omega)]⟩
theorem Fr.acm {s0 s:ae} {r0:Rec} (h0:s0.ro≤s0.ag.length) (f:Fr (s0.push r0) s):Fr s0 s.pop:=by
 have hlen:s.ag.length=s0.ag.length+1:=by rw[f.yz];simp[ae.push]
 refine⟨by simp[ae.pop,hlen],f.jL,f.ro,f.cq,fun d hd=>?_,f.loops⟩
 have ua:d<s0.ag.length:=by omega
 simp only[ae.pop,yX hlen]
 rw[aj ua,f.ag d hd]
 simp only[ae.push]
 exact dG ua
theorem jl.step {AP:FuncId→Option aE} {call:bj} (bO:jl call) (lf:Nat):jl (iP AP call lf):=by
 intro t args s x s' h1 h2 h
 unfold iP at h
 cases t with
 | fn f =>
  simp only at h
  split at h
  ·split at h
   ·split at h
    ·rename_i st he
     exact Fr.finish h1 (Fr.exec bO (Open.push h1 h2 _) he) h
    ·rename_i st he
     exact Fr.finish h1 (Fr.exec bO (Open.push h1 h2 _) he) h
    ·cases h
   ·cases h
  ·obtain⟨as,_,h⟩:=dS.1 h
   obtain⟨z,_,h⟩:=aZ.1 h
   injection h with _ h
   subst h
   exact .refl _
  ·cases h
 | inl f =>
  simp only at h
  split at h
  ·split at h
   ·rename_i cu
    have ho:Open s:=⟨by omega,by have:=cu.2;unfold ae.cur;omega,h2⟩
    split at h
    ·rename_i st he
     obtain⟨l,_,h⟩:=aZ.1 h
     injection h with _ h
     subst h
     exact Fr.exec bO ho he
    ·rename_i st he
     obtain⟨l,_,h⟩:=aZ.1 h
     injection h with _ h
     subst h
     exact Fr.exec bO ho he
    ·cases h
   ·cases h
  ·cases h
 | nat f =>
  simp only at h
  split at h
  ·obtain⟨as,_,h⟩:=dS.1 h
   obtain⟨z,_,h⟩:=aZ.1 h
   injection h with _ h
   subst h
   exact .refl _
  ·cases h
 | yield l =>
  simp only at h
  split at h
  case h_2=>cases h
  split at h
  case isFalse=>cases h
  rename_i cu
  split at h
  case h_2=>cases h
  rename_i st he
  have f1:=Fr.exec bO (Open.push h1 h2 _) he
  have hl:st.sig.cq≤l:=by rw[f1.cq];exact cu.2.1
  have f2:=f1.trans (Fr.ef st.sig hl fun p=>{p with ready:=false})
  have op2:=(Open.push h1 h2 ⟨[],[]⟩).fr f2
  split at h
  case isFalse=>cases h
  split at h
  ·rename_i aM hb
   injection h with h
   injection h with _ h
   subst h
   have f3:=f2.trans (Fr.exec bO op2 hb)
   exact Fr.acm h1 (f3.trans (Fr.ef _ (by rw[f3.cq];exact cu.2.1) _))
  ·rename_i e aM _ hb
   injection h with h
   injection h with _ h
   subst h
   have f3:=f2.trans (Fr.exec bO op2 hb)
   exact Fr.acm h1 (f3.trans (Fr.ef _ (by rw[f3.cq];exact cu.2.1) _))
  ·cases h
end Go.Ax
/-
  Calls.
-/
namespace Go.Ax
open Go.RowKit
def uP (P:Program) (K:World→Prop) (f:FuncId) (F:List AV→Option AV):Prop:=
 ∀ (I : fG) (w : World) (as : List AV) (xs : Array Value) (r : AV), K w → (∀ b i v, I b i = some v → w.cell? ⟨b, i, none⟩ = some v) → xs.size = as.length → (∀ i (hi : i < as.length), bN I as[i] (xs.getD i Go.undef)) → F as = some r →
  Calls P f xs w fun e w'=>∃z I',e=.returned z∧(∀b i v,I b i=some v→I' b i=some v)∧(∀b i v,I' b i=some v→I b i=some v∨w.heap.size≤b)∧(∀b i v,I' b i=some v→w'.cell? ⟨b,i,none⟩=some v)∧
   Below w.heap.size w w'∧yu I' r z
def UU (P:Program) (f:FuncId) (F:List AV→Option AV):Prop:=
 ∀(I:fG) (w:World) (as:List AV) (xs:Array Value) (r:AV),xs.size=as.length→(∀i (hi:i<as.length),bN I as[i] (xs.getD i Go.undef))→F as=some r→
  ∃z,(callFunc f xs).run P w=.ok (.value z) w∧yu I r z
structure tD (P:Program) (AP:FuncId→Option aE) (K:World→Prop):Prop where
 mixed:P.follows .mixedOrders=true
 code:∀f np nt b rs own,AP f=some (.code np nt b rs own)→∃fn mu,P.funcs[f]? =some fn∧aP P own mu fn=some (.code np nt b rs own)
 lg:∀f F,AP f=some (.lg F)→oz P f∧uP P K f F
 nat:∀f F,AP f=some (.nat F)→UU P f F
theorem Xl {P:Program} {own own':Bool} {mu:Mu} {fn:Func} {np nt:Nat} {b:au} {rs:List iy} (h:aP P own mu fn=some (.code np nt b rs own')):
  ∃c,fn.body=some c∧(fn.name== "runtime.NumGoroutine")=false∧comp P mu c=some b∧fE (xn P) fn.results.toList=some rs∧np≤fn.ntmps∧j8 fn.ntmps b=true∧own'=own:=by
 unfold aP at h
 split at h
 ·cases h
 ·rename_i Hz
  split at h
  ·cases h
  ·rename_i c hb
   split at h
   ·rename_i b' M9 e1 e2
    split at h
    ·rename_i cu
     injection h with h
     injection h with h1 h2 h3 h4 h5
     subst h1 h2 h3 h4 h5
     exact⟨c,hb,by simpa using Hz,e1,e2,cu.1,cu.2,rfl⟩
    ·cases h
   ·cases h
section
variable{P:Program} {B0:Nat} {w0:World} {G:aH} {k nl:Nat} {w:World} {s:ae}
theorem SF {G:aH} {n:Nat} {fn:Func} {tmps:Array Value} {R:Ending→World→Prop}:∀(bs:List Nat) (w:World),At P B0 w0 G k nl s w→(∀b,b∈bs→B0≤b∧G.own b=none∧w.heap[b]? =some (.deferred (some [])))→bs.Nodup→
  (∀ w', At P B0 w0 G k nl s w' → ∃ v, (results fn tmps).run P w' = .ok v w' ∧ R (.returned v) w') → LeavesInM Fence.wide n P fn tmps R (bs.map fun b => (⟨.collected b, #[]⟩ : Deferred)) .returning w
 |[],w,h,_,_,hR=>hR w h
 |b::r,w,h,hb,hn,hR=>by
  obtain⟨h1,h2,h3⟩:=hb b (by simp)
  have iV:=UG.1 hn
  refine⟨by simp,.inl ⟨b,w.putObj b (.deferred none),rfl,run_takeDeferred h3,?_⟩⟩
  refine SF r _ (avZ h h1 h2 h3 (fun a t f e=>by cases e)) (fun c hc=>?_) iV.2 hR
  obtain⟨c1,c2,c3⟩:=hb c (by simp[hc])
  refine⟨c1,c2,?_⟩
  rw[World.putObj_heap_other (fun e=>iV.1 (by rw[←e];exact hc))]
  exact c3
theorem abf (h:cQ P B0 w0 G s w) {r:Rec} {gr:dF} {d:Nat} (hr:s.ag[d]? =some r) (hg:G.ag[d]? =some gr):gr.marks.Nodup:=by
 rw[List.nodup_iff_pairwise_ne,UH]
 intro i j hi hj aB e
 have h1:=((h.dt d r gr hr hg).mark i _ (dq hi)).2.1
 have h2:=((h.dt d r gr hr hg).mark j _ (dq hj)).2.1
 rw[e,h2]at h1
 injection h1 with h1
 injection h1 with _ h1
 omega
theorem Ol:∀(args:List AV) (t:Nat),jm args t=if h:t<args.length then args[t]else AV.undef
 |[],t=>by simp[jm]
 |x::r,0=>by simp[jm]
 |x::r,t+1=>by
  simp only[jm,Ol r t,cH,IZ]
  split<;>split<;>first|rfl|omega
theorem W8 (h:cQ P B0 w0 G s w) {kc nlc:Nat} {G1 G2:aH} {s':ae} {w':World} {x:AV} {z:Value} (hk:s.ag.length≤kc+1) (h1:bL s.ag.length s.loops.length (G.kK s.loops.length) G1) (h2:cQ P B0 w0 G2 s' w') (h3:s'.ag.length=s.ag.length)
  (h4:s'.loops.length=s.loops.length) (h5:∀b i v,G1.I b i=some v→G2.I b i=some v) (h6:∀d gr,d<s.ag.length→G1.ag[d]? =some gr→∃bP,G2.ag[d]? =some bP∧jz gr bP∧bP.marks=gr.marks)
  (h7:∀l r:Nat,G1.loops[l]? =some r→G2.loops[l]? =some r) (h8:Rel G2 kc nlc x z):ow P B0 w0 G kc nlc s s' w' x z:=by
 refine⟨G2,h2,h3,h4,⟨fun b i v e=>h5 b i v (h1.I b i v e),fun d gr hd e=>?_,fun l r hl e=>h7 l r (h1.loops l r hl e)⟩,h8⟩
 have aB:d<s.ag.length:=by have:=(bI.1 e).1;rw[h.len]at this;exact this
 obtain⟨g1,a1,a2,a3⟩:=h1.ag d gr (by omega) (qg e)
 obtain⟨g2,b1,b2,b3⟩:=h6 d g1 aB a1
 exact⟨g2,b1,a2.trans b2,fun _=>b3.trans (a3 aB)⟩
theorem Xj {AP:FuncId→Option aE} {K:World→Prop} (hp:tD P AP K) {call:bj} (dV:mL P B0 w0 call) (fi:oA P B0 w0 call) (bO:jl call) {lf:Nat} {kc nlc:Nat} {f:FuncId} {np nt:Nat} {b:au} {rs:List iy} {own:Bool} {args:List AV} {xs:Array Value} {x:AV} {s':ae}
  (lK:AP f=some (.code np nt b rs own)) (h:cQ P B0 w0 G s w) (qs:s.ag.length≤kc+1) (kB:kc≤s.ag.length) (kX:nlc≤s.loops.length) (hl:xs.size=args.length) (hR:∀i (hi:i<args.length),Rel G kc nlc args[i] (xs.getD i Go.undef))
  {e:c8} {st:St} (hlen:args.length=np) (he:exec call lf b ⟨jm args,s.push ⟨[],[]⟩⟩=some (e,st)) (hn:e=.normal∨e=.ret) (hf:finish rs own st=some (x,s')):
  oz P f∧Calls P f xs w fun e w'=>∃z,e=.returned z∧ow P B0 w0 G kc nlc s s' w' x z:=by
 obtain⟨fn,mu,sH,dw⟩:=hp.code f np nt b rs own lK
 obtain⟨c,hb,Hz,Rg,iW,hnp,RZ,_⟩:=Xl dw
 refine⟨⟨fn,c,sH,hb,Hz⟩,?_⟩
 refine(callsIn_wide (n:=0)).1 ?_
 have eP:=Tr h
 have LB:=G.M3 s.loops.length
 have cj:(xs++Array.replicate (fn.ntmps-xs.size) Go.undef).size=fn.ntmps:=by simp;omega
 refine callsIn_of_wp_marks sH hb trivial (wpIn_mono (K7 (rd:=none) (n:=0) (lf:=lf) (base:=[]) dV fi bO hp.mixed c b (G.kK s.loops.length) ⟨jm args,s.push ⟨[],[]⟩⟩ st ⟨xs++Array.replicate (fn.ntmps-xs.size) Go.undef,[]⟩ w e Rg eP rfl (fun t=>?_) (by rw[cj];exact RZ)
  (fun r e=>by cases e) (fun _=>⟨⟨[],[],s.loops.length,[],fun _=>none⟩,[],by simp[aH.kK,←h.len],rfl,rfl⟩) he) fun ex a' w' pE=>?_)
 ·show Rel _ _ _ (jm args t) ((xs++Array.replicate (fn.ntmps-xs.size) Go.undef).getD t Go.undef)
  rw[Ol,B4]
  split
  ·rename_i ht
   rw[aj (by omega)]
   exact(hR t ht).mono (LB _ _) kB kX
  ·rename_i ht
   rw[ak (by omega)]
   have:(Array.replicate (fn.ntmps-xs.size) Go.undef).getD (t-xs.size) Go.undef=Go.undef:=by
    by_cases hq:t-xs.size<fn.ntmps-xs.size
    ·simp[Array.getD,hq]
    ·simp[Array.getD,hq]
   rw[this]
   exact .undef
 ·obtain⟨hex,G1,g1,g2,g3,g4,g5,g6⟩:=pE
  have Rp:ex=.normal∨ex=.ret:=by rcases hn with rfl|rfl<;>simp[hex,BR]
  obtain⟨r,gr,hr,hg⟩:=g1.dt (aI _)
  obtain⟨bP,new,e1,e3,e2⟩:=g6 rfl
  rw[hg]at e1
  injection e1 with e1
  subst e1
  rw[gL]at e3
  rw[←e3]at e2
  have Hw:LeavesInM Fence.wide 0 P fn a'.tmps (fun e w'=>∃z,e=.returned z∧ow P B0 w0 G kc nlc s s' w' x z) a'.defers .returning w':=by
   rw[e2,←List.map_reverse]
   refine SF (G:=G1.lG s.ag.length 0) gr.marks.reverse w' (XN g1 0) (fun m hm=>?_) ((List.reverse_perm _).nodup_iff.2 (abf g1.rel hr hg)) (fun w'' sC=>?_)
   ·obtain⟨i,hi,rfl⟩:=nr (I7.1 hm)
    have mZ:=(g1.rel.dt _ r gr hr hg).mark i _ (dq hi)
    refine⟨mZ.1,?_,mZ.2.2⟩
    simp[aH.lG,mZ.2.1]
   ·have Cq:=G1.BP s.ag.length s.loops.length 0 (aI _)
    obtain⟨z,G2,q1,q2,q3,q4,q5,q6,q7,q8⟩:=ajH sC (a:=a') (g4.mono Cq) g3 iW (kc:=kc) (nlc:=nlc) qs hf
    refine⟨z,q1,z,rfl,W8 h qs (g2.trans Cq) q2 q3 (by rw[q4];exact g3) q5 q6 q7 q8⟩
  rcases Rp with rfl|rfl
  ·exact Hw
  ·exact Hw
theorem acH {st:St} {a:Act} (h:At P B0 w0 G k nl st.sig w) (hR:eM G k nl st.tmps a):∀{rs:List ResultVar} {qU:List iy} {l:List AV},
  fE (xn P) rs=some qU→yi st qU=some l→∃vs:List Value,(rs.mapM (Dj a.tmps)).run P w=.ok vs w∧vs.length=l.length∧∀i (hi:i<l.length) (hj:i<vs.length),Rel G k nl l[i] vs[i]
 |[],qU,l,hm,hr=>by
  simp only[fE]at hm
  injection hm with hm
  subst hm
  simp only[yi]at hr
  injection hr with hr
  subst hr
  exact⟨[],by simp,rfl,fun i hi=>absurd hi (dH _)⟩
 | r :: rs, qU, l, hm, hr => by
  simp only[fE]at hm
  split at hm
  ·rename_i ar Vr e1 e2
   injection hm with hm
   subst hm
   simp only[yi]at hr
   split at hr
   ·rename_i x l' f1 f2
    injection hr with hr
    subst hr
    obtain⟨z,r1,r2⟩:=Tz h hR e1 f1
    obtain⟨vs,v1,v2,v3⟩:=acH h hR e2 f2
    refine⟨z::vs,?_,by simp[v2],fun i hi hj=>?_⟩
    ·simp only[UD,Sem.run_bind,r1,Result.andThen_ok,v1,Sem.run_pure]
    ·cases i with
     |zero=>exact r2
     |succ i=>exact v3 i (by simpa using hi) (by simpa using hj)
   ·cases hr
  ·cases hm
theorem aax {AP:FuncId→Option aE} {K:World→Prop} (hp:tD P AP K) {call:bj} (dV:mL P B0 w0 call) (fi:oA P B0 w0 call) (bO:jl call) {lf:Nat} {f:FuncId} {np nt:Nat} {b:au} {rs:List iy} {own:Bool} {args:List AV} {xs:Array Value}
  (lK:AP f=some (.code np nt b rs own)) (h:At P B0 w0 G k nl s w) (aU:s.loops.length=nl) (hl:xs.size=args.length) (hR:∀i (hi:i<args.length),Rel G k nl args[i] (xs.getD i Go.undef))
  {e:c8} {st:St} (hlen:args.length=np) (he:exec call lf b ⟨jm args,s⟩=some (e,st)) (hn:e=.normal∨e=.ret) {l:List AV} (hr:yi st rs=some l):
  oz P f∧Calls P f xs w fun e w'=>∃z,e=.returned z∧ow P B0 w0 G k nl s st.sig w' (packed l) z:=by
 obtain⟨fn,mu,sH,dw⟩:=hp.code f np nt b rs own lK
 obtain⟨c,hb,Hz,Rg,iW,hnp,RZ,_⟩:=Xl dw
 refine⟨⟨fn,c,sH,hb,Hz⟩,?_⟩
 refine(callsIn_wide (n:=0)).1 ?_
 have cj:(xs++Array.replicate (fn.ntmps-xs.size) Go.undef).size=fn.ntmps:=by simp;omega
 obtain⟨iA,mV,aBn⟩:=h.cur
 refine callsIn_of_wp_marks sH hb trivial (wpIn_mono (K7 (rd:=none) (n:=0) (lf:=lf) (base:=iA.marks) dV fi bO hp.mixed c b G ⟨jm args,s⟩ st ⟨xs++Array.replicate (fn.ntmps-xs.size) Go.undef,[]⟩ w e Rg h aU (fun t=>?_) (by rw[cj];exact RZ)
  (fun r e=>by cases e) (fun _=>⟨iA,[],mV,by simp,rfl⟩) he) fun ex a' w' pE=>?_)
 ·show Rel _ _ _ (jm args t) ((xs++Array.replicate (fn.ntmps-xs.size) Go.undef).getD t Go.undef)
  rw[Ol,B4]
  split
  ·rename_i ht
   rw[aj (by omega)]
   exact hR t ht
  ·rename_i ht
   rw[ak (by omega)]
   have:(Array.replicate (fn.ntmps-xs.size) Go.undef).getD (t-xs.size) Go.undef=Go.undef:=by
    by_cases hq:t-xs.size<fn.ntmps-xs.size
    ·simp[Array.getD,hq]
    ·simp[Array.getD,hq]
   rw[this]
   exact .undef
 ·obtain⟨hex,G1,g1,g2,g3,g4,g5,g6⟩:=pE
  have Rp:ex=.normal∨ex=.ret:=by rcases hn with rfl|rfl<;>simp[hex,BR]
  obtain⟨r,gr,im,hg⟩:=g1.dt (aI _)
  obtain⟨bP,new,e1,e3,e2⟩:=g6 rfl
  rw[hg]at e1
  injection e1 with e1
  subst e1
  have Cq:=fun{k'} (hk:k'≤k)=>G1.BP k nl iA.marks.length hk
  have hle:bL (k+1) s.loops.length G (G1.lG k iA.marks.length):=by
   refine⟨fun b i v e=>g2.I b i v e,fun d gq hd e=>?_,fun l r hl e=>g2.loops l r (by omega) e⟩
   have iT:d<k+1:=by
    have:=(bI.1 e).1
    rw[h.rel.len,h.len]at this;exact this
   obtain⟨g1',c1,c2,c3⟩:=g2.ag d gq (by omega) e
   by_cases ama:d=k
   ·subst ama
    rw[hg]at c1
    injection c1 with c1
    subst c1
    rw[mV]at e
    injection e with e
    subst e
    refine⟨{gr with marks:=gr.marks.take iA.marks.length},by simp[aH.lG,hg],⟨c2.bl,c2.tk,c2.nl,c2.gs⟩,fun _=>?_⟩
    simp[e3]
   ·obtain⟨g2',c4,c5,c6⟩:=(Cq (aI _)).ag d g1' (by omega) c1
    exact⟨g2',c4,c2.trans c5,fun _=>(c6 (by omega)).trans (c3 (by omega))⟩
  have Hw:LeavesInM Fence.wide 0 P fn a'.tmps (fun e w'=>∃z,e=.returned z∧ow P B0 w0 G k nl s st.sig w' (packed l) z) a'.defers .returning w':=by
   rw[e2,←List.map_reverse]
   refine SF (G:=G1.lG k iA.marks.length) new.reverse w' (XN g1 iA.marks.length) (fun m hm=>?_) ((List.reverse_perm _).nodup_iff.2 ?_) (fun w'' sC=>?_)
   ·obtain⟨i,hi,rfl⟩:=nr (I7.1 hm)
    have mZ:=(g1.rel.dt _ r gr im hg).mark (iA.marks.length+i) new[i] (by rw[e3,jy (by omega)];simp)
    refine⟨mZ.1,?_,mZ.2.2⟩
    simp[aH.lG,mZ.2.1]
   ·have:=abf g1.rel im hg
    rw[e3]at this
    exact(List.nodup_append.1 this).2.1
   ·obtain⟨vs,v1,v2,v3⟩:=acH sC (a:=a') (g4.mono (Cq (aI _))) iW hr
    exact⟨_,TA v1,_,rfl,_,sC.rel,sC.len.trans h.len.symm,g3.trans aU.symm,hle,aca v2 v3⟩
  rcases Rp with rfl|rfl
  ·exact Hw
  ·exact Hw
theorem avR {AP:FuncId→Option aE} {K:World→Prop} (hp:tD P AP K) (hK:∀w,Below B0 w0 w→K w) {kc nlc:Nat} {f:FuncId} {F:List AV→Option AV} {args:List AV} {xs:Array Value} {x:AV} {s':ae}
  (lK:AP f=some (.lg F)) (h:cQ P B0 w0 G s w) (hl:xs.size=args.length) (hR:∀i (hi:i<args.length),Rel G kc nlc args[i] (xs.getD i Go.undef)) (hc:((closeAll args).bind fun as=>(F as).map (·,s))=some (x,s')):
  oz P f∧Calls P f xs w fun e w'=>∃z,e=.returned z∧ow P B0 w0 G kc nlc s s' w' x z:=by
 obtain⟨hb,ant⟩:=hp.lg f F lK
 refine⟨hb,?_⟩
 obtain⟨as,has,hc⟩:=dS.1 hc
 obtain⟨y,hy,hc⟩:=aZ.1 hc
 injection hc with h1 h2
 subst h1 h2
 obtain⟨c1,c2⟩:=KU has
 refine Calls.mono (ant G.I w as xs y (hK w h.below) h.fM (by rw[hl,c1]) (fun i hi=>(hR i (by omega)).close (c2 i (by omega) hi)) hy) fun e w' hq=>?_
 obtain⟨z,I',rfl,i1,i2,i3,i4,i5⟩:=hq
 refine⟨z,rfl,{G with I:=I'},?_,rfl,rfl,⟨i1,fun d gr _ e=>⟨gr,e,.refl gr,fun _=>rfl⟩,fun _ _ _ e=>e⟩,i5.rel⟩
 refine h.dj i1 rfl rfl (fun b o e _=>⟨e,i4.block b (h.fq b o e),fun i hi=>?_⟩) i3 (i4.mono h.low) (fun b o e=>pY (h.fq b o e) i4.size)
 show I' b i=none
 cases hv:I' b i with
 |none=>rfl
 |some v=>
  rcases i2 b i v hv with rA|rA
  ·rw[hi]at rA;cases rA
  ·have:=h.fq b o e;omega
theorem adf:∀(ps:List Nat) (args:List AV) (vs:List Value) (ρ:Nat→AV) (t:Array Value),args.length=ps.length→vs.length=ps.length→(∀p,p∈ps→p<t.size)→(∀i (hi:i<args.length) (hj:i<vs.length),Rel G k nl args[i] vs[i])→
  (∀u,Rel G k nl (ρ u) (t.getD u Go.undef))→(∀u,Rel G k nl (uD ρ ps args u) (((ps.zip vs).foldl (fun(t:Array Value) (q:Nat×Value)=>t.setIfInBounds q.1 q.2) t).getD u Go.undef))∧((ps.zip vs).foldl (fun(t:Array Value) (q:Nat×Value)=>t.setIfInBounds q.1 q.2) t).size=t.size
 |[],args,vs,ρ,t,h1,h2,hp,hR,ht=>by
  cases args with
  |nil=>exact⟨by simpa[uD]using ht,by simp⟩
  |cons=>simp at h1
 |p::ps,[],vs,ρ,t,h1,h2,hp,hR,ht=>by simp at h1
 |p::ps,a::args,[],ρ,t,h1,h2,hp,hR,ht=>by simp at h2
 | p :: ps, a :: args, v :: vs, ρ, t, h1, h2, hp, hR, ht => by
  have h0:Rel G k nl a v:=hR 0 (by simp) (by simp)
  have RJ:∀u,Rel G k nl (put p a ρ u) ((t.setIfInBounds p v).getD u Go.undef):=by
   have:=eM.put (a:=⟨t,[]⟩) (dst:=some p) (fun u=>ht u) (fun q e=>by injection e with e;subst e;exact hp p (by simp)) h0
   exact fun u=>this u
  obtain⟨i1,i2⟩:=adf ps args vs (put p a ρ) (t.setIfInBounds p v) (by simpa using h1) (by simpa using h2) (fun q hq=>by simp;exact hp q (by simp[hq])) (fun i hi hj=>hR (i+1) (by simpa using hi) (by simpa using hj)) RJ
  exact⟨i1,by rw[List.zip_cons_cons,ma,i2];simp⟩
theorem pX.Ns {l:Nat} {lp ng:da} {rc nk:Loop} (h:pX P G l lp rc) (h1:nk.params=rc.params) (h2:nk.assign=rc.assign) (h3:nk.body=rc.body) (h4:nk.tmps=rc.tmps) (g1:ng.params=lp.params) (g2:ng.assign=lp.assign) (g3:ng.body=lp.body)
  (g4:ng.tmps=lp.tmps) (a1:ng.ready=true→nk.state=.ready∧ng.eH=none) (a2:ng.ready=false→nk.state=(if ng.eH.isSome then .done else .busy)) (a3:nk.pending=ng.eH.bind exitCode) (a4:ng.eH≠some .normal):pX P G l ng nk:=by
 obtain⟨_,_,_,_,b5,⟨mu,b6,b7⟩,b8,b9,b10,k,nl,b11,b12,b14,b13⟩:=h
 exact⟨a1,a2,a3,a4,by rw[h1,g1];exact b5,⟨mu,by rw[h2,g2];exact b6,by rw[h3,g3];exact b7⟩,by rw[h4,g2];exact b8,by rw[h4,g3];exact b9,by rw[h4,g1];exact b10,k,nl,b11,b12,b14,by rw[h4,g4];exact b13⟩
theorem At.aa7 (h:At P B0 w0 G k nl s w) (aU:s.loops.length=nl) {l r:Nat} (hl:l<nl) (hr:G.loops[l]? =some r):∃lp rc,s.loops[l]? =some lp∧w.heap[r]? =some (.loop rc)∧pX P G l lp rc:=by
 have aB:l<s.loops.length:=by omega
 obtain⟨_,_,rc,h3,h4⟩:=h.rel.loop l _ r (dq aB) hr
 exact⟨_,rc,dq aB,h3,h4⟩
theorem At.ad5 (h:At P B0 w0 G k nl s w) {l r:Nat} {lp ng:da} {rc nk:Loop} (hl:s.loops[l]? =some lp) (hr:G.loops[l]? =some r) (na:w.heap[r]? =some (.loop rc)) {f:da→da} (hf:f lp=ng) (ho:pX P G l ng nk):
  At P B0 w0 G k nl (ef s l f) (w.putObj r (.loop nk)):=
 ⟨axv h.rel hl hr na hf ho,h.len,h.cur⟩
theorem ay5 {AP : FuncId → Option aE} {K : World → Prop} (hp : tD P AP K) {call : bj} (dV : mL P B0 w0 call) (fi : oA P B0 w0 call) (bO : jl call) {lf : Nat} {kc nlc l r : Nat} {args : List AV} {xs : Array Value} {x : AV} {s' : ae}
    (h:cQ P B0 w0 G s w) (qs:s.ag.length≤kc+1) (kB:kc≤s.ag.length) (kX:nlc≤s.loops.length) (aB:l<nlc) (kz:G.loops[l]? =some r) (hl:xs.size=args.length) (hR:∀i (hi:i<args.length),Rel G kc nlc args[i] (xs.getD i Go.undef))
    (hc:iP AP call lf (.yield l) args s=some (x,s')):
    ∃ rc : Loop, w.heap[r]? = some (.loop rc) ∧ xs.size = rc.params.size ∧ ∀ n, RoundIn Fence.wide n P r rc.fn ((rc.params.zip xs).foldl (fun tmps (t, a) => tmps.setIfInBounds t a) rc.tmps) rc.assign rc.body w
      fun e w'=>∃z,e=.returned z∧ow P B0 w0 G kc nlc s s' w' x z:=by
  unfold iP at hc
  simp only at hc
  split at hc
  case h_2=>cases hc
  rename_i lp rn
  split at hc
  case isFalse=>cases hc
  rename_i cu
  obtain⟨HK,_,qn⟩:=cu
  split at hc
  case h_2=>cases hc
  rename_i st alW
  split at hc
  case isFalse=>cases hc
  rename_i anC
  obtain⟨_,_,rc,na,anb⟩:=h.loop l lp r rn kz
  obtain⟨o1,o2,o3,o4,o5,⟨mu,o6,o7⟩,o8,o9,o10,k',gH,o11,o12,o14,o13⟩:=anb
  have ed:rc.params.size=lp.params.length:=by rw[←o5];simp
  refine⟨rc,na,by rw[hl,qn,ed],fun n=>?_⟩
  have eP:=Tr h
  have LB:=G.M3 s.loops.length
  have Hy:l<s.loops.length:=by omega
  have Zq:(G.kK s.loops.length).loops[l]? =some r:=kz
  have Mf:yv (some r) (G.kK s.loops.length) s.loops.length:=fun r' e=>by injection e with e;subst e;exact⟨l,Hy,Zq⟩
  have amo:(rc.params.zip xs).foldl (fun(tmps:Array Value) (x:Tmp×Value)=>match x with|(t,a)=>tmps.setIfInBounds t a) rc.tmps=(lp.params.zip xs.toList).foldl (fun(t:Array Value) (q:Nat×Value)=>t.setIfInBounds q.1 q.2) rc.tmps:=by
    rw[←Array.foldl_toList,Array.toList_zip,o5]
  rw[amo]
  obtain⟨p1,p2⟩:=adf (G:=G.kK s.loops.length) (k:=s.ag.length) (nl:=s.loops.length) lp.params args xs.toList lp.tmps rc.tmps qn (by simp[hl,qn]) o10
    (fun i hi hj=>by
      have:=(hR i hi).mono (LB kc nlc) kB kX
      have e:xs.getD i Go.undef=xs.toList[i]:=by
        have:i<xs.size:=by simpa using hj
        simp[Array.getD,this]
      rw[←e]
      exact this)
    (fun u=>(o13 u).mono (LB k' gH) (by have:=h.len;omega) (by omega))
  have hF:Fence.wide.fn rc.fn:=trivial
  refine roundIn_of_wpIn hF (wpIn_mono (K7 (k:=s.ag.length) (nl:=s.loops.length) (rd:=some r) (n:=n) (lf:=lf) (base:=[]) dV fi bO hp.mixed rc.assign lp.assign (G.kK s.loops.length) ⟨uD lp.tmps lp.params args,s.push ⟨[],[]⟩⟩ st ⟨_,[]⟩ w .normal o6 eP rfl p1 (by rw[p2];exact o8) Mf (fun e=>by cases e) alW) fun ex a1 w1 pE=>?_)
  obtain⟨rfl,G1,g1,g2,g3,g4,g5,_⟩:=pE
  have im:G1.loops[l]? =some r:=g2.loops l r Hy Zq
  obtain⟨lp1,Tw,q1,q2,q3⟩:=g1.aa7 g3 Hy im
  have anD:lp1.ready=true:=by simpa[CY,q1]using anC
  obtain⟨s1,s2⟩:=q3.1 anD
  have ano:Tw.pending=none:=by rw[q3.2.2.1,s2];rfl
  show∃w₂,(Instr.beginRound r).run P w1=.ok () w₂∧_
  refine⟨_,run_beginRound q2 s1,?_⟩
  have anc:pX P G1 l {lp1 with ready:=false} {Tw with state:=.busy}:=q3.Ns rfl rfl rfl rfl rfl rfl rfl rfl (fun e=>by cases e) (fun _=>by simp[s2]) (by simp[ano,s2]) (by simp[s2])
  have Ch:=g1.ad5 q1 im q2 (f:=fun p=>{p with ready:=false}) rfl anc
  have amI:(ef st.sig l fun p=>{p with ready:=false}).loops.length=s.loops.length:=by simp[ef,g3]
  have body:∀(e:c8) (aM:St),exec call lf lp.body ⟨st.tmps,ef st.sig l fun p=>{p with ready:=false}⟩=some (e,aM)→(∀(ex:Exit) (a':Act) (w2:World) (G2:aH),ex=BR e→At P B0 w0 G2 s.ag.length s.loops.length aM.sig w2→bL s.ag.length s.loops.length (G.kK s.loops.length) G2→
      aM.sig.loops.length=s.loops.length→G2.loops[l]? =some r→roundPost P r (fun e w'=>∃z,e=.returned z∧ow P B0 w0 G kc nlc s s' w' x z) ex a' w2)→
      rc.body.wpIn (Fence.wide.inRound r) n P (roundPost P r (fun e w'=>∃z,e=.returned z∧ow P B0 w0 G kc nlc s s' w' x z)) a1 (w1.putObj r (.loop {Tw with state:=.busy})):=fun e aM zi hq=>by
    refine wpIn_mono (K7 (k:=s.ag.length) (nl:=s.loops.length) (rd:=some r) (n:=n) (lf:=lf) (base:=[]) dV fi bO hp.mixed rc.body lp.body G1 ⟨st.tmps,ef st.sig l fun p=>{p with ready:=false}⟩ aM a1 _ e o7 Ch amI g4 (by rw[g5];rw[p2];exact o9) (Mf.mono g2) (fun e=>by cases e) zi) fun ex a2 w2 pE=>?_
    obtain⟨hex,G2,k1,k2,k3,k4,k5,_⟩:=pE
    exact hq ex a2 w2 G2 hex k1 (g2.trans k2) k3 (k2.loops l r Hy im)
  have fin:∀(G2:aH) (aM:St) (w2:World) (jump:Option Code) (f:da→da) (b:Bool),At P B0 w0 G2 s.ag.length s.loops.length aM.sig w2→bL s.ag.length s.loops.length (G.kK s.loops.length) G2→aM.sig.loops.length=s.loops.length→G2.loops[l]? =some r→
      (∀zO qG,pX P G2 l zO qG→pX P G2 l (f zO) {qG with state:=if jump.isNone then .ready else .done,pending:=jump})→jump.isNone=b→x=.v (.bool b)→s'=(ef aM.sig l f).pop→
      ∃v w',(Instr.endRound r jump).run P w2=.ok v w'∧∃z,(Ending.returned v)=.returned z∧ow P B0 w0 G kc nlc s s' w' x z:=fun G2 aM w2 jump f b k1 k2 k3 k4 hf hb hx hs=>by
    obtain⟨zO,qG,m1,m2,m3⟩:=k1.aa7 k3 Hy k4
    have sC:=k1.ad5 m1 k4 m2 (f:=f) rfl (hf zO qG m3)
    have ZF:(ef aM.sig l f).loops.length=s.loops.length:=by simp[ef,k3]
    obtain⟨gr,hg,_⟩:=sC.cur
    obtain⟨t1,t2,t3,t4⟩:=z6 sC ZF hg
    refine⟨_,_,run_endRound jump m2,_,rfl,?_⟩
    subst hs hx hb
    exact W8 h qs k2 t1 (by simp[ae.pop,sC.len]) ZF t2 (fun d q hd e=>⟨q,by rw[t4 d hd];exact e,.refl q,rfl⟩) (fun _ _ e=>e) (.val _ rfl)
  split at hc
  · rename_i aM zi
    injection hc with hc
    injection hc with hx hs
    refine body .normal aM zi fun ex a' w2 G2 hex k1 k2 k3 k4=>?_
    subst hex
    exact fin G2 aM w2 none (fun p=>{p with ready:=true,eH:=none}) true k1 k2 k3 k4 (fun zO qG m=>m.Ns rfl rfl rfl rfl rfl rfl rfl rfl (fun _=>⟨rfl,rfl⟩) (fun e=>by cases e) rfl (by simp)) rfl hx.symm hs.symm
  · rename_i e aM aF zi
    injection hc with hc
    injection hc with hx hs
    refine body e aM zi fun ex a' w2 G2 hex k1 k2 k3 k4=>?_
    subst hex
    cases e with
    |normal=>exact absurd rfl aF
    |exit id=>exact fin G2 aM w2 (some (.exit id)) (fun p=>{p with ready:=false,eH:=some (.exit id)}) false k1 k2 k3 k4 (fun zO qG m=>m.Ns rfl rfl rfl rfl rfl rfl rfl rfl (fun e=>by cases e) (fun _=>rfl) rfl (by simp)) rfl hx.symm hs.symm
    |ret=>exact fin G2 aM w2 (some .ret) (fun p=>{p with ready:=false,eH:=some .ret}) false k1 k2 k3 k4 (fun zO qG m=>m.Ns rfl rfl rfl rfl rfl rfl rfl rfl (fun e=>by cases e) (fun _=>rfl) rfl (by simp)) rfl hx.symm hs.symm
  · cases hc
theorem ahh {AP:FuncId→Option aE} {K:World→Prop} (hp:tD P AP K) (hK:∀w,Below B0 w0 w→K w) {call:bj} (dV:mL P B0 w0 call) (fi:oA P B0 w0 call) (bO:jl call) (lf:Nat):mL P B0 w0 (iP AP call lf):=by
 refine⟨fun G k nl s w f args xs res s' h qs kB kX hl hR hc=>?_,fun G k nl s w l r args xs res s' h qs kB kX aB kz hl hR hc=>ay5 hp dV fi bO h qs kB kX aB kz hl hR hc⟩
 unfold iP at hc
 simp only at hc
 split at hc
 ·rename_i np nt b rs own lK
  split at hc
  ·rename_i hlen
   split at hc
   ·rename_i st he
    exact Xj hp dV fi bO lK h qs kB kX hl hR hlen he (.inl rfl) hc
   ·rename_i st he
    exact Xj hp dV fi bO lK h qs kB kX hl hR hlen he (.inr rfl) hc
   ·cases hc
  ·cases hc
 ·rename_i F lK
  exact avR hp hK lK h hl hR hc
 ·cases hc
theorem ahf {AP:FuncId→Option aE} {K:World→Prop} (hp:tD P AP K) {call:bj} (dV:mL P B0 w0 call) (fi:oA P B0 w0 call) (bO:jl call) (lf:Nat):oA P B0 w0 (iP AP call lf):=by
 refine⟨fun G k nl s w f args xs res s' h aU hl hR hc=>?_,fun I s w f args xs res s' hl hR hc=>?_⟩
 ·unfold iP at hc
  simp only at hc
  split at hc
  ·rename_i np nt b rs own lK
   split at hc
   ·rename_i hlen
    split at hc
    ·rename_i st he
     obtain⟨l,hr,hc⟩:=aZ.1 hc
     injection hc with h1 h2
     subst h1 h2
     exact aax hp dV fi bO lK h aU hl hR hlen.1 he (.inl rfl) hr
    ·rename_i st he
     obtain⟨l,hr,hc⟩:=aZ.1 hc
     injection hc with h1 h2
     subst h1 h2
     exact aax hp dV fi bO lK h aU hl hR hlen.1 he (.inr rfl) hr
    ·cases hc
   ·cases hc
  ·cases hc
 ·unfold iP at hc
  simp only at hc
  split at hc
  ·rename_i F lK
   obtain⟨as,has,hc⟩:=dS.1 hc
   obtain⟨y,hy,hc⟩:=aZ.1 hc
   injection hc with h1 h2
   subst h1 h2
   obtain⟨c1,c2⟩:=KU has
   refine⟨rfl,hp.nat f F lK I w as xs y (by rw[hl,c1]) (fun i hi=>hR i (by omega) _ (c2 i (by omega) hi)) hy⟩
  ·cases hc
theorem W6 {AP:FuncId→Option aE} {K:World→Prop} (hp:tD P AP K) (hK:∀w,Below B0 w0 w→K w):∀n,mL P B0 w0 (fw AP n)∧oA P B0 w0 (fw AP n)∧jl (fw AP n)
 |0=>⟨⟨fun _ _ _ _ _ _ _ _ _ _ _ _ _ _ _ _ h=>by simp[fw]at h,fun _ _ _ _ _ _ _ _ _ _ _ _ _ _ _ _ _ _ _ h=>by simp[fw]at h⟩,⟨fun _ _ _ _ _ _ _ _ _ _ _ _ _ _ h=>by simp[fw]at h,fun _ _ _ _ _ _ _ _ _ _ h=>by simp[fw]at h⟩,fun _ _ _ _ _ _ _ h=>by simp[fw]at h⟩
 |n+1=>
  have h:=W6 hp hK n
  ⟨ahh hp hK h.1 h.2.1 h.2.2 n,ahf hp h.1 h.2.1 h.2.2 n,jl.step h.2.2 n⟩
end
end Go.Ax
/-
  From the executor's answer to the call of the model.
-/
namespace Go.Ax
open Go.RowKit
def Nf (w:World):aH:={I:=fun b i=>w.cell? ⟨b,i,none⟩,ag:=[],loops:=[],own:=fun _=>none}
def Dp:ae:=⟨[],[],0,0⟩
theorem ax2 (P:Program) (w:World):cQ P w.heap.size w (Nf w) Dp w:=
 ⟨fun _ _ _ e=>e,rfl,rfl,fun d r gr e=>by simp[Dp]at e,fun l lp r e=>by simp[Dp]at e,fun d gr e=>by simp[Nf]at e,fun d d' gr bP _ e=>by simp[Nf]at e,Below.refl _ _,aI _,fun b o e=>by cases e⟩
abbrev Reads (w:World):AV→Value→Prop:=bN fun b i=>w.cell? ⟨b,i,none⟩
theorem aw2 {P:Program} {AP:FuncId→Option aE} {K:World→Prop} (hp:tD P AP K) {n:Nat} {f:FuncId} {args:List AV} {xs:Array Value} {w:World} {b:Bool} {s':ae} (hK:∀w',Below w.heap.size w w'→K w') (hl:xs.size=args.length) (hR:∀i (hi:i<args.length),Reads w args[i] (xs.getD i Go.undef))
  (hc:fw AP n (.fn f) args Dp=some (.v (.bool b),s')):Calls P f xs w fun e w'=>e=.returned (.bool b)∧Below w.heap.size w w':=by
 have:=((W6 (P:=P) (B0:=w.heap.size) (w0:=w) hp hK n).1.fn (Nf w) 0 0 Dp w f args xs _ s' (ax2 P w) (aV _) (aI _) (aI _) hl (fun i hi=>.cl (hR i hi)) hc).2
 refine Calls.mono this fun e w' he=>?_
 obtain⟨z,rfl,G',h1,_,_,_,h5⟩:=he
 rw[h5.gp]
 exact⟨rfl,h1.below⟩
end Go.Ax
/-
  The executor without its bound: what it gives with some bound. Equations to compute with.
-/
namespace Go.Ax
def l9 (c c':bj):Prop:=∀t a s r,c t a s=some r→c' t a s=some r
theorem l9.refl (c:bj):l9 c c:=fun _ _ _ _ h=>h
theorem l9.trans {a b c:bj} (h:l9 a b) (k:l9 b c):l9 a c:=fun t x s r e=>k t x s r (h t x s r e)
theorem xt {c c':bj} (h:l9 c c') {ro:Bool} {m:ae} {t:Target} {as:List AV} {r:AV×ae} (e:eo c ro m t as=some r):eo c' ro m t as=some r:=by
 unfold eo at e⊢
 split
 ·rw[aj (by assumption)]at e
  obtain⟨p,hp,rfl⟩:=aZ.1 e
  rw[h _ _ _ _ hp]
  rfl
 ·rw[ak (by assumption)]at e
  exact h _ _ _ _ e
theorem ahl {c c':bj} (h:l9 c c') {m:ae} {f:FuncId} {as:List AV} {r:AV×ae} (e:nA c m f as=some r):nA c' m f as=some r:=by
 unfold nA at e⊢
 cases hc:c (.fn f) as {m.push ⟨[],[]⟩with ro:=m.ag.length,cq:=m.loops.length}with
 |none=>rw[hc]at e;cases e
 |some p=>rw[hc]at e;rw[h _ _ _ _ hc];exact e
theorem ahn {c c':bj} (h:l9 c c') {ro:Bool} {m:ae} {x:AV} {as:List AV} {r:AV×ae} (e:nB c ro m x as=some r):nB c' ro m x as=some r:=by
 cases x<;>first
  |exact xt h e
  |(simp[nB]at e)
theorem Lb {c:bj} {ro:Bool} {m:ae} {zs:List (List AV)} {t:Target} {as:List AV} {r:AV×ae}:nD c ro m zs t as=some r↔
  eo c ro m t as=some r∧m.tail zs.length∈qZ zs∧(∀bx,bx∈qZ zs→eo c ro (m.jd zs.length bx) t as=some (r.1,r.2.jd zs.length bx))∧r.2.ag.length=m.ag.length∧r.2.cE m.cur=m.cE m.cur∧r.2.tail zs.length=m.tail zs.length∧(ro=true→r.2=m)∧(r.2.lZ m.cur=false→m.lZ m.cur=false):=by
 unfold nD
 constructor
 ·intro h
  split at h
  ·rename_i v m' e
   split at h
   ·rename_i hc
    injection h with h
    subst h
    exact⟨e,hc⟩
   ·cases h
  ·cases h
 ·rintro⟨h1,h2⟩
  rw[h1]
  simp only
  rw[aj h2]
theorem ajs {c c':bj} (h:l9 c c') {ro:Bool} {m:ae} {zs:List (List AV)} {t:Target} {as:List AV} {r:AV×ae} (e:nD c ro m zs t as=some r):nD c' ro m zs t as=some r:=by
 obtain⟨h1,h2,h3,h4⟩:=Lb.1 e
 exact Lb.2 ⟨xt h h1,h2,fun bx hb=>xt h (h3 bx hb),h4⟩
theorem abZ {c c':bj} (h:l9 c c') {ρ:aJ→AV} {m:ae} {op:cm} {r:AV×ae} (e:aO c ρ m op=some r):aO c' ρ m op=some r:=by
 cases op<;>first
  |exact e
  |exact xt h e
  |exact ahn h e
  |exact ahl h e
  |exact ajs h e
theorem Ie {c c':bj} (h:l9 c c'):∀{l:List bt} {st r:St},ops c l st=some r→ops c' l st=some r
 |[],st,r,e=>e
 | o :: l, st, r, e => by
  unfold ops at e⊢
  split
  ·rename_i hw
   rw[aj hw]at e
   split at e
   ·rename_i x m hv
    rw[abZ h hv]
    exact Ie h e
   ·cases e
  ·rename_i hw
   rw[ak hw]at e
   exact Ie h e
theorem MM {f g:St→Option (c8×St)} (h:∀st r,f st=some r→g st=some r):∀{n m:Nat} {st:St} {r:c8×St},n≤m→lW f n st=some r→lW g m st=some r
 |0,_,_,_,_,e=>by simp[lW]at e
 |n+1,0,_,_,hn,_=>by omega
 | n + 1, m + 1, st, r, hn, e => by
  simp only[lW]at e⊢
  split at e
  ·rename_i cZ h1
   rw[h _ _ h1]
   exact MM h (by omega) e
  ·rename_i aF
   rw[h _ _ e]
   split
   ·rename_i cZ heq
    exact absurd (e.trans heq) (aF _)
   ·rfl
theorem xu {c c':bj} (h:l9 c c') {n m:Nat} (hn:n≤m):∀{a:au} {st:St} {r:c8×St},exec c n a st=some r→exec c' m a st=some r:=by
 intro a
 induction a with
 |skip=>intro st r e;exact e
 |exit=>intro st r e;exact e
 |ret=>intro st r e;exact e
 |region d l=>
  intro st r e
  simp only[exec]at e⊢
  obtain⟨p,hp,rfl⟩:=aZ.1 e
  rw[Ie h hp]
  rfl
 | seq a b vQ zI =>
  intro st r e
  simp only[exec]at e⊢
  split at e
  ·rename_i cZ h1
   rw[vQ h1]
   exact zI e
  ·rename_i aF
   rw[vQ e]
   split
   ·rename_i cZ heq
    exact absurd (e.trans heq) (aF _)
   ·rfl
 | cond x a b vQ zI =>
  intro st r e
  simp only[exec]at e⊢
  split
  ·rename_i t hx
   rw[hx]at e
   simp only at e
   split
   ·rw[aj (by assumption)]at e;exact vQ e
   ·rw[ak (by assumption)]at e;exact zI e
  ·rename_i hx
   split at e
   ·rename_i t ht
    exact absurd ht (hx _)
   ·cases e
 | block id a ih =>
  intro st r e
  simp only[exec]at e⊢
  split at e
  ·rename_i j cZ h1
   rw[ih h1]
   exact e
  ·rename_i aF
   rw[ih e]
   split
   ·rename_i j cZ heq
    exact absurd (e.trans heq) (aF _ _)
   ·rfl
 |loop a ih=>
  intro st r e
  simp only[exec]at e⊢
  exact MM (fun st r=>ih) hn e
 | rangeFunc f ps a b _ _ =>
  intro st r e
  simp only[exec]at e⊢
  split
  ·rename_i g first caps hf
   rw[hf]at e
   simp only at e
   split at e
   ·rename_i x s hc
    rw[h _ _ _ _ hc]
    exact e
   ·cases e
  ·rename_i hf
   split at e
   ·rename_i g first caps hg
    exact absurd hg (hf _ _ _)
   ·cases e
theorem ahg {AP:FuncId→Option aE} {c c':bj} (h:l9 c c') {n m:Nat} (hn:n≤m):l9 (iP AP c n) (iP AP c' m):=by
 intro t as s r e
 unfold iP at e⊢
 cases t with
 | fn f =>
  simp only at e⊢
  split at e
  ·split at e
   ·rename_i hlen
    rw[aj hlen]
    split at e
    ·rename_i st he;rw[xu h hn he];exact e
    ·rename_i st he;rw[xu h hn he];exact e
    ·cases e
   ·cases e
  ·exact e
  ·cases e
 | inl f =>
  simp only at e⊢
  split at e
  ·split at e
   ·rename_i hlen
    rw[aj hlen]
    split at e
    ·rename_i st he;rw[xu h hn he];exact e
    ·rename_i st he;rw[xu h hn he];exact e
    ·cases e
   ·cases e
  ·cases e
 |nat f=>exact e
 | yield l =>
  simp only at e⊢
  split at e
  ·rename_i lp rn
   split at e
   ·rename_i cu
    rw[aj cu]
    split at e
    ·rename_i st he
     rw[xu h hn he]
     simp only
     split at e
     ·rename_i hr
      rw[aj hr]
      split at e
      ·rename_i aM hb
       rw[xu h hn hb]
       exact e
      ·rename_i ex aM aF hb
       rw[xu h hn hb]
       simp only
       exact e
      ·cases e
     ·cases e
    ·cases e
   ·cases e
  ·cases e
theorem W7 {AP:FuncId→Option aE}:∀n,l9 (fw AP n) (fw AP (n+1))
 |0=>fun _ _ _ _ e=>by simp[fw]at e
 |n+1=>ahg (W7 n) (tz n)
theorem vd {AP:FuncId→Option aE} {n m:Nat} (h:n≤m):l9 (fw AP n) (fw AP m):=by
 induction h with
 |refl=>exact .refl _
 |step _ ih=>exact ih.trans (W7 _)
section
variable(AP:FuncId→Option aE)
open Classical in
noncomputable def aw:bj:=fun t as s=>if h:∃r n,fw AP n t as s=some r then some h.choose else none
open Classical in
noncomputable def fF (c:au) (st:St):Option (c8×St):=if h:∃r n,exec (fw AP n) n c st=some r then some h.choose else none
variable{AP}
theorem vb {t:Target} {as:List AV} {s:ae} {r:AV×ae}:aw AP t as s=some r↔∃n,fw AP n t as s=some r:=by
 unfold aw
 constructor
 ·intro h
  split at h
  ·rename_i hex
   injection h with h
   rw[←h]
   exact hex.choose_spec
  ·cases h
 ·intro⟨n,hn⟩
  have hex:∃r n,fw AP n t as s=some r:=⟨r,n,hn⟩
  rw[tP hex]
  obtain⟨m,hm⟩:=hex.choose_spec
  have h1:=vd (DO n m) _ _ _ _ hn
  have h2:=vd (Ja n m) _ _ _ _ hm
  rw[h1]at h2
  exact h2.symm
theorem vj {n m:Nat} (h:n≤m) {c:au} {st:St} {r:c8×St} (e:exec (fw AP n) n c st=some r):exec (fw AP m) m c st=some r:=xu (vd h) h e
theorem jP {c:au} {st:St} {r:c8×St}:fF AP c st=some r↔∃n,exec (fw AP n) n c st=some r:=by
 unfold fF
 constructor
 ·intro h
  split at h
  ·rename_i hex
   injection h with h
   rw[←h]
   exact hex.choose_spec
  ·cases h
 ·intro⟨n,hn⟩
  have hex:∃r n,exec (fw AP n) n c st=some r:=⟨r,n,hn⟩
  rw[tP hex]
  obtain⟨m,hm⟩:=hex.choose_spec
  have h1:=vj (DO n m) hn
  have h2:=vj (Ja n m) hm
  rw[h1]at h2
  exact h2.symm
theorem ahd (n:Nat):l9 (fw AP n) (aw AP):=fun _ _ _ _ e=>vb.2 ⟨n,e⟩
theorem GI {ro:Bool} {m:ae} {t:Target} {as:List AV} {r:AV×ae} (e:eo (aw AP) ro m t as=some r):∃n,eo (fw AP n) ro m t as=some r:=by
 unfold eo at e⊢
 split at e
 ·obtain⟨p,hp,rfl⟩:=aZ.1 e
  obtain⟨n,hn⟩:=vb.1 hp
  exact⟨n,by rw[aj (by assumption),hn];rfl⟩
 ·obtain⟨n,hn⟩:=vb.1 e
  exact⟨n,by rw[ak (by assumption),hn]⟩
theorem ahk {m:ae} {f:FuncId} {as:List AV} {r:AV×ae} (e:nA (aw AP) m f as=some r):∃n,nA (fw AP n) m f as=some r:=by
 unfold nA at e⊢
 cases hc:aw AP (.fn f) as {m.push ⟨[],[]⟩with ro:=m.ag.length,cq:=m.loops.length}with
 |none=>rw[hc]at e;cases e
 |some p=>
  rw[hc]at e
  obtain⟨n,hn⟩:=vb.1 hc
  exact⟨n,by rw[hn];exact e⟩
theorem Yj {ro:Bool} {t:Target} {as:List AV} {M:List (List AV)→ae} {R:List (List AV)→AV×ae}:∀{l:List (List (List AV))},(∀bx,bx∈l→eo (aw AP) ro (M bx) t as=some (R bx))→∃n,∀bx,bx∈l→eo (fw AP n) ro (M bx) t as=some (R bx)
 |[],_=>⟨0,fun _ h=>by cases h⟩
 |b::l,h=>by
  obtain⟨n1,k1⟩:=GI (h b (by simp))
  obtain⟨n2,k2⟩:=Yj (l:=l) fun bx hb=>h bx (cD _ hb)
  refine⟨n1+n2,fun bx hb=>?_⟩
  rcases dr.1 hb with rfl|hb
  ·exact xt (vd (by omega)) k1
  ·exact xt (vd (by omega)) (k2 bx hb)
theorem ajr {ro:Bool} {m:ae} {zs:List (List AV)} {t:Target} {as:List AV} {r:AV×ae} (e:nD (aw AP) ro m zs t as=some r):∃n,nD (fw AP n) ro m zs t as=some r:=by
 obtain⟨h1,h2,h3,h4⟩:=Lb.1 e
 obtain⟨n1,k1⟩:=GI h1
 obtain⟨n3,k3⟩:=Yj h3
 exact⟨n1+n3,Lb.2 ⟨xt (vd (by omega)) k1,h2,fun bx hb=>xt (vd (by omega)) (k3 bx hb),h4⟩⟩
theorem aug {ρ:aJ→AV} {m:ae} {op:cm} {r:AV×ae} (e:aO (aw AP) ρ m op=some r):∃n,aO (fw AP n) ρ m op=some r:=by
  cases op<;>first
    |exact⟨0,e⟩
    |exact GI e
    |exact ahk e
    |exact ajr e
    | (simp only [aO, nB] at e ⊢
       split at e
       · exact GI e
       · exact GI e
       · cases e)
theorem S8:∀{l:List bt} {st r:St},ops (aw AP) l st=some r→∃n,ops (fw AP n) l st=some r
 |[],st,r,e=>⟨0,e⟩
 | o :: l, st, r, e => by
  unfold ops at e
  split at e
  ·rename_i hw
   split at e
   ·rename_i x m hv
    obtain⟨n1,h1⟩:=aug hv
    obtain⟨n2,h2⟩:=S8 e
    refine⟨max n1 n2,?_⟩
    unfold ops
    rw[aj hw,abZ (vd (DO n1 n2)) h1]
    exact Ie (vd (Ja n1 n2)) h2
   ·cases e
  ·rename_i hw
   obtain⟨n2,h2⟩:=S8 e
   refine⟨n2,?_⟩
   unfold ops
   rw[ak hw]
   exact h2
theorem uw {α:Type} {x y:Option α} (h:∀r,x=some r↔y=some r):x=y:=by
 cases hx:x with
 |some a=>exact((h a).1 hx).symm
 |none=>
  cases hy:y with
  |none=>rfl
  |some b=>have:=(h b).2 hy;rw[hx]at this;cases this
theorem gJ {c:au} {st:St} {r:c8×St} {n:Nat} (h:exec (fw AP n) n c st=some r):fF AP c st=some r:=jP.2 ⟨n,h⟩
theorem aw1 (st:St):fF AP .skip st=some (.normal,st):=gJ (n:=0) rfl
theorem awV (id:Nat) (st:St):fF AP (.exit id) st=some (.exit id,st):=gJ (n:=0) rfl
theorem awZ (st:St):fF AP .ret st=some (.ret,st):=gJ (n:=0) rfl
theorem awY (d:Bool) (l:List bt) (st:St):fF AP (.region d l) st=(ops (aw AP) l st).map (c8.normal,·):=by
 refine uw fun r=>⟨fun h=>?_,fun h=>?_⟩
 ·obtain⟨n,hn⟩:=jP.1 h
  simp only[exec]at hn
  obtain⟨p,hp,rfl⟩:=aZ.1 hn
  rw[Ie (ahd n) hp]
  rfl
 ·obtain⟨p,hp,rfl⟩:=aZ.1 h
  obtain⟨n,hn⟩:=S8 hp
  exact gJ (n:=n) (by simp only[exec,hn];rfl)
theorem aw0 (a b:au) (st:St):fF AP (.seq a b) st=match fF AP a st with
  |some (.normal,aM)=>fF AP b aM
  |r=>r:=by
 refine uw fun r=>⟨fun h=>?_,fun h=>?_⟩
 ·obtain⟨n,hn⟩:=jP.1 h
  simp only[exec]at hn
  split at hn
  ·rename_i cZ h1
   rw[gJ h1]
   exact gJ hn
  ·rename_i aF
   rw[gJ hn]
   split
   ·rename_i cZ heq
    exact absurd (hn.trans heq) (aF _)
   ·rfl
 ·split at h
  ·rename_i cZ h1
   obtain⟨n1,e1⟩:=jP.1 h1
   obtain⟨n2,e2⟩:=jP.1 h
   refine gJ (n:=max n1 n2) ?_
   simp only[exec,vj (DO n1 n2) e1]
   exact vj (Ja n1 n2) e2
  ·rename_i aF
   obtain⟨n,hn⟩:=jP.1 h
   refine gJ (n:=n) ?_
   simp only[exec,hn]
   split
   ·rename_i cZ heq
    exact absurd (h.trans heq) (aF _)
   ·rfl
theorem awU (c:aJ) (a b:au) (st:St):fF AP (.cond c a b) st=match aD st.tmps c with
  |.v (.bool t)=>if t then fF AP a st else fF AP b st
  |_=>none:=by
 refine uw fun r=>⟨fun h=>?_,fun h=>?_⟩
 ·obtain⟨n,hn⟩:=jP.1 h
  simp only[exec]at hn
  split at hn
  ·rename_i t ht
   rw[ht]
   simp only
   split
   ·rw[aj (by assumption)]at hn;exact gJ hn
   ·rw[ak (by assumption)]at hn;exact gJ hn
  ·cases hn
 ·split at h
  ·rename_i t ht
   split at h
   ·rename_i hb
    obtain⟨n,hn⟩:=jP.1 h
    exact gJ (n:=n) (by simp only[exec,ht,aj hb,hn])
   ·rename_i hb
    obtain⟨n,hn⟩:=jP.1 h
    exact gJ (n:=n) (by simp only[exec,ht,ak hb,hn])
  ·cases h
theorem awT (id:Nat) (a:au) (st:St):fF AP (.block id a) st=match fF AP a st with
  |some (.exit j,aM)=>if j=id then some (.normal,aM)else some (.exit j,aM)
  |r=>r:=by
 refine uw fun r=>⟨fun h=>?_,fun h=>?_⟩
 ·obtain⟨n,hn⟩:=jP.1 h
  simp only[exec]at hn
  split at hn
  ·rename_i j cZ h1
   rw[gJ h1]
   exact hn
  ·rename_i aF
   rw[gJ hn]
   split
   ·rename_i j cZ heq
    exact absurd (hn.trans heq) (aF _ _)
   ·rfl
 ·split at h
  ·rename_i j cZ h1
   obtain⟨n1,e1⟩:=jP.1 h1
   refine gJ (n:=n1) ?_
   simp only[exec,e1]
   exact h
  ·rename_i aF
   obtain⟨n,hn⟩:=jP.1 h
   refine gJ (n:=n) ?_
   simp only[exec,hn]
   split
   ·rename_i j cZ heq
    exact absurd (h.trans heq) (aF _ _)
   ·rfl
theorem awW (a:au) (st:St):fF AP (.loop a) st=match fF AP a st with
  |some (.normal,aM)=>fF AP (.loop a) aM
  |r=>r:=by
 refine uw fun r=>⟨fun h=>?_,fun h=>?_⟩
 ·obtain⟨n,hn⟩:=jP.1 h
  simp only[exec]at hn
  obtain⟨m,rfl⟩:∃m,n=m+1:=by
   cases n with
   |zero=>simp[lW]at hn
   |succ m=>exact⟨m,rfl⟩
  rw[lW]at hn
  split at hn
  ·rename_i cZ h1
   rw[gJ h1]
   refine gJ (n:=m+1) ?_
   simp only[exec]
   exact MM (fun _ _ e=>e) (tz m) hn
  ·rename_i aF
   rw[gJ hn]
   split
   ·rename_i cZ heq
    exact absurd (hn.trans heq) (aF _)
   ·rfl
 ·split at h
  ·rename_i cZ h1
   obtain⟨n1,e1⟩:=jP.1 h1
   obtain⟨n2,e2⟩:=jP.1 h
   refine gJ (n:=max n1 n2+1) ?_
   simp only[exec,lW]
   rw[vj (by omega) e1]
   simp only[exec]at e2
   exact MM (fun st r e=>vj (by omega) e) (by omega) e2
  ·rename_i aF
   obtain⟨n,hn⟩:=jP.1 h
   refine gJ (n:=n+1) ?_
   simp only[exec,lW]
   rw[vj (tz n) hn]
   split
   ·rename_i cZ heq
    exact absurd (h.trans heq) (aF _)
   ·rfl
theorem awX (f:aJ) (ps:List Nat) (a b:au) (st:St):fF AP (.rangeFunc f ps a b) st=match aD st.tmps f with
  | .fn g first caps => match aw AP (.fn g) (first ++ .yield st.sig.loops.length :: caps) (enterLoop st.sig ⟨true, none, st.tmps, ps, a, b⟩) with
   |some (_,s)=>match ya s st.sig.loops.length with
    |some (e,s1)=>some (e.getD .normal,⟨st.tmps,s1⟩)
    |none=>none
   |none=>none
  |_=>none:=by
 refine uw fun r=>⟨fun h=>?_,fun h=>?_⟩
 ·obtain⟨n,hn⟩:=jP.1 h
  simp only[exec]at hn
  split at hn
  ·rename_i g first caps hf
   rw[hf]
   simp only
   split at hn
   ·rename_i x s hc
    rw[vb.2 ⟨n,hc⟩]
    exact hn
   ·cases hn
  ·cases hn
 ·split at h
  ·rename_i g first caps hf
   split at h
   ·rename_i x s hc
    obtain⟨n,hn⟩:=vb.1 hc
    refine gJ (n:=n) ?_
    simp only[exec,hf,hn]
    exact h
   ·cases h
  ·cases h
theorem BE {t:Target} {as:List AV} {s:ae} {r:AV×ae} {n:Nat} (h:iP AP (fw AP n) n t as s=some r):aw AP t as s=some r:=vb.2 ⟨n+1,h⟩
theorem KR {t:Target} {as:List AV} {s:ae} {r:AV×ae} (h:aw AP t as s=some r):∃n,iP AP (fw AP n) n t as s=some r:=by
 obtain⟨n,hn⟩:=vb.1 h
 cases n with
 |zero=>simp[fw]at hn
 |succ n=>exact⟨n,hn⟩
theorem aha {f : FuncId} {np nt : Nat} {b : au} {rs : List iy} {own : Bool} (hf : AP f = some (.code np nt b rs own)) (as : List AV) (s : ae) : aw AP (.fn f) as s = if as.length = np then
      match fF AP b ⟨jm as,s.push ⟨[],[]⟩⟩with
      |some (.normal,st)|some (.ret,st)=>finish rs own st
      |_=>none
    else none:=by
  refine uw fun r=>⟨fun h=>?_,fun h=>?_⟩
  · obtain ⟨n, hn⟩ := KR h
    simp only[iP,hf]at hn
    split at hn
    · rename_i hl
      rw[aj hl]
      split at hn
      · rename_i st h1;rw[gJ h1];exact hn
      · rename_i st h1;rw[gJ h1];exact hn
      · cases hn
    · cases hn
  · split at h
    · rename_i hl
      split at h
      · rename_i st h1
        obtain⟨n,hn⟩:=jP.1 h1
        exact BE (n:=n) (by simp only[iP,hf,aj hl,hn];exact h)
      · rename_i st h1
        obtain⟨n,hn⟩:=jP.1 h1
        exact BE (n:=n) (by simp only[iP,hf,aj hl,hn];exact h)
      · cases h
    · cases h
theorem ahb {f : FuncId} {np nt : Nat} {b : au} {rs : List iy} {own : Bool} (hf : AP f = some (.code np nt b rs own)) (as : List AV) (s : ae) : aw AP (.inl f) as s = if as.length = np ∧ s.ro < s.ag.length then
      match fF AP b ⟨jm as,s⟩with
      |some (.normal,st)|some (.ret,st)=>(yi st rs).map fun l=>(packed l,st.sig)
      |_=>none
    else none:=by
  refine uw fun r=>⟨fun h=>?_,fun h=>?_⟩
  · obtain ⟨n, hn⟩ := KR h
    simp only[iP,hf]at hn
    split at hn
    · rename_i hl
      rw[aj hl]
      split at hn
      · rename_i st h1;rw[gJ h1];exact hn
      · rename_i st h1;rw[gJ h1];exact hn
      · cases hn
    · cases hn
  · split at h
    · rename_i hl
      split at h
      · rename_i st h1
        obtain⟨n,hn⟩:=jP.1 h1
        exact BE (n:=n) (by simp only[iP,hf,aj hl,hn];exact h)
      · rename_i st h1
        obtain⟨n,hn⟩:=jP.1 h1
        exact BE (n:=n) (by simp only[iP,hf,aj hl,hn];exact h)
      · cases h
    · cases h
theorem xj {f:FuncId} {F:List AV→Option AV} (hf:AP f=some (.lg F)) (as:List AV) (s:ae):aw AP (.fn f) as s=(closeAll as).bind fun bs=>(F bs).map (·,s):=by
 refine uw fun r=>⟨fun h=>?_,fun h=>?_⟩
 ·obtain⟨n,hn⟩:=KR h
  simpa only[iP,hf]using hn
 ·exact BE (n:=0) (by simpa only[iP,hf]using h)
def endRound (l:Nat):Option (c8×St)→Option (AV×ae)
 |some (.normal,aM)=>some (AV.bool true,(ef aM.sig l fun p=>{p with ready:=true,eH:=none}).pop)
 |some (e,aM)=>some (AV.bool false,(ef aM.sig l fun p=>{p with ready:=false,eH:=some e}).pop)
 |none=>none
theorem ahc (l:Nat) (as:List AV) (s:ae):aw AP (.yield l) as s=match s.loops[l]? with
  | some lp =>
   if lp.ready=true∧s.cq≤l∧as.length=lp.params.length then
    match fF AP lp.assign ⟨uD lp.tmps lp.params as,s.push ⟨[],[]⟩⟩with
    |some (.normal,st)=>if CY st.sig l=true then endRound l (fF AP lp.body ⟨st.tmps,ef st.sig l fun p=>{p with ready:=false}⟩)else none
    |_=>none
   else none
  |none=>none:=by
 refine uw fun r=>⟨fun h=>?_,fun h=>?_⟩
 ·obtain⟨n,hn⟩:=KR h
  simp only[iP]at hn
  split at hn
  ·rename_i lp rn
   split at hn
   ·rename_i cu
    rw[rn]
    simp only
    rw[aj cu]
    split at hn
    ·rename_i st h1
     rw[gJ h1]
     simp only
     split at hn
     ·rename_i hr
      rw[aj hr]
      split at hn
      ·rename_i aM h2
       rw[gJ h2]
       exact hn
      ·rename_i e aM aF h2
       rw[gJ h2]
       cases e with
       |normal=>exact absurd rfl aF
       |exit id=>exact hn
       |ret=>exact hn
      ·cases hn
     ·cases hn
    ·cases hn
   ·cases hn
  ·cases hn
 ·split at h
  ·rename_i lp rn
   split at h
   ·rename_i cu
    split at h
    ·rename_i st h1
     split at h
     ·rename_i hr
      obtain⟨n1,e1⟩:=jP.1 h1
      cases hb:fF AP lp.body ⟨st.tmps,ef st.sig l fun p=>{p with ready:=false}⟩with
      |none=>rw[hb]at h;cases h
      |some q=>
       obtain⟨e,aM⟩:=q
       obtain⟨n2,e2⟩:=jP.1 hb
       rw[hb]at h
       refine BE (n:=max n1 n2) ?_
       simp only[iP,rn,aj cu,vj (DO n1 n2) e1,aj hr,vj (Ja n1 n2) e2]
       cases e<;>exact h
     ·cases h
    ·cases h
   ·cases h
  ·cases h
end
end Go.Ax
