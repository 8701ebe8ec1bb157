/-
  A region in its own order, and one whose order is drawn.
-/
import Derived.Test.YtplkfafeoocmlaaGreatDoorT3
import Derived.TacticsIn
import Derived.OrdersIn
set_option linter.unusedSimpArgs false
set_option linter.unusedVariables false
set_option maxRecDepth 100000
namespace Go.Ax
open Go.RowKit
section
variable{P:Program} {B0:Nat} {w0:World} {G:aG} {k nl:Nat} {w:World} {s:ae}
theorem rS.trans {a a1 a2:Act} {cX rK:St} {w1 w2:World} (h:rS P B0 w0 G k nl s a cX a1 w1)
  (h':∀G',At P B0 w0 G' k nl cX.sig w1→eE G' k nl cX.tmps a1→rS P B0 w0 G' k nl cX.sig a1 rK a2 w2):rS P B0 w0 G k nl s a rK a2 w2:=by
 obtain⟨G1,h1,h2,h3,h4,h5,h6⟩:=h
 obtain⟨G2,g1,g2,g3,g4,g5,g6⟩:=h' G1 h1 h4
 rw[h3]at g2 g3
 exact⟨G2,g1,h2.trans g2,g3,g4,g5.trans h5,g6.trans h6⟩
theorem aag {call:aZ} (dx:lr P B0 w0 call) (fm:n7 P B0 w0 call) (bq:ie call) {rd:Option Nat} {n:Nat} {all:List Oper} {md:Nat→Md} {Q:Exit→Act→World→Prop}:∀(l:List Oper) (i:Nat) (al:List bC) (G:aG) (st aQ:St) (a:Act) (w:World),
  ot P all md i l=some al→At P B0 w0 G k nl st.sig w→st.sig.loops.length=nl→eE G k nl st.tmps a→(∀o,o∈al→∀t,o.dst=some t→t<a.tmps.size)→ops call al st=some aQ→
  (∀a' w',rS P B0 w0 G k nl st.sig a aQ a' w'→Q .normal a' w')→wpListIn (iM rd) n P all.toArray Q l a w
 |[],i,al,G,st,aQ,a,w,hc,h,aR,hR,hd,hs,hQ=>by
  simp only[ot]at hc
  injection hc with hc
  subst hc
  simp only[ops]at hs
  injection hs with hs
  subst hs
  exact hQ a w ⟨G,h,.refl _ _ _,rfl,hR,rfl,rfl⟩
 | o :: r, i, al, G, st, aQ, a, w, hc, h, aR, hR, hd, hs, hQ => by
  simp only[ot]at hc
  split at hc
  ·rename_i g op rest e1 e2 e3
   injection hc with hc
   subst hc
   rw[Ry]at hs
   obtain⟨cX,rj,xF⟩:=dj.1 hs
   unfold wpListIn
   refine Z8 dx fm bq h aR hR (ao:=⟨o.dst,g,op⟩) e1 e2 rfl (fun t ht=>hd _ (by simp) t ht) rj fun a1 w1 hp=>?_
   obtain⟨G1,g1,g2,g3,g4,g5,g6⟩:=hp
   refine aag dx fm bq r (i+1) rest G1 cX aQ a1 w1 e3 g1 (g3.trans aR) g4 (fun o' ho t ht=>by rw[g5];exact hd o' (by simp[ho]) t ht) xF fun a' w' rh=>hQ a' w' ?_
   obtain⟨G2,q1,q2,q3,q4,q5,q6⟩:=rh
   rw[g3]at q2 q3
   exact⟨G2,q1,g2.trans q2,q3,q4,q5.trans g5,q6.trans g6⟩
  ·cases hc
def uL (m m':ae):Prop:=∀d b,m'.box d b=m.box d b
theorem uL.load {m m':ae} (h:uL m m') (agg:Bool) (n:Nat) (x:AV):m'.load agg n x=m.load agg n x:=by
 have:m'.row x=m.row x:=by cases x<;>simp[ae.row,h _ _]
 simp[ae.load,this]
def pS (l:List Nat) (ρ ρ':Nat→AV):Prop:=∀t,t∈l→ρ t=ρ' t
theorem oX {x:aF} {ρ ρ':Nat→AV} (h:pS (jK x) ρ ρ'):aE ρ x=aE ρ' x:=by
 cases x with
 |tmp t=>exact h t (by simp[jK])
 |const c=>rfl
theorem mM {l l':List Nat} {ρ ρ':Nat→AV} (h:pS (l++l') ρ ρ'):pS l ρ ρ':=fun t ht=>h t (oP _ ht)
theorem pT {l l':List Nat} {ρ ρ':Nat→AV} (h:pS (l++l') ρ ρ'):pS l' ρ ρ':=fun t ht=>h t (HM _ ht)
theorem C4 {xs:List aF} {ρ ρ':Nat→AV} (h:pS (xs.flatMap jK) ρ ρ'):xs.map (aE ρ)=xs.map (aE ρ'):=by
 induction xs with
 |nil=>rfl
 |cons x r ih=>
  simp only[HF]at h
  simp only[iH]
  rw[oX (mM h),ih (pT h)]
theorem MD {x:Option aF} {ρ ρ':Nat→AV} (h:pS (Ls x) ρ ρ'):qO (aE ρ) x=qO (aE ρ') x:=by
 cases x with
 |none=>rfl
 |some x=>simp only[qO];rw[oX h]
theorem acP {ps:List (Nat×Nat×aF)} {ρ ρ':Nat→AV} (h:pS (ps.flatMap fun p=>jK p.2.2) ρ ρ') (cs:List AV):nz cs (aE ρ) ps=nz cs (aE ρ') ps:=by
 induction ps generalizing cs with
 |nil=>rfl
 |cons p r ih=>
  obtain⟨o,z,x⟩:=p
  simp only[HF]at h
  simp only[nz]
  rw[oX (mM h)]
  split
  ·exact ih (pT h) _
  ·rfl
theorem acQ {ps:List (Nat×aF)} {ρ ρ':Nat→AV} (h:pS (ps.flatMap fun p=>jK p.2) ρ ρ') (rs:List (List AV)):mO rs (aE ρ) ps=mO rs (aE ρ') ps:=by
 induction ps generalizing rs with
 |nil=>rfl
 | cons p r ih =>
  obtain⟨o,x⟩:=p
  simp only[HF]at h
  simp only[mO]
  rw[oX (mM h)]
  split
  ·split
   ·exact ih (pT h) _
   ·rfl
  ·rfl
theorem ap6 {call:aZ} {op:ck} {ρ ρ':Nat→AV} (h:pS (Lr op) ρ ρ') (m:ae):aN call (aE ρ) m op=aN call (aE ρ') m op:=by
 cases op<;>simp only[Lr]at h<;>simp only[aN]<;>first
  |rfl
  |(rw[oX h];done)
  |(exact gS (yF m _ _) (oX (x:=.tmp _) h))
  |(rw[oX (mM h),oX (pT h)];done)
  |(rw[oX (mM (mM h)),oX (pT (mM h)),oX (pT h)];done)
  |(rw[acP h];done)
  |(rw[acQ h];done)
  |(rw[C4 h];done)
  |(rw[C4 (mM h),C4 (pT h)];done)
  |(rename_i f as ws;rw[C4 (mM h)];exact gS (oT call m _ _) (Ap fun q hq=>by have:=oX (x:=.tmp q.2.2) (fun t ht=>pT h t (by rw[dD.1 ht];exact cz.2 ⟨q,hq,rfl⟩));rw[this]))
  |(rw[oX (mM h),C4 (pT h)];done)
  |(rw[oX (mM (mM (mM h))),MD (pT (mM (mM h))),MD (pT (mM h)),MD (pT h)];done)
theorem aqM {call:aZ} {op:ck} (h:cZ op=.pure):∃f:(aF→AV)→Option AV,∀ρ m,aN call ρ m op=(f ρ).map (·,m):=by
 cases op<;>simp only[cZ]at h<;>first
  |(cases h;done)
  |(split at h<;>cases h;done)
  |exact⟨_,fun ρ m=>rfl⟩
  |skip
 case move x=>exact⟨fun ρ=>some (ρ x),fun _ _=>rfl⟩
 case build zs ps=>exact⟨fun ρ=>(nz zs ρ ps).map .agg,fun ρ m=>by simp only[aN,Mv];rfl⟩
 case buildSlice es rs ps=>exact⟨fun ρ=>(mO rs ρ ps).map (.slice .full es),fun ρ m=>by simp only[aN,Mv];rfl⟩
 case eqv neg kd x y=>exact⟨fun ρ=>(pX kd (ρ x) (ρ y)).map fun t=>.v (.bool (if neg then !t else t)),fun ρ m=>by simp only[aN,Mv];rfl⟩
 case oL f a b=>exact⟨fun ρ=>if(a.map ρ).all AV.vI then some (.fn f (a.map ρ) (b.map ρ))else none,fun ρ m=>by simp only[aN];split<;>rfl⟩
 case Cf n=>exact⟨fun _=>some (AV.int n),fun _ _=>rfl⟩
theorem Jp {m:ae} {d:Nat} {f:Rec→Rec} (hf:∀r,(f r).boxes=r.boxes):uL m (m.bu d f):=fun d' b=>by
 simp only[ae.box,ae.bu,dT]
 by_cases h:d=d'
 ·subst h
  rw[ak rfl]
  cases m.ag[d]? with
  |none=>rfl
  |some r=>simp[hf]
 ·rw[aq h]
theorem aqQ {call:aZ} {op:ck} (h:cZ op=.soft) {ρ:aF→AV} {m m':ae} {x:AV} (ho:aN call ρ m op=some (x,m')):uL m m':=by
 cases op<;>simp only[cZ]at h<;>first|(cases h;done)|skip
 case call ro f as=>
  cases ro
  ·cases h
  ·simp only[aN,dN,bP]at ho
   obtain⟨p,_,ho⟩:=aT.1 ho
   injection ho with _ ho
   subst ho
   exact fun _ _=>rfl
 case wR f as=>
  simp only[aN,dN,bP]at ho
  obtain⟨p,_,ho⟩:=aT.1 ho
  injection ho with _ ho
  subst ho
  exact fun _ _=>rfl
 case kB ro f as=>
  cases ro
  ·cases h
  ·simp only[aN,mc]at ho
   split at ho
   ·simp only[dN,bP]at ho
    obtain⟨p,_,ho⟩:=aT.1 ho
    injection ho with _ ho
    subst ho
    exact fun _ _=>rfl
   ·simp only[dN,bP]at ho
    obtain⟨p,_,ho⟩:=aT.1 ho
    injection ho with _ ho
    subst ho
    exact fun _ _=>rfl
   ·cases ho
 case tz f as=>
  simp only[aN,nA]at ho
  split at ho
  ·split at ho
   ·injection ho with ho
    injection ho with _ ho
    subst ho
    exact Jp fun r=>rfl
   ·injection ho with ho
    injection ho with _ ho
    subst ho
    exact fun _ _=>rfl
  ·cases ho
  ·obtain⟨_,_,ho⟩:=aT.1 ho
   injection ho with _ ho
   subst ho
   exact fun _ _=>rfl
  ·cases ho
 case append es a b =>
  simp only[aN,eI]at ho
  split at ho
  ·split at ho
   ·injection ho with ho
    injection ho with _ ho
    subst ho
    exact fun _ _=>rfl
   ·split at ho
    ·split at ho
     ·injection ho with ho
      injection ho with _ ho
      subst ho
      exact Jp fun r=>rfl
     ·injection ho with ho
      injection ho with _ ho
      subst ho
      exact Jp fun r=>rfl
     ·split at ho
      ·injection ho with ho
       injection ho with _ ho
       subst ho
       exact Jp fun r=>rfl
      ·cases ho
     ·cases ho
    ·cases ho
  ·cases ho
theorem RB {call:aZ} {op:ck} (h:cZ op=.load) {ρ:aF→AV} {m m':ae} (hs:uL m m'):∃r:Option AV,aN call ρ m op=r.map (·,m)∧aN call ρ m' op=r.map (·,m'):=by
 cases op<;>simp only[cZ]at h<;>first|(cases h;done)|(split at h<;>cases h;done)|skip
 case load agg n x=>exact⟨m.load agg n (ρ x),rfl,by simp only[aN];rw[hs.load]⟩
def uB (m m':ae):Prop:=∀d b cs,m.box d b=some cs→∃cs',m'.box d b=some cs'∧(cs'=cs∨cs=[])
theorem uB.dK (m:ae) (cs:List AV):uB m (m.dK cs).2:=fun d b ds h=>by
 refine⟨ds,?_,.inl rfl⟩
 simp only[ae.box,ae.dK,ae.jw,ae.bu,dT]at h⊢
 by_cases hd:m.cur=d
 ·subst hd
  rw[ak rfl]
  cases hr:m.ag[m.cur]? with
  |none=>rw[hr]at h;cases h
  |some r=>
   rw[hr]at h
   exact mQ h
 ·rw[aq hd]
  exact h
theorem Bq (m:ae) (d b:Nat) (cs:List AV):(m.dL d b cs).cur=m.cur:=by simp[ae.cur,ae.dL,ae.bu]
theorem Jo (m:ae) (d b:Nat) (cs:List AV) (d' b':Nat):(m.dL d b cs).box d' b'=if d=d'∧b=b' then(m.box d' b').map fun _=>cs else m.box d' b':=by
 simp only[ae.box,ae.dL,ae.bu,dT]
 by_cases hd:d=d'
 ·subst hd
  rw[ak rfl]
  cases m.ag[d]? with
  |none=>simp
  | some r =>
   simp only[dE,et,s9]
   by_cases hb:b=b'
   ·subst hb
    simp only[LM,ak]
    by_cases aC:b<r.boxes.length
    ·simp[aC]
    ·simp[aC,n8 (Mm aC)]
   ·simp[hb]
 ·simp[hd]
theorem K6 (m:ae) (d b:Nat) (cs:List AV) (d':Nat):(m.dL d b cs).bQ d'=m.bQ d':=by
 simp only[ae.bQ,ae.dL,ae.bu,dT]
 by_cases hd:d=d'
 ·subst hd
  rw[ak rfl]
  cases m.ag[d]? <;>simp
 ·simp[hd]
theorem atc (m:ae) (d b:Nat) (cs:List AV) (b':Nat) (cs':List AV) (hb:b≠b'):(m.dL d b cs).dL d b' cs'=(m.dL d b' cs').dL d b cs:=by
 simp only[ae.dL,ae.bu]
 congr 1
 refine pO fun i=>?_
 simp only[dT]
 by_cases hd:d=i
 ·subst hd
  simp only[ak]
  cases m.ag[d]? with
  |none=>rfl
  |some r=>
   simp only[dE,fe]
   congr 1
   exact List.set_comm _ _ hb
 ·simp[hd]
theorem Hq {m m':ae} {back:Nat} {zs:List AV} {v:AV} (h:mK m back zs=some (v,m')):
  m.box m.cur (m.bQ m.cur-back)=some []∧(zs.isEmpty=false∧m.lS m.cur=false)∧v=.ptr m.cur (m.bQ m.cur-back) 0∧m'=m.dL m.cur (m.bQ m.cur-back) zs:=by
 unfold mK at h
 split at h
 ·rename_i hb
  split at h
  ·cases h
  ·rename_i hz
   injection h with h
   injection h with h1 h2
   refine⟨hb,⟨?_,by cases e:m.lS m.cur with|true=>exact absurd (.inr e) hz|false=>rfl⟩,h1.symm,h2.symm⟩
   cases he:zs.isEmpty with
   |false=>rfl
   |true=>exact absurd (.inl he) hz
 ·cases h
theorem Ss {m:ae} {back:Nat} {zs:List AV} (h1:m.box m.cur (m.bQ m.cur-back)=some []) (h2:zs.isEmpty=false∧m.lS m.cur=false):
  mK m back zs=some (.ptr m.cur (m.bQ m.cur-back) 0,m.dL m.cur (m.bQ m.cur-back) zs):=by
 unfold mK
 rw[h1]
 simp[h2.1,h2.2]
theorem ZZ (m:ae) (d b:Nat) (cs:List AV) (d':Nat):(m.dL d b cs).lS d'=m.lS d':=by
 simp only[ae.lS,ae.dL,ae.bu,wa]
 by_cases h:d=d'
 ·subst h
  cases m.ag[d]? <;>simp
 ·simp[h]
theorem atx {m m1 m2:ae} {b1 b2:Nat} {z1 z2:List AV} {v u:AV} (h1:mK m b1 z1=some (v,m1)) (h2:mK m1 b2 z2=some (u,m2)):
  ∃dQ,mK m b2 z2=some (u,dQ)∧mK dQ b1 z1=some (v,m2):=by
 obtain⟨a1,a2,rfl,rfl⟩:=Hq h1
 obtain⟨c1,c2,rfl,rfl⟩:=Hq h2
 simp only[Bq,K6]at c1⊢
 rw[Bq,ZZ]at c2
 have aD:m.bQ m.cur-b1≠m.bQ m.cur-b2:=fun e=>by
  rw[Jo,ak ⟨rfl,e⟩,←e,a1]at c1
  simp only[dE,fe]at c1
  rw[c1]at a2
  exact absurd a2.1 (by decide)
 have A3:m.box m.cur (m.bQ m.cur-b2)=some []:=by
  rw[Jo,aq (fun e=>aD e.2)]at c1
  exact c1
 refine⟨_,Ss A3 c2,?_⟩
 have:=Ss (m:=m.dL m.cur (m.bQ m.cur-b2) z2) (back:=b1) (zs:=z1) (by
  simp only[Bq,K6]
  rw[Jo,aq (fun e=>aD e.2.symm)]
  exact a1) (by rw[Bq,ZZ];exact a2)
 rw[this]
 simp only[Bq,K6]
 rw[atc _ _ _ _ _ _ (qF aD)]
def rO (m m':ae):Prop:=m'=m∨∃cs,cs≠[]∧m'=(m.dK cs).2
theorem aai {call:aZ} {op:ck} (h:cZ op=.fresh) {ρ:aF→AV} {m m':ae} {x:AV} (ho:aN call ρ m op=some (x,m')):rO m m':=by
 cases op<;>simp only[cZ]at h<;>first|(cases h;done)|(split at h<;>cases h;done)|skip
 case alloc zs=>
  simp only[aN]at ho
  split at ho
  ·cases ho
  rename_i hz
  simp only[fe]at ho
  exact .inr ⟨zs,fun e=>hz (by rw[e];rfl),by rw[ho]⟩
 case box n y=>
  simp only[aN,yD]at ho
  split at ho
  ·rename_i hc
   injection ho with ho
   exact .inr ⟨(ρ y).cells,fun e=>by have h1:=hc.1;have h2:=hc.2.2;rw[e]at h1;simp at h1;omega,by rw[ho]⟩
  ·cases ho
 case sV es y=>
  simp only[aN,rH]at ho
  split at ho
  ·rename_i hc
   injection ho with ho
   exact .inr ⟨(ρ y).cells,fun e=>by have h1:=hc.1;have h2:=hc.2.2;rw[e]at h1;simp at h1;omega,(gS Prod.snd ho).symm⟩
  ·cases ho
 case tu f as=>
  simp only[aN,l9]at ho
  split at ho
  ·split at ho
   ·obtain⟨cs,_,ho⟩:=dj.1 ho
    split at ho
    case isFalse=>cases ho
    rename_i dy
    obtain⟨cs',fl,ho⟩:=aT.1 ho
    injection ho with _ ho
    refine .inr ⟨cs',fun e=>?_,ho.symm⟩
    subst e
    cases cs with
    |nil=>exact absurd dy.1 (by decide)
    |cons q r=>
     simp only[closeAll]at fl
     split at fl<;>cases fl
   ·obtain⟨_,_,ho⟩:=aT.1 ho
    injection ho with _ ho
    exact .inl ho.symm
  ·cases ho
  ·obtain⟨_,_,ho⟩:=aT.1 ho
   injection ho with _ ho
   exact .inl ho.symm
  ·cases ho
 case mkSlice es zs l c=>
  simp only[aN,Cl]at ho
  obtain⟨_,_,ho⟩:=dj.1 ho
  obtain⟨_,_,ho⟩:=aT.1 ho
  split at ho
  ·injection ho with _ ho
   exact .inl ho.symm
  ·rename_i hz
   injection ho with _ ho
   exact .inr ⟨_,fun e=>hz (by rw[e];rfl),ho.symm⟩
 case wz es a b =>
  simp only[aN,yo]at ho
  split at ho
  ·rename_i o e1 xs o2 e2 ys nJ kV
   split at ho
   ·cases ho
   rename_i hz
   split at ho
   ·rename_i br
    obtain⟨rfl,_,_,_,Ye,_⟩:=br
    injection ho with ho
    injection ho with _ ho
    exact .inr ⟨_,fun e=>hz ⟨by rw[Te,kq,e];rfl,by cases ys with
     |nil=>simp at Ye
     |cons=>rfl⟩,ho.symm⟩
   rw[nJ,kV]at ho
   simp only[wB]at ho
   split at ho
   ·simp only[fe,CW]at ho
    exact .inl ho.2.symm
   ·rename_i hy
    split at ho
    ·split at ho
     ·injection ho with ho
      injection ho with _ ho
      exact .inr ⟨_,fun e=>hz ⟨by rw[e];rfl,by simpa using hy⟩,ho.symm⟩
     ·cases ho
    ·cases ho
  ·cases ho
theorem aqx {call:aZ} {op:ck} (h:cZ op=.fresh) {ρ:aF→AV} {m m':ae} {x:AV} (ho:aN call ρ m op=some (x,m')):uB m m':=by
 rcases aai h ho with rfl|⟨cs,_,rfl⟩
 ·exact fun d b cs e=>⟨cs,e,.inl rfl⟩
 ·exact uB.dK m cs
theorem rO.dead {m m':ae} (h:rO m m') {b:Nat}:m'.yQ b=m.yQ b∧m'.cur=m.cur:=by
 rcases h with rfl|⟨cs,hc,rfl⟩
 ·exact⟨rfl,rfl⟩
 have hY:(m.dK cs).2.cur=m.cur:=by simp[ae.cur,ae.dK,ae.jw,ae.bu]
 refine⟨?_,hY⟩
 unfold ae.yQ
 rw[hY]
 simp only[ae.dK,ae.jw,ae.bu,dT,bP]
 cases m.ag[m.cur]? with
 |none=>rfl
 | some r =>
  simp only[dE,List.drop_append,s7]
  have:((List.drop (b+1-r.boxes.length) [cs]).any List.isEmpty)=false:=by
   cases b+1-r.boxes.length with
   |zero=>cases cs with
    |nil=>exact absurd rfl hc
    |cons=>rfl
   |succ k=>simp
  rw[this,Ag]
theorem rO.box {m m':ae} (h:rO m m') {d b:Nat} (hb:d=m.cur→m.yQ b=true):m'.box d b=m.box d b:=by
 rcases h with rfl|⟨cs,hc,rfl⟩
 ·rfl
 simp only[ae.box,ae.dK,ae.jw,ae.bu,dT]
 by_cases hd:m.cur=d
 ·rw[ak hd]
  have hb:=hb hd.symm
  unfold ae.yQ at hb
  rw[hd]at hb
  cases hq:m.ag[d]? with
  |none=>rfl
  | some r =>
   rw[hq]at hb
   simp only[dE,et]
   have aC:b<r.boxes.length:=by
    simp only[eA]at hb
    obtain⟨x,hx,_⟩:=hb
    have:=List.length_pos_of_mem hx
    rw[tc]at this
    omega
   exact dM aC
 ·rw[aq hd]
theorem rO.jY {m m':ae} (h:rO m m') (agg:Bool) (n:Nat) (x:AV):zM m' agg n x=zM m agg n x:=by
 unfold zM
 split
 ·rename_i d b off
  obtain⟨h1,h2⟩:=h.dead (b:=b)
  rw[h1,h2]
  split
  ·rfl
  ·rename_i hn
   simp only[ae.load,ae.row]
   rw[h.box (fun e=>by cases hq:m.yQ b with|true=>rfl|false=>exact absurd ⟨e,hq⟩ hn)]
 ·rename_i hx
  simp only[ae.load]
  cases x<;>first|rfl|exact(hx _ _ _ rfl).elim
theorem RC {call:aZ} {op:ck} (h:cZ op=.jY) {ρ:aF→AV} {m m':ae} (hs:rO m m'):∃r:Option AV,aN call ρ m op=r.map (·,m)∧aN call ρ m' op=r.map (·,m'):=by
 cases op<;>simp only[cZ]at h<;>first|(cases h;done)|(split at h<;>cases h;done)|skip
 case jY agg n x=>exact⟨zM m agg n (ρ x),rfl,by simp only[aN];rw[hs.jY]⟩
theorem RD {call:aZ} {op:ck} {back:Nat} (h:cZ op=.slot back):∃zs,∀ρ m,aN call ρ m op=mK m back zs:=by
 cases op<;>simp only[cZ]at h<;>first|(cases h;done)|(split at h<;>cases h;done)|skip
 case slot back zs=>injection h with h;subst h;exact⟨zs,fun _ _=>rfl⟩
theorem RA {call:aZ} {op:ck} {back:Nat} (h:cZ op=.fill back) {ρ:aF→AV} {m m':ae} {v:AV} (ho:aN call ρ m op=some (v,m')):∃cs,m'=m.dL m.cur (m.bQ m.cur-back) cs:=by
 cases op<;>simp only[cZ]at h<;>first|(cases h;done)|(split at h<;>cases h;done)|skip
 case fill b n x y =>
  injection h with h
  subst h
  simp only[aN]at ho
  obtain⟨m1,hm,ho⟩:=aT.1 ho
  injection ho with _ ho
  subst ho
  unfold yV at hm
  split at hm
  ·split at hm
   ·rename_i hc
    unfold ae.store at hm
    simp only[hc.1,bP]at hm
    split at hm
    ·split at hm
     ·cases hm
     ·split at hm
      ·injection hm with hm
       rw[hc.2.1]at hm
       exact⟨_,hm.symm⟩
      ·cases hm
    ·cases hm
   ·cases hm
  ·cases hm
theorem Le {call:aZ} {op:ck} {res back:Nat} (h:cZ op=.gm res) (hb:back≤res) {ρ:aF→AV} {m:ae} (cs:List AV):
  ∃r:Option AV,aN call ρ m op=r.map (·,m)∧aN call ρ (m.dL m.cur (m.bQ m.cur-back) cs) op=r.map (·,m.dL m.cur (m.bQ m.cur-back) cs):=by
 cases op<;>simp only[cZ]at h<;>first|(cases h;done)|(split at h<;>cases h;done)|skip
 case gm asr agg n x=>
  injection h with h
  subst h
  refine⟨xO m asr agg n (ρ x),rfl,?_⟩
  simp only[aN]
  congr 1
  unfold xO
  split
  ·rename_i d b off
   simp only[Bq,K6]
   split
   ·rfl
   ·rename_i hn
    simp only[ae.load,ae.row]
    rw[Jo,aq (fun e=>hn ⟨e.1.symm,by have:=e.2;omega⟩)]
  ·rename_i hx
   simp only[ae.load]
   congr 1
   generalize ρ x=q at hx
   cases q<;>first|rfl|exact(hx _ _ _ rfl).elim
theorem aq7 {agg:Bool} {n:Nat} {cs cs':List AV} {off:Nat} {v:AV} (hc:cs'=cs∨cs=[]) (h:part agg n cs off=some v):part agg n cs' off=some v:=by
 rcases hc with rfl|rfl
 ·exact h
 ·unfold part at h⊢
  split at h
  ·rename_i ha
   split at h
   ·rename_i hle
    simp only[ja]at hle
    have h0:off=0:=by omega
    have h1:n=0:=by omega
    subst h0 h1
    rw[ak ha,ak (by omega)]
    simpa using h
   ·cases h
  ·simp at h
theorem uB.load {m m':ae} (h:uB m m') {agg:Bool} {n:Nat} {x v:AV} (hl:m.load agg n x=some v):m'.load agg n x=some v:=by
  unfold ae.load at hl⊢
  obtain⟨p,hp,hl⟩:=dj.1 hl
  have : ∃ cs', m'.row x = some (cs', p.2) ∧ (cs' = p.1 ∨ p.1 = []) := by
    cases x<;>first
      |exact⟨p.1,hp,.inl rfl⟩
      | (simp only [ae.row] at hp ⊢
         obtain⟨cs,dy,rfl⟩:=aT.1 hp
         obtain⟨cs',e1,e2⟩:=h _ _ _ dy
         exact⟨cs',by rw[e1];rfl,e2⟩)
  obtain⟨cs',e1,e2⟩:=this
  rw[e1]
  exact aq7 e2 hl
theorem aqD {call:aZ} {op:ck} (h:cZ op=.load) {ρ:aF→AV} {m m1:ae} {v:AV} (ho:aN call ρ m op=some (v,m1)):m1=m∧∀m',uB m m'→aN call ρ m' op=some (v,m'):=by
 cases op<;>simp only[cZ]at h<;>first|(cases h;done)|(split at h<;>cases h;done)|skip
 case load agg n x=>
  simp only[aN]at ho⊢
  obtain⟨q1,q2⟩:=lh ho
  simp only at q1 q2
  exact⟨by first|exact q2|exact q2.symm,fun m' hg=>by rw[hg.load q1];rfl⟩
end
end Go.Ax
/-
  A region whose order is drawn: every order gives the same.
-/
namespace Go.Ax
open Go.RowKit
section
variable{P:Program} {B0:Nat} {w0:World} {G:aG} {k nl:Nat} {w:World} {s:ae}
noncomputable def bE (call:aZ) (o:bC) (ρ:Nat→AV) (m:ae):Option (AV×ae):=
 if kM ρ o.guard then aN call (aE ρ) m o.op else some (AV.undef,m)
theorem LL (call:aZ) (o:bC) (st:St):rL call o st=(bE call o st.tmps st.sig).map fun p=>⟨kK st.tmps o.dst p.1,p.2⟩:=by
 unfold rL bE
 split
 ·split
  ·rename_i h;simp[h]
  ·rename_i h;simp[h]
 ·rfl
theorem VX {call:aZ} {o:bC} {ρ ρ':Nat→AV} (h:pS (vR o) ρ ρ') (m:ae):bE call o ρ m=bE call o ρ' m:=by
 have h1:pS (Lr o.op) ρ ρ':=mM h
 have h2:kM ρ o.guard=kM ρ' o.guard:=by
  have h2:=pT h
  cases hg:o.guard with
  |none=>rfl
  |some p=>
   obtain⟨t,b⟩:=p
   rw[hg]at h2
   simp only[kM]
   rw[h2 t (by simp)]
 simp only[bE,h2,ap6 h1]
def vL (a b:TC):Bool:=
 match a,b with
 |.pure,_|_,.pure|.load,.load|.load,.soft|.soft,.load|.load,.fresh|.jY,.jY|.jY,.fresh|.fresh,.jY|.gm _,.gm _|.slot _,.slot _=>true
 |.gm r,.slot b|.slot b,.gm r|.gm r,.fill b|.fill b,.gm r=>decide (b≤r)
 |_,_=>false
theorem V4 {call:aZ} {o:bC} (h:cZ o.op=.pure) (ρ:Nat→AV):∃r:Option AV,∀m,bE call o ρ m=r.map (·,m):=by
 obtain⟨f,hf⟩:=aqM (call:=call) h
 by_cases hw:kM ρ o.guard=true
 ·exact⟨f (aE ρ),fun m=>by simp only[bE,ak hw,hf]⟩
 ·exact⟨some AV.undef,fun m=>by simp only[bE,aq hw];rfl⟩
theorem Oo {call:aZ} {o:bC} (h:cZ o.op=.load) (ρ:Nat→AV) {m m':ae} (hs:uL m m'):∃r:Option AV,bE call o ρ m=r.map (·,m)∧bE call o ρ m'=r.map (·,m'):=by
 by_cases hw:kM ρ o.guard=true
 ·obtain⟨r,h1,h2⟩:=RB (call:=call) h (ρ:=aE ρ) hs
  exact⟨r,by simp only[bE,ak hw,h1],by simp only[bE,ak hw,h2]⟩
 ·exact⟨some AV.undef,by simp only[bE,aq hw];rfl,by simp only[bE,aq hw];rfl⟩
theorem JE {call:aZ} {o:bC} (h:cZ o.op=.jY) (ρ:Nat→AV) {m m':ae} (hs:rO m m'):∃r:Option AV,bE call o ρ m=r.map (·,m)∧bE call o ρ m'=r.map (·,m'):=by
 by_cases hw:kM ρ o.guard=true
 ·obtain⟨r,h1,h2⟩:=RC (call:=call) h (ρ:=aE ρ) hs
  exact⟨r,by simp only[bE,ak hw,h1],by simp only[bE,ak hw,h2]⟩
 ·exact⟨some AV.undef,by simp only[bE,aq hw];rfl,by simp only[bE,aq hw];rfl⟩
theorem VZ {call:aZ} {o:bC} (h:cZ o.op=.fresh) {ρ:Nat→AV} {m m':ae} {x:AV} (ho:bE call o ρ m=some (x,m')):rO m m':=by
 unfold bE at ho
 split at ho
 ·exact aai h ho
 ·injection ho with ho
  injection ho with _ ho
  exact .inl ho.symm
theorem V2 {call:aZ} {x y:bC} (hx:cZ x.op=.jY) (hy:cZ y.op=.fresh∨cZ y.op=.jY) {ρ:Nat→AV} {m m1 m2:ae} {u v:AV} (h1:bE call x ρ m=some (v,m1)) (h2:bE call y ρ m1=some (u,m2)):
  ∃dQ,bE call y ρ m=some (u,dQ)∧bE call x ρ dQ=some (v,m2):=by
 obtain⟨r0,a1,_⟩:=JE (call:=call) hx ρ (m:=m) (m':=m) (.inl rfl)
 rw[a1]at h1
 obtain⟨q1,q2⟩:=lh h1
 simp only at q1 q2
 subst q2
 have hf:∃f:rO m1 m2,True:=by
  rcases hy with hy|hy
  ·exact⟨VZ hy h2,trivial⟩
  ·obtain⟨r,b1,_⟩:=JE (call:=call) hy ρ (m:=m1) (m':=m1) (.inl rfl)
   rw[b1]at h2
   obtain⟨_,q⟩:=lh h2
   exact⟨.inl (by first|exact q|exact q.symm),trivial⟩
 obtain⟨hf,_⟩:=hf
 obtain⟨r,c1,c2⟩:=JE (call:=call) hx ρ hf
 refine⟨m2,h2,?_⟩
 rw[c2]
 have e:=c1.symm.trans a1
 have:r=r0:=by cases r<;>cases r0<;>simp_all
 rw[this,q1]
 rfl
theorem afr {call:aZ} {x y:bC} (hx:cZ x.op=.fresh) (hy:cZ y.op=.jY) {ρ:Nat→AV} {m m1 m2:ae} {u v:AV} (h1:bE call x ρ m=some (v,m1)) (h2:bE call y ρ m1=some (u,m2)):
  ∃dQ,bE call y ρ m=some (u,dQ)∧bE call x ρ dQ=some (v,m2):=by
 obtain⟨r,c1,c2⟩:=JE (call:=call) hy ρ (VZ hx h1)
 rw[c2]at h2
 obtain⟨q1,q2⟩:=lh h2
 simp only at q1 q2
 subst q2
 exact⟨m,by rw[c1,q1];rfl,h1⟩
theorem V6 {call:aZ} {o:bC} (h:cZ o.op=.soft) {ρ:Nat→AV} {m m':ae} {x:AV} (ho:bE call o ρ m=some (x,m')):uL m m':=by
 unfold bE at ho
 split at ho
 ·exact aqQ h ho
 ·injection ho with ho
  injection ho with _ ho
  subst ho
  exact fun _ _=>rfl
theorem aft {call:aZ} {o:bC} (h:cZ o.op=.fresh) {ρ:Nat→AV} {m m':ae} {x:AV} (ho:bE call o ρ m=some (x,m')):uB m m':=by
 unfold bE at ho
 split at ho
 ·exact aqx h ho
 ·injection ho with ho
  injection ho with _ ho
  subst ho
  exact fun _ _ cs e=>⟨cs,e,.inl rfl⟩
theorem Oq {call:aZ} {o:bC} {back:Nat} (h:cZ o.op=.slot back) (ρ:Nat→AV):(∃zs,∀m,bE call o ρ m=mK m back zs)∨∀m,bE call o ρ m=some (AV.undef,m):=by
 obtain⟨zs,hb⟩:=RD (call:=call) h
 by_cases hw:kM ρ o.guard=true
 ·exact .inl ⟨zs,fun m=>by simp only[bE,ak hw,hb]⟩
 ·exact .inr fun m=>by simp[bE,aq hw]
theorem afv {call:aZ} {x y:bC} {b1 b2:Nat} (hx:cZ x.op=.slot b1) (hy:cZ y.op=.slot b2) {ρ:Nat→AV} {m m1 m2:ae} {u v:AV} (h1:bE call x ρ m=some (v,m1)) (h2:bE call y ρ m1=some (u,m2)):
  ∃dQ,bE call y ρ m=some (u,dQ)∧bE call x ρ dQ=some (v,m2):=by
 rcases Oq (call:=call) hx ρ with⟨z1,e1⟩|e1
 ·rcases Oq (call:=call) hy ρ with⟨z2,e2⟩|e2
  ·rw[e1]at h1
   rw[e2]at h2
   obtain⟨dQ,c1,c2⟩:=atx h1 h2
   exact⟨dQ,(e2 m).trans c1,(e1 dQ).trans c2⟩
  ·rw[e2]at h2
   injection h2 with h2
   injection h2 with h3 h4
   subst h3 h4
   exact⟨m,e2 m,h1⟩
 ·rw[e1]at h1
  injection h1 with h1
  injection h1 with h3 h4
  subst h3 h4
  exact⟨m2,h2,e1 m2⟩
def CY (back:Nat) (m m':ae):Prop:=m'=m∨∃cs,m'=m.dL m.cur (m.bQ m.cur-back) cs
theorem V5 {call:aZ} {o:bC} {back:Nat} (h:cZ o.op=.slot back) {ρ:Nat→AV} {m m':ae} {x:AV} (ho:bE call o ρ m=some (x,m')):CY back m m':=by
 rcases Oq (call:=call) h ρ with⟨zs,e⟩|e
 ·rw[e]at ho
  exact .inr ⟨_,(Hq ho).2.2.2⟩
 ·rw[e]at ho
  injection ho with ho
  injection ho with _ ho
  exact .inl ho.symm
theorem VY {call:aZ} {o:bC} {back:Nat} (h:cZ o.op=.fill back) {ρ:Nat→AV} {m m':ae} {x:AV} (ho:bE call o ρ m=some (x,m')):CY back m m':=by
 unfold bE at ho
 split at ho
 ·exact .inr (RA h ho)
 ·injection ho with ho
  injection ho with _ ho
  exact .inl ho.symm
theorem JF {call:aZ} {o:bC} {res back:Nat} (h:cZ o.op=.gm res) (hb:back≤res) (ρ:Nat→AV) {m m':ae} (hw:CY back m m'):∃r:Option AV,bE call o ρ m=r.map (·,m)∧bE call o ρ m'=r.map (·,m'):=by
 rcases hw with rfl|⟨cs,rfl⟩
 ·by_cases hw:kM ρ o.guard=true
  ·obtain⟨r,h1,_⟩:=Le (call:=call) h (bp _) (ρ:=aE ρ) (m:=m') []
   exact⟨r,by simp only[bE,ak hw,h1],by simp only[bE,ak hw,h1]⟩
  ·exact⟨some AV.undef,by simp only[bE,aq hw];rfl,by simp only[bE,aq hw];rfl⟩
 ·by_cases hw:kM ρ o.guard=true
  ·obtain⟨r,h1,h2⟩:=Le (call:=call) h hb (ρ:=aE ρ) (m:=m) cs
   exact⟨r,by simp only[bE,ak hw,h1],by simp only[bE,ak hw,h2]⟩
  ·exact⟨some AV.undef,by simp only[bE,aq hw];rfl,by simp only[bE,aq hw];rfl⟩
theorem V3 {call:aZ} {x y:bC} {res back:Nat} (hx:cZ x.op=.gm res) (hb:back≤res) {ρ:Nat→AV} {m m1 m2:ae} {u v:AV} (hw:CY back m1 m2) (h1:bE call x ρ m=some (v,m1)) (h2:bE call y ρ m1=some (u,m2)):
  ∃dQ,bE call y ρ m=some (u,dQ)∧bE call x ρ dQ=some (v,m2):=by
 obtain⟨r0,a1,_⟩:=JF (call:=call) hx hb ρ (m:=m) (m':=m) (.inl rfl)
 rw[a1]at h1
 obtain⟨q1,q2⟩:=lh h1
 simp only at q1 q2
 subst q2
 obtain⟨r,c1,c2⟩:=JF (call:=call) hx hb ρ hw
 refine⟨m2,h2,?_⟩
 rw[c2]
 have e:=c1.symm.trans a1
 have:r=r0:=by cases r<;>cases r0<;>simp_all
 rw[this,q1]
 rfl
theorem Ot {call:aZ} {x y:bC} {res back:Nat} (hy:cZ y.op=.gm res) (hb:back≤res) {ρ:Nat→AV} {m m1 m2:ae} {u v:AV} (hw:CY back m m1) (h1:bE call x ρ m=some (v,m1)) (h2:bE call y ρ m1=some (u,m2)):
  ∃dQ,bE call y ρ m=some (u,dQ)∧bE call x ρ dQ=some (v,m2):=by
 obtain⟨r,c1,c2⟩:=JF (call:=call) hy hb ρ hw
 rw[c2]at h2
 obtain⟨q1,q2⟩:=lh h2
 simp only at q1 q2
 subst q2
 exact⟨m,by rw[c1,q1];rfl,h1⟩
theorem afu {call:aZ} {o:bC} (h:cZ o.op=.load) {ρ:Nat→AV} {m m1:ae} {v:AV} (ho:bE call o ρ m=some (v,m1)):m1=m∧∀m',uB m m'→bE call o ρ m'=some (v,m'):=by
 unfold bE at ho⊢
 split at ho
 ·rename_i hw
  obtain⟨h1,h2⟩:=aqD h ho
  exact⟨h1,fun m' hg=>by rw[ak hw];exact h2 m' hg⟩
 ·rename_i hw
  injection ho with ho
  injection ho with h1 h2
  subst h1 h2
  exact⟨rfl,fun m' _=>by rw[aq hw]⟩
theorem afw {call:aZ} {x y:bC} (h:vL (cZ x.op) (cZ y.op)=true) {ρ:Nat→AV} {m m1 m2:ae} {u v:AV} (h1:bE call x ρ m=some (v,m1)) (h2:bE call y ρ m1=some (u,m2)):
  ∃dQ,bE call y ρ m=some (u,dQ)∧bE call x ρ dQ=some (v,m2):=by
 have xp:cZ x.op=.pure→∃dQ,bE call y ρ m=some (u,dQ)∧bE call x ρ dQ=some (v,m2):=fun hx=>by
  obtain⟨r,hr⟩:=V4 (call:=call) hx ρ
  rw[hr]at h1
  obtain⟨q1,q2⟩:=lh h1
  simp only at q1 q2
  subst q2
  exact⟨m2,h2,by rw[hr,q1];rfl⟩
 have yp:cZ y.op=.pure→∃dQ,bE call y ρ m=some (u,dQ)∧bE call x ρ dQ=some (v,m2):=fun hy=>by
  obtain⟨r,hr⟩:=V4 (call:=call) hy ρ
  rw[hr]at h2
  obtain⟨q1,q2⟩:=lh h2
  simp only at q1 q2
  subst q2
  exact⟨m,by rw[hr,q1];rfl,h1⟩
 have ly:cZ y.op=.load→uL m m1→∃dQ,bE call y ρ m=some (u,dQ)∧bE call x ρ dQ=some (v,m2):=fun hy hs=>by
  obtain⟨r,r1,r2⟩:=Oo (call:=call) hy ρ hs
  rw[r2]at h2
  obtain⟨q1,q2⟩:=lh h2
  simp only at q1 q2
  subst q2
  exact⟨m,by rw[r1,q1];rfl,h1⟩
 have lx:cZ x.op=.load→m1=m∧(uL m m2→∃dQ,bE call y ρ m=some (u,dQ)∧bE call x ρ dQ=some (v,m2)):=fun hx=>by
  obtain⟨r,r1,_⟩:=Oo (call:=call) (m':=m) hx ρ (fun _ _=>rfl)
  rw[r1]at h1
  obtain⟨q1,q2⟩:=lh h1
  simp only at q1 q2
  subst q2
  refine⟨rfl,fun hs=>?_⟩
  obtain⟨r',RU,r2'⟩:=Oo (call:=call) hx ρ hs
  refine⟨m2,h2,?_⟩
  rw[r2']
  rw[RU]at r1
  have:r'=r:=by
   cases r<;>cases r'<;>simp_all
  rw[this,q1]
  rfl
 cases hx:cZ x.op<;>cases hy:cZ y.op<;>rw[hx,hy]at h<;>first
  |exact xp hx
  |exact yp hy
  |(simp[vL]at h;done)
  |skip
 ·exact ly hy (by rw[(lx hx).1];exact fun _ _=>rfl)
 ·have:=lx hx
  obtain⟨rfl,f⟩:=this
  exact f (V6 hy h2)
 ·obtain⟨rfl,f⟩:=afu hx h1
  exact⟨m2,h2,f _ (aft hy h2)⟩
 ·exact ly hy (V6 hx h1)
 ·exact afr hx hy h1 h2
 ·exact afv hx hy h1 h2
 ·exact Ot hy (by simpa[vL]using h) (V5 hx h1) h1 h2
 ·exact V3 hx (by simpa[vL]using h) (V5 hy h2) h1 h2
 ·exact Ot hy (bp _) (by
   obtain⟨r,a1,_⟩:=JF (call:=call) hx (bp _) ρ (m:=m) (m':=m) (.inl rfl)
   rw[a1]at h1
   obtain⟨_,q2⟩:=lh h1
   exact .inl (by first|exact q2|exact q2.symm)) h1 h2
 ·exact V3 hx (by simpa[vL]using h) (VY hy h2) h1 h2
 ·exact Ot hy (by simpa[vL]using h) (VY hx h1) h1 h2
 ·exact V2 hx (.inl hy) h1 h2
 ·exact V2 hx (.inr hy) h1 h2
theorem aut {x:AV} {y:AV} {k:ZK} (h:LW x=some k) (h':LW y=some k):x=y:=by
 unfold LW at h h'
 split at h<;>first|(cases h;done)|skip
 all_goals(injection h with h;subst h;split at h'<;>first|(cases h';done)|(injection h' with h';injection h' with e1 e2;subst e1 e2;rfl)|(injection h' with h';injection h' with e1;subst e1;rfl)|rfl)
theorem ab7:∀{a b:List AV} {p:List ZK},x4 a=some p→x4 b=some p→a=b
 |[],[],_,_,_=>rfl
 |[],y::r,p,h,h'=>by
  injection h with h
  subst h
  simp only[x4]at h'
  split at h'<;>cases h'
 |x::r,[],p,h,h'=>by
  injection h' with h'
  subst h'
  simp only[x4]at h
  split at h<;>cases h
 | x :: r, y :: q, p, h, h' => by
  simp only[x4]at h h'
  split at h
  ·rename_i k1 s1 e1 e2
   injection h with h
   subst h
   split at h'
   ·rename_i k2 s2 e3 e4
    injection h' with h'
    injection h' with q1 q2
    subst q1 q2
    rw[aut e1 e3,ab7 e2 e4]
   ·cases h'
  ·cases h
theorem as7 {a b:List AV} (h:Sm a b=true):a=b:=by
 unfold Sm at h
 split at h
 ·rename_i p q h1 h2
  rw[dU]at h
  subst h
  exact ab7 h1 h2
 ·cases h
theorem Rk:∀{zss bx:List (List AV)},bx∈qP zss↔bx.length=zss.length∧∀i (h1:i<bx.length) (h2:i<zss.length),bx[i]=[]∨bx[i]=zss[i]
 |[],bx=>by
  simp only[qP,dD,ja]
  constructor
  ·rintro rfl;exact⟨rfl,fun i h=>absurd h (df _)⟩
  ·rintro⟨h,_⟩;exact uE h
 |z::r,[]=>by simp[qP]
 | z :: r, b :: bx => by
  have ih:=Rk (zss:=r) (bx:=bx)
  simp only[qP,dC,cz,v7,eo]
  constructor
  ·rintro(⟨x,hx,rfl,rfl⟩|⟨x,hx,rfl,rfl⟩)
   ·obtain⟨h1,h2⟩:=ih.1 hx
    refine⟨by omega,fun i q1 q2=>?_⟩
    cases i with
    |zero=>exact .inl rfl
    |succ i=>exact h2 i (by simpa using q1) (by simpa using q2)
   ·obtain⟨h1,h2⟩:=ih.1 hx
    refine⟨by omega,fun i q1 q2=>?_⟩
    cases i with
    |zero=>exact .inr rfl
    |succ i=>exact h2 i (by simpa using q1) (by simpa using q2)
  ·rintro⟨h1,h2⟩
   have hm:bx∈qP r:=ih.2 ⟨by omega,fun i q1 q2=>h2 (i+1) (by omega) (by omega)⟩
   rcases h2 0 (by omega) (by omega)with e|e
   ·exact .inl ⟨bx,hm,by simpa using e.symm,rfl⟩
   ·exact .inr ⟨bx,hm,by simpa using e.symm,rfl⟩
section
variable{m:ae} {r:Nat} {a b:List (List AV)}
theorem Ht (h:0<r) (hr:r≤m.bQ m.cur):∃q,m.ag[m.cur]? =some q∧r≤q.boxes.length∧m.bQ m.cur=q.boxes.length∧m.tail r=q.boxes.drop (q.boxes.length-r):=by
 unfold ae.bQ at hr
 split at hr
 ·rename_i q hq
  exact⟨q,hq,hr,by simp[ae.bQ,hq],by simp[ae.tail,hq]⟩
 ·omega
theorem Ov:(m.jr r a).cur=m.cur:=by simp[ae.cur,ae.jr,ae.bu]
theorem TI:(m.jr r a).ag.length=m.ag.length:=by simp[ae.jr,ae.bu]
theorem Xa:(m.jr r a).ag[m.cur]? =(m.ag[m.cur]?).map fun q=>{q with boxes:=q.boxes.take (q.boxes.length-r)++a}:=by
 simp only[ae.jr,ae.bu,dT,bP]
theorem SA (h:0<r) (hr:r≤m.bQ m.cur) (ha:a.length=r):(m.jr r a).tail r=a:=by
 obtain⟨q,hq,hl,_,_⟩:=Ht h hr
 unfold ae.tail
 rw[Ov,Xa,hq]
 simp only[dE,cu,fc,ha]
 rw[S6 (by rw[fc];omega)]
 rw[S7 (by rw[fc];omega)];rfl
theorem ZP (h:0<r) (hr:r≤m.bQ m.cur) (ha:a.length=r):(m.jr r a).bQ m.cur=m.bQ m.cur:=by
 obtain⟨q,hq,hl,hn,_⟩:=Ht h hr
 rw[hn]
 unfold ae.bQ
 rw[Xa,hq]
 simp only[dE,cu,fc,ha];omega
theorem apQ {d:Nat}:(m.jr r a).lS d=m.lS d:=by
 simp only[ae.lS,ae.jr,ae.bu,wa]
 by_cases h:m.cur=d
 ·cases m.ag[d]? <;>simp[h]
 ·cases m.ag[d]? <;>simp[h]
theorem abo (h:0<r) (hr:r≤m.bQ m.cur) (ha:a.length=r):(m.jr r a).jr r b=m.jr r b:=by
 obtain⟨q,hq,hl,_,_⟩:=Ht h hr
 have hc:(m.jr r a).cur=m.cur:=Ov
 show(m.jr r a).bu (m.jr r a).cur _=_
 rw[hc]
 simp only[ae.jr,ae.bu]
 congr 1
 apply pO
 intro i
 simp only[dT]
 by_cases hi:m.cur=i
 ·subst hi
  rw[ak rfl,ak rfl,ak rfl,hq]
  simp only[dE,cu,fc,ha]
  congr 2
  rw[To (by rw[fc];omega),List.take_take]
  congr 1
  congr 1
  omega
 ·rw[aq hi,aq hi,aq hi]
theorem abk {zs:List AV} {k:Nat} (hk:0<k) (hkr:k≤r) (hr:r≤m.bQ m.cur):m.dL m.cur (m.bQ m.cur-k) zs=m.jr r ((m.tail r).set (r-k) zs):=by
 obtain⟨q,hq,hl,hn,ht⟩:=Ht (by omega) hr
 rw[hn,ht]
 simp only[ae.dL,ae.jr,ae.bu]
 congr 1
 apply pO
 intro i
 simp only[dT]
 by_cases hi:m.cur=i
 ·subst hi
  rw[ak rfl,ak rfl,hq]
  simp only[dE]
  congr 2
  have e:q.boxes=q.boxes.take (q.boxes.length-r)++q.boxes.drop (q.boxes.length-r):=(HS _ _).symm
  conv=>lhs;rw[e]
  rw[HQ _ _ (by rw[fc];simp;omega)]
  congr 2
  rw[fc];simp;omega
 ·rw[aq hi,aq hi]
theorem Vf {k:Nat} (hk:0<k) (hkr:k≤r) (hr:r≤m.bQ m.cur):m.box m.cur (m.bQ m.cur-k)=(m.tail r)[r-k]? :=by
 obtain⟨q,hq,hl,hn,ht⟩:=Ht (by omega) hr
 rw[hn,ht]
 simp only[ae.box,hq,et,List.getElem?_drop]
 congr 1;omega
end
theorem agP {call:aZ} {ro:Bool} {m m1 m2:ae} {zss:List (List AV)} {k:Nat} {zs:List AV} {t:Target} {args:List AV} {u v:AV} (hk:0<k) (tQ:k≤zss.length) (hz:zss[zss.length-k]? =some zs)
  (h1:nB call ro m zss t args=some (v,m1)) (h2:mK m1 k zs=some (u,m2)):
  ∃dQ,mK m k zs=some (u,dQ)∧nB call ro dQ zss t args=some (v,m2):=by
 have hd:=OH h1
 unfold nB at h1
 rw[hd]at h1
 simp only at h1
 split at h1
 ·rename_i hc
  obtain⟨c0,c1,c3,c4,c5,c6,c7⟩:=hc
  have jz:0<zss.length:=by omega
  obtain⟨hT,hTi⟩:=Rk.1 c0
  have hr:zss.length≤m.bQ m.cur:=by
   unfold ae.tail at hT
   split at hT
   ·rename_i q hq
    have:m.bQ m.cur=q.boxes.length:=by unfold ae.bQ;rw[hq]
    rw[tc]at hT
    rw[this]
    omega
   ·simp at hT;omega
  have hY:m1.cur=m.cur:=by unfold ae.cur;rw[c3]
  have jA:zss.length≤m1.bQ m1.cur:=by rw[hY,c4];exact hr
  obtain⟨b1,b2,rfl,rfl⟩:=Hq h2
  rw[Vf hk tQ jA,c5,←Vf hk tQ hr]at b1
  rw[hY]at b2
  have hsb:=abk (m:=m) (zs:=zs) hk tQ hr
  have Yz:=abk (m:=m1) (zs:=zs) hk tQ jA
  rw[c5]at Yz
  rw[Yz]
  have vf:((m.tail zss.length).set (zss.length-k) zs).length=zss.length:=by rw[Ao];exact hT
  have gg:(m.tail zss.length).set (zss.length-k) zs∈qP zss:=by
   refine Rk.2 ⟨vf,fun i q1 q2=>?_⟩
   rw[Ti]
   split
   ·rename_i e
    subst e
    right
    have:=(bd.1 hz).2
    exact this.symm
   ·rw[Ao]at q1
    exact hTi i q1 q2
  refine⟨m.jr zss.length ((m.tail zss.length).set (zss.length-k) zs),?_,?_⟩
  ·rw[Ss b1 ⟨b2.1,c7 b2.2⟩,hsb,hY,c4]
  ·unfold nB
   rw[c1 _ gg]
   simp only
   rw[ak]
   have sn:(m.jr zss.length ((m.tail zss.length).set (zss.length-k) zs)).cur=m.cur:=Ov
   have B3:zss.length≤m1.bQ m1.cur:=jA
   refine⟨by rw[SA jz hr vf];exact gg,fun bx dw=>by rw[abo jz hr vf,abo jz jA vf];exact c1 bx dw,by rw[TI,TI];exact c3,?_,by rw[SA jz hr vf,SA jz jA vf],fun h=>by rw[c6 h],fun h=>?_⟩
   ·rw[sn,ZP jz hr vf]
    have:=ZP (m:=m1) jz jA vf
    rw[hY]at this
    rw[this];exact c4
   ·rw[sn,apQ]at h⊢
    exact c7 h
 ·cases h1
theorem Vs {call:aZ} {f:FuncId} {as:List aF} {ws:List (Bool×Nat×Nat)} {ρ:aF→AV} {m m':ae} {v:AV} (h:aN call ρ m (.qK f as ws)=some (v,m')) {q:Bool×Nat×Nat} (hq:q∈ws):
  m'.load q.1 q.2.1 (ρ (.tmp q.2.2))=m.load q.1 q.2.1 (ρ (.tmp q.2.2)):=by
 simp only[aN,oT]at h
 split at h
 ·split at h
  ·rename_i fi
   injection h with h
   injection h with _ h
   subst h
   exact fi _ (cz.2 ⟨q,hq,rfl⟩)
  ·cases h
 ·cases h
theorem afs {call:aZ} {x y:bC} (h:Bw x.op y.op=true) {ρ:Nat→AV} {m m1 m2:ae} {u v:AV} (h1:bE call x ρ m=some (v,m1)) (h2:bE call y ρ m1=some (u,m2)):
  ∃dQ,bE call y ρ m=some (u,dQ)∧bE call x ρ dQ=some (v,m2):=by
 by_cases hx:kM ρ x.guard=true
 ·by_cases hy:kM ρ y.guard=true
  ·simp only[bE,ak hx]at h1⊢
   simp only[bE,ak hy]at h2⊢
   unfold Bw at h
   split at h
   ·rename_i ro zss f as b zs' ex ey
    rw[dB,dU]at h
    obtain⟨hb,hz⟩:=h
    split at hz
    ·rename_i z hzs
     have hz:=as7 hz
     subst hz
     rw[ex]at h1⊢
     rw[ey]at h2⊢
     exact agP hb.1 hb.2 hzs h1 h2
    ·cases hz
   ·rename_i ro zs f as r g n a ex ey
    subst h
    rw[ex]at h1⊢
    rw[ey]at h2⊢
    have hm:m1=m:=by
     simp only[aN,nB]at h1
     split at h1
     ·split at h1
      ·rename_i hc
       injection h1 with h1
       injection h1 with _ h1
       rw[←h1]
       exact hc.2.2.2.2.2.1 rfl
      ·cases h1
     ·cases h1
    subst hm
    have fQ:m2=m1:=by
     simp only[aN]at h2
     obtain⟨_,_,h2⟩:=aT.1 h2
     injection h2 with _ h2
     exact h2.symm
    subst fQ
    exact⟨m2,h2,h1⟩
   ·rename_i r g n a ro zs f as ex ey
    subst h
    rw[ex]at h1⊢
    rw[ey]at h2⊢
    have hm:m1=m:=by
     simp only[aN]at h1
     obtain⟨_,_,h1⟩:=aT.1 h1
     injection h1 with _ h1
     exact h1.symm
    subst hm
    have fQ:m2=m1:=by
     simp only[aN,nB]at h2
     split at h2
     ·split at h2
      ·rename_i hc
       injection h2 with h2
       injection h2 with _ h2
       rw[←h2]
       exact hc.2.2.2.2.2.1 rfl
      ·cases h2
     ·cases h2
    subst fQ
    exact⟨m2,h2,h1⟩
   ·rename_i f as ws g n t ex ey
    rw[ex]at h1⊢
    rw[ey]at h2⊢
    obtain⟨q,hq,mq⟩:=eA.1 h
    simp only[dB,N8]at mq
    obtain⟨⟨rfl,rfl⟩,rfl⟩:=mq
    have hl:=Vs (call:=call) (f:=f) h1 hq
    simp only[aN]at h2⊢
    rw[hl]at h2
    obtain⟨u',hu,h2⟩:=aT.1 h2
    injection h2 with h2 h3
    subst h2 h3
    exact⟨m,by rw[hu];rfl,h1⟩
   ·rename_i g n t f as ws ex ey
    rw[ex]at h1⊢
    rw[ey]at h2⊢
    obtain⟨q,hq,mq⟩:=eA.1 h
    simp only[dB,N8]at mq
    obtain⟨⟨rfl,rfl⟩,rfl⟩:=mq
    simp only[aN]at h1
    obtain⟨u',hu,h1⟩:=aT.1 h1
    injection h1 with h1 h3
    subst h1 h3
    have hl:=Vs (call:=call) (f:=f) h2 hq
    refine⟨m2,h2,?_⟩
    simp only[aN]
    rw[hl,hu]
    rfl
   ·cases h
  ·simp only[bE,aq hy]at h2⊢
   injection h2 with h2
   injection h2 with h2 h3
   subst h2 h3
   exact⟨m,rfl,h1⟩
 ·simp only[bE,aq hx]at h1⊢
  injection h1 with h1
  injection h1 with h1 h3
  subst h1 h3
  exact⟨m2,h2,rfl⟩
theorem atD {call:aZ} {x y:bC} (h:vL (cZ x.op) (cZ y.op)=true∨Bw x.op y.op=true) (hd:∀t,x.dst=some t→y.dst≠some t) (hx:∀t,x.dst=some t→t∉vR y) (hy:∀t,y.dst=some t→t∉vR x)
  {st cX rK:St} (h1:rL call x st=some cX) (h2:rL call y cX=some rK):∃Sw,rL call y st=some Sw∧rL call x Sw=some rK:=by
 rw[LL]at h1
 obtain⟨⟨v,m1⟩,c1,h1⟩:=aT.1 h1
 subst h1
 rw[LL]at h2
 obtain⟨⟨u,m2⟩,c2,h2⟩:=aT.1 h2
 subst h2
 simp only at c2
 have aaL:∀(o o':bC) (ρ:Nat→AV) (z:AV),(∀t,o.dst=some t→t∉vR o')→pS (vR o') (kK ρ o.dst z) ρ:=fun o o' ρ z ho t ht=>by
  cases hdo:o.dst with
  |none=>rfl
  |some d=>
   simp only[kK,put]
   rw[aq (fun e=>ho d hdo (by rw[←e];exact ht))]
 rw[VX (aaL x y st.tmps v hx)]at c2
 obtain⟨dQ,c3,c4⟩:∃dQ,bE call y st.tmps st.sig=some (u,dQ)∧bE call x st.tmps dQ=some (v,m2):=by
  rcases h with h|h
  ·exact afw h c1 c2
  ·exact afs h c1 c2
 refine⟨⟨kK st.tmps y.dst u,dQ⟩,by rw[LL,c3];rfl,?_⟩
 rw[LL]
 simp only
 rw[VX (aaL y x st.tmps u hy),c4]
 simp only[dE,fe,St.mk.injEq,and_true]
 cases hdx:x.dst with
 |none=>rfl
 | some d =>
  cases hdy:y.dst with
  |none=>rfl
  | some d' =>
   have aD:d'≠d:=fun e=>hd d hdx (by rw[hdy,e])
   funext t
   simp only[kK,put]
   by_cases h1:t=d
   ·subst h1
    rw[ak rfl,aq (qF aD),ak rfl]
   ·rw[aq h1]
    split<;>rfl
noncomputable def oN (call:aZ) (as:List bC):List Nat→St→Option St
 |[],st=>some st
 |i::r,st=>match as[i]? with
  |some o=>(rL call o st).bind (oN call as r)
  |none=>none
theorem aa8 (call:aZ) (as:List bC):∀(l:List bC) (i:Nat),(∀j,l[j]? =as[i+j]?)→∀st,oN call as (List.range' i l.length) st=ops call l st
 |[],i,_,st=>rfl
 |o::r,i,h,st=>by
  have h0:as[i]? =some o:=by simpa using(h 0).symm
  simp only[eo,CR,oN,h0,Ry]
  congr 1
  funext cX
  exact aa8 call as r (i+1) (fun j=>by have:=h (j+1);simpa[wc,Mj 1 j]using this) cX
theorem asF (call:aZ) (as:List bC) (st:St):oN call as (List.range as.length) st=ops call as st:=by
 rw[Ar]
 exact aa8 call as as 0 (by simp) st
def unordered (pre:List Nat) (i j:Nat):Prop:=before pre i j=false∧before pre j i=false
theorem afI {pre:List Nat} {l:List bC} (h:tC pre l=true) {i j:Nat} {x y:bC} (hx:l[i]? =some x) (hy:l[j]? =some y) (aC:i<j) (hu:unordered pre i j):
  (vL (cZ x.op) (cZ y.op)=true∨Bw x.op y.op=true)∧(∀t,x.dst=some t→y.dst≠some t)∧(∀t,y.dst=some t→t∉vR x)∧(∀t,x.dst=some t→t∉vR y):=by
 have aD:i≠j:=by omega
 unfold tC at h
 rw[dB]at h
 have h1:=h.1
 unfold aau at h1
 have mem:∀{i:Nat} {x:bC},l[i]? =some x→(x,i)∈l.zipIdx:=fun e=>by
  rw[List.mem_zipIdx_iff_getElem?]
  exact e
 have h2:=j6.1 h1 _ (mem hx)
 have h3:=j6.1 h2 _ (mem hy)
 have h4:=j6.1 (j6.1 h1 _ (mem hy)) _ (mem hx)
 have P7:(i==j)=false:=by simpa using aD
 have ajQ:(j==i)=false:=by simpa using qF aD
 have X6:decide (j<i)=false:=by simp;omega
 obtain⟨YG,YH⟩:=hu
 simp only[P7,l4,dB,YG,YH,Ag]at h3
 simp only[ajQ,l4,dB,YG,YH,Ag]at h4
 obtain⟨⟨a1,a2⟩,a3⟩:=h3
 obtain⟨⟨_,a4⟩,_⟩:=h4
 refine⟨?_,fun t ht e=>?_,fun t ht hm=>?_,fun t ht hm=>?_⟩
 ·cases lG:cZ x.op<;>cases BN:cZ y.op<;>rw[lG,BN]at a3<;>first|exact .inl rfl|(simp[X6]at a3;done)|(simp[X6,aC]at a3;exact .inr a3)|(refine .inl ?_;simpa[vL]using a3)
 ·rw[ht,e]at a1
  simp at a1
 ·rw[ht]at a2
  simp at a2
  exact a2 hm
 ·rw[ht]at a4
  simp at a4
  exact a4 hm
theorem unordered.symm {pre:List Nat} {i j:Nat} (h:unordered pre i j):unordered pre j i:=⟨h.2,h.1⟩
theorem abO {call:aZ} {pre:List Nat} {as:List bC} (h:tC pre as=true) {i:Nat} {q:List Nat} {f:St}:∀(p:List Nat) (st:St),(∀j,j∈p→j<i∧unordered pre i j)→oN call as (p++i::q) st=some f→
  oN call as (i::(p++q)) st=some f
 |[],st,_,hr=>hr
 | j :: p, st, hp, hr => by
  simp only[l5,oN]at hr
  split at hr
  ·rename_i y hy
   obtain⟨cX,s1,hr⟩:=dj.1 hr
   have nP:=abO h p cX (fun j' dO=>hp j' (by simp[dO])) hr
   simp only[oN]at nP
   split at nP
   ·rename_i x hx
    obtain⟨rK,s2,nP⟩:=dj.1 nP
    obtain⟨aC,hu⟩:=hp j (by simp)
    obtain⟨d1,d2,d3,d6⟩:=afI h hy hx aC hu.symm
    obtain⟨Sw,t1,t2⟩:=atD d1 d2 d6 d3 s1 s2
    simp only[oN,l5,hx,hy,t1,et,t2]
    exact nP
   ·cases nP
  ·cases hr
def rW (o:Oper):List Edge:=o.after.toList.filter (Region.binds .any)
theorem W5 {acc:List Nat} {i:Nat}:∀(es:List Edge) (m:Nat),(es.foldl (fun m e=>m|||1<<<e.on|||acc.getD e.on 0) m).testBit i=true→m.testBit i=true∨∃e,e∈es∧(e.on=i∨(acc.getD e.on 0).testBit i=true)
 |[],m,h=>.inl h
 | e :: r, m, h => by
  simp only[v8]at h
  rcases W5 r _ h with h|⟨e',h1,h2⟩
  ·rw [yj, yj, sZ, sZ] at h
   rcases h with(h|h)|h
   ·exact .inl h
   ·rw[Nat.testBit_shiftLeft]at h
    simp only[dB,dU]at h
    have:=h.2
    have h0:i-e.on=0:=by
     cases hq:i-e.on with
     |zero=>rfl
     |succ n=>
      rw[hq,Nat.testBit_succ]at this
      simp at this
    exact .inr ⟨e,by simp,.inl (by omega)⟩
   ·exact .inr ⟨e,by simp,.inr h⟩
  ·exact .inr ⟨e',by simp[h1],h2⟩
theorem aaK:∀(l:List Oper) (acc pre:List Nat),z8 acc l=some pre→(∀j,j<acc.length→pre.getD j 0=acc.getD j 0)∧pre.length=acc.length+l.length∧
  ∀j o,l[j]? =some o→(∀e,e∈rW o→e.on<acc.length+j)∧∀i,(pre.getD (acc.length+j) 0).testBit i=true→∃e,e∈rW o∧(e.on=i∨(pre.getD e.on 0).testBit i=true)
 |[],acc,pre,h=>by
  simp only[z8]at h
  injection h with h
  subst h
  exact⟨fun _ _=>rfl,rfl,fun j o hj=>by simp at hj⟩
 | o :: r, acc, pre, h => by
  simp only[z8]at h
  split at h
  ·rename_i fi
   obtain⟨h1,h2,h3⟩:=aaK r _ pre h
   simp only[cu,eo,ja]at h1 h2 h3
   have Pj:∀e,e∈rW o→e.on<acc.length:=fun e he=>by simpa using j6.1 fi e he
   refine⟨fun j hj=>?_,by simp only[eo];omega,fun j o' hj=>?_⟩
   ·rw[h1 j (by omega)]
    simp[L9,dM hj]
   ·cases j with
    | zero =>
     simp only[HH,fe]at hj
     subst hj
     refine⟨fun e he=>by have:=Pj e he;omega,fun i hi=>?_⟩
     rw[Av,h1 acc.length (by omega)]at hi
     have hv:(acc++[(rW o).foldl (fun m e=>m|||1<<<e.on|||acc.getD e.on 0) 0]).getD acc.length 0=(rW o).foldl (fun m e=>m|||1<<<e.on|||acc.getD e.on 0) 0:=by
      simp[L9]
     have bG:((rW o).foldl (fun m e=>m|||1<<<e.on|||acc.getD e.on 0) 0).testBit i=true:=by
      rw[←hv]
      exact hi
     rcases W5 _ _ bG with h0|⟨e,e1,e2⟩
     ·simp at h0
     ·refine⟨e,e1,e2.imp id fun e3=>?_⟩
      rw[h1 e.on (by have:=Pj e e1;omega)]
      have:(acc++[(rW o).foldl (fun m e=>m|||1<<<e.on|||acc.getD e.on 0) 0]).getD e.on 0=acc.getD e.on 0:=by
       simp[L9,dM (Pj e e1)]
      exact(gS (fun q=>Nat.testBit q i) this).trans e3
    |succ j=>
     simp only[Ma]at hj
     obtain⟨g1,g2⟩:=h3 j o' hj
     refine⟨fun e he=>by have:=g1 e he;omega,fun i hi=>g2 i ?_⟩
     have:acc.length+1+j=acc.length+(j+1):=by omega
     rw[this]
     exact hi
  ·cases h
structure H2 (l:List Oper) (pre:List Nat):Prop where
 len:pre.length=l.length
 edge:∀j o,l[j]? =some o→∀e,e∈rW o→e.on<j
 why:∀j o,l[j]? =some o→∀i,before pre i j=true→∃e,e∈rW o∧(e.on=i∨before pre i e.on=true)
theorem arH {l:List Oper} {pre:List Nat} (h:z8 [] l=some pre):H2 l pre:=by
 obtain⟨_,h2,h3⟩:=aaK l [] pre h
 simp only[ja,fN]at h2 h3
 exact⟨h2,fun j o hj=>(h3 j o hj).1,fun j o hj i hi=>(h3 j o hj).2 i hi⟩
theorem H2.lt {l:List Oper} {pre:List Nat} (h:H2 l pre):∀(j i:Nat),before pre i j=true→i<j:=by
 intro j
 induction j using Nat.strongRecOn with
 | _ j ih =>
  intro i hi
  by_cases hj:j<l.length
  ·obtain⟨e,e1,e2⟩:=h.why j _ (cY hj) i hi
   have:=h.edge j _ (cY hj) e e1
   rcases e2 with e2|e2
   ·omega
   ·have:=ih e.on this i e2
    omega
  ·have:pre.getD j 0=0:=by
    rw[L9,n8 (by rw[h.len];omega)]
    rfl
   simp only[before,this,Mt]at hi
   cases hi
def mE (n:Nat) (listed:Array Bool):List Nat:=(List.range n).filter fun j=>!listed.getD j true
theorem Rl {n j:Nat} {listed:Array Bool}:j∈mE n listed↔j<n∧listed.getD j true=false:=by
 simp[mE,eH]
theorem asp {n i:Nat} {listed:Array Bool} (hi:i∈mE n listed):∃p q,mE n listed=p++i::q∧mE n (listed.setIfInBounds i true)=p++q∧∀j,j∈p→j<i∧listed.getD j true=false:=by
 obtain⟨h1,h2⟩:=Rl.1 hi
 refine⟨(List.range i).filter fun j=>!listed.getD j true,(List.range' (i+1) (n-(i+1))).filter fun j=>!listed.getD j true,?_,?_,fun j hj=>?_⟩
 ·have hr:List.range n=List.range i++i::List.range' (i+1) (n-(i+1)):=by
   rw[Ar,Ar,show n=i+(n-(i+1)+1)by omega,←List.range'_append_1]
   simp[CR]
   omega
  rw[mE,hr,ns,L6]
  simp[h2]
 ·have hr:List.range n=List.range i++i::List.range' (i+1) (n-(i+1)):=by
   rw[Ar,Ar,show n=i+(n-(i+1)+1)by omega,←List.range'_append_1]
   simp[CR]
   omega
  have hs:(listed.setIfInBounds i true).getD i true=true:=by
   by_cases aC:i<listed.size
   ·simp[Array.getD,aC]
   ·simp[Array.getD,aC]
  rw[mE,hr,ns,L6]
  simp only[hs,nZ,ez,db]
  congr 1
  ·refine HE fun j hj=>?_
   rw[getD_set_ne true (by have:=oh.1 hj;omega)]
  ·refine HE fun j hj=>?_
   rw[getD_set_ne true (by have:=List.mem_range'_1.1 hj;omega)]
 ·rw[eH,oh]at hj
  exact⟨hj.1,by simpa using hj.2⟩
theorem On {all:List Oper} {md:Nat→Md}:∀(l:List Oper) (i:Nat) (al:List bC),ot P all md i l=some al→al.length=l.length∧∀j o,l[j]? =some o→∃ao,al[j]? =some ao∧ao.dst=o.dst∧Bm all o.guard=some ao.guard∧gQ P (md (i+j)) o.op=some ao.op
 |[],i,al,h=>by
  simp only[ot]at h
  injection h with h
  subst h
  exact⟨rfl,fun j o hj=>by simp at hj⟩
 | o :: r, i, al, h => by
  simp only[ot]at h
  split at h
  ·rename_i g op rest e1 e2 e3
   injection h with h
   subst h
   obtain⟨h1,h2⟩:=On r (i+1) rest e3
   refine⟨by simp[h1],fun j o' hj=>?_⟩
   cases j with
   |zero=>
    simp only[HH,fe]at hj
    subst hj
    exact⟨_,rfl,rfl,e1,e2⟩
   |succ j=>
    obtain⟨ao,a1,a2,a3,a4⟩:=h2 j o' (by simpa using hj)
    exact⟨ao,by simpa using a1,a2,a3,by rw[←a4];congr 2;omega⟩
  ·cases h
theorem afJ {call:aZ} (dx:lr P B0 w0 call) (fm:n7 P B0 w0 call) (bq:ie call) {rd:Option Nat} {n:Nat} {all:Array Oper} {md:Nat→Md} {as:List bC} {pre:List Nat} (hc:ot P all.toList md 0 all.toList=some as)
  (sB:H2 all.toList pre) (bH:tC pre as=true) {f:St} {Q:Exit→Act→World→Prop}:∀(fuel:Nat) (listed:Array Bool) (G:aG) (st:St) (a:Act) (w:World),
  listed.size=all.size→(mE all.size listed).length≤fuel→(∀i j,listed.getD j false=true→before pre i j=true→listed.getD i false=true)→oN call as (mE all.size listed) st=some f→
  At P B0 w0 G k nl st.sig w→st.sig.loops.length=nl→eE G k nl st.tmps a→(∀o,o∈as→∀t,o.dst=some t→t<a.tmps.size)→(∀a' w',rS P B0 w0 G k nl st.sig a f a' w'→Q .normal a' w')→
  wpAnyIn (iM rd) n P .any all Q fuel listed a w:=by
 have ajV : ∀ (listed : Array Bool), listed.size = all.size → Region.ready .any all listed = [] → mE all.size listed = [] := fun listed bV hr => by
  have key:∀j,j<all.size→listed.getD j true=true:=fun j=>by
   induction j using Nat.strongRecOn with
   | _ j ih =>
    intro hj
    cases hl:listed.getD j true with
    |true=>rfl
    | false =>
     exfalso
     have:j∈Region.ready .any all listed:=by
      rw[mem_ready]
      refine⟨hl,all[j],aci hj,fun e he hb=>?_⟩
      have aC:=sB.edge j all[j] (by simp[hj]) e (by simp[rW,eH];exact⟨he,hb⟩)
      have:=ih e.on aC (by omega)
      have ajL:e.on<listed.size:=by omega
      simpa[Array.getD,ajL]using this
     rw[hr]at this
     cases this
  rw[mE,Tc]
  intro j hj
  rw[key j (oh.1 hj)]
  simp
 have done:∀(listed:Array Bool) (G:aG) (st:St) (a:Act) (w:World),listed.size=all.size→Region.ready .any all listed=[]→oN call as (mE all.size listed) st=some f→At P B0 w0 G k nl st.sig w→eE G k nl st.tmps a→
   (∀a' w',rS P B0 w0 G k nl st.sig a f a' w'→Q .normal a' w')→Q .normal a w:=fun listed G st a w bV hr dk h hR hQ=>by
  rw[ajV listed bV hr]at dk
  simp only[oN]at dk
  injection dk with dk
  subst dk
  exact hQ a w ⟨G,h,.refl _ _ _,rfl,hR,rfl,rfl⟩
 intro fuel
 induction fuel with
 | zero =>
  intro listed G st a w bV hlen aP dk h aR hR hd hQ
  have jz:Region.ready .any all listed=[]:=by
   cases hr:Region.ready .any all listed with
   |nil=>rfl
   |cons i r=>
    exfalso
    have hi:i∈Region.ready .any all listed:=by rw[hr];simp
    obtain⟨h1,o,h2,_⟩:=mem_ready.1 hi
    have:i∈mE all.size listed:=Rl.2 ⟨(uy.1 h2).1,h1⟩
    have h0:mE all.size listed=[]:=uE (by omega)
    rw[h0]at this
    cases this
  exact⟨jz,done listed G st a w bV jz dk h hR hQ⟩
 | succ fuel ih =>
  intro listed G st a w bV hlen aP dk h aR hR hd hQ
  refine⟨fun hr=>done listed G st a w bV hr dk h hR hQ,fun i hi=>?_⟩
  obtain⟨h1,o,h2,aiL⟩:=mem_ready.1 hi
  have aC:i<all.size:=(uy.1 h2).1
  have gg:i∈mE all.size listed:=Rl.2 ⟨aC,h1⟩
  obtain⟨p,q,e1,e2,e3⟩:=asp gg
  have ho:all.toList[i]? =some o:=by simpa using h2
  have XG:∀j,before pre j i=true→listed.getD j false=true:=fun j hj=>by
   obtain⟨e,c1,c2⟩:=sB.why i o ho j hj
   have he:e∈o.after∧Region.binds .any e=true:=by
    simp only[rW,eH]at c1
    exact⟨by simpa using c1.1,c1.2⟩
   have hl:=aiL e he.1 he.2
   rcases c2 with c2|c2
   ·rw[←c2];exact hl
   ·exact aP j e.on hl c2
  have XW:oN call as (i::(p++q)) st=some f:=by
   refine abO bH p st (fun j hj=>?_) (by rw[←e1];exact dk)
   obtain⟨j1,j2⟩:=e3 j hj
   refine⟨by omega,?_,?_⟩
   ·cases hb:before pre i j with
    |false=>rfl
    |true=>have:=sB.lt j i hb;omega
   ·cases hb:before pre j i with
    |false=>rfl
    |true=>
     exfalso
     have:=XG j hb
     have hjs:j<listed.size:=by omega
     simp[Array.getD,hjs]at this j2
     rw[this]at j2
     cases j2
  obtain⟨g1,g2⟩:=On _ 0 as hc
  obtain⟨ao,a1,a2,a3,a4⟩:=g2 i o ho
  simp only[oN,a1]at XW
  obtain⟨cX,s1,s2⟩:=dj.1 XW
  unfold wpOpIn
  simp only[h2]
  have fi:all=all.toList.toArray:=by simp
  have gl:=Z8 dx fm bq (rd:=rd) (n:=n) (all:=all.toList) (Q:=Q) h aR hR a3 a4 a2 (fun t ht=>hd ao (bU a1) t ht) s1 (K:=wpAnyIn (iM rd) n P .any all Q fuel (listed.setIfInBounds i true)) (fun tn w1 hp=>by
   obtain⟨G1,k1,k2,k3,k4,k5,k6⟩:=hp
   refine ih (listed.setIfInBounds i true) G1 cX tn w1 (by simp[bV]) ?_ ?_ (by rw[e2];exact s2) k1 (k3.trans aR) k4 (fun o' po t ht=>by rw[k5];exact hd o' po t ht) (fun a' w' rh=>hQ a' w' ?_)
   ·rw[e2]
    rw[e1]at hlen
    simp at hlen⊢
    omega
   ·intro x y hy eM
    by_cases YW:y=i
    ·subst YW
     exact getD_set_true (XG x eM)
    ·rw[getD_set_ne false (qF YW)]at hy
     exact getD_set_true (aP x y hy eM)
   ·obtain⟨G2,q1,q2,q3,q4,q5,q6⟩:=rh
    rw[k3]at q2 q3
    exact⟨G2,q1,k2.trans q2,q3,q4,q5.trans k5,q6.trans k6⟩)
  simpa using gl
theorem Hi {call:aZ} (dx:lr P B0 w0 call) (fm:n7 P B0 w0 call) (bq:ie call) (hm:P.follows .mixedOrders=true) {rd:Option Nat} {n id:Nat} {all:Array Oper} {md:Nat→Md} {as:List bC} {pre:List Nat} {st aQ:St} {a:Act}
  (sB:z8 [] all.toList=some pre) (ml:ot P all.toList md 0 all.toList=some as) (bH:tC pre as=true) (h:At P B0 w0 G k nl st.sig w) (aR:st.sig.loops.length=nl) (hR:eE G k nl st.tmps a) (hd:∀o,o∈as→∀t,o.dst=some t→t<a.tmps.size) (hs:ops call as st=some aQ)
  {Q:Exit→Act→World→Prop} (hQ:∀a' w',rS P B0 w0 G k nl st.sig a aQ a' w'→Q .normal a' w'):(Code.region id all true).wpIn (iM rd) n P Q a w:=by
 have hlen:=(On _ 0 _ ml).1
 refine wpIn_region_any hm ?_
 have jh:At P B0 w0 G k nl st.sig w.drew:=⟨h.rel.drew,h.len,h.cur⟩
 have Yw:mE all.size (Array.replicate all.size false)=List.range as.length:=by
  rw[hlen]
  simp only[SX,mE]
  rw[L7]
  intro j hj
  have:=oh.1 hj
  simp[Array.getD,this]
 have dk:oN call as (mE all.size (Array.replicate all.size false)) st=some aQ:=by
  rw[Yw,asF]
  exact hs
 refine afJ dx fm bq ml (arH sB) bH all.size _ G st a _ (by simp) ?_ ?_ dk jh aR hR hd hQ
 ·rw[Yw,hlen];simp
 ·intro i j hj
  by_cases aC:j<all.size
  ·simp[Array.getD,aC]at hj
  ·simp[Array.getD,aC]at hj
theorem Zz {mu:Mu} {pre:List Nat} {l:List Oper} {n0:Nat} {as:List bC} (h:JC P mu pre l=some (n0,as)):∃md,ot P l md 0 l=some as∧tC pre as=true:=by
 unfold JC at h
 split at h
 ·rename_i AB ml
  split at h
  ·rename_i bH
   injection h with h
   injection h with _ h
   subst h
   exact⟨_,ml,bH⟩
  ·cases h
 ·cases h
theorem asn {call : aZ} (dx : lr P B0 w0 call) (fm : n7 P B0 w0 call) (bq : ie call) (hm : P.follows .mixedOrders = true) {rd : Option Nat} {n id : Nat} {all : Array Oper} {drawn : Bool} {as : List bC} {n0 : Nat} {st aQ : St} {a : Act}
  {mu:Mu} (hc:JD P mu all.toList drawn=some (n0,as)) (h:At P B0 w0 G k nl st.sig w) (aR:st.sig.loops.length=nl) (hR:eE G k nl st.tmps a) (hd:∀o,o∈as→∀t,o.dst=some t→t<a.tmps.size) (hs:ops call as st=some aQ)
  {Q:Exit→Act→World→Prop} (hQ:∀a' w',rS P B0 w0 G k nl st.sig a aQ a' w'→Q .normal a' w'):(Code.region id all drawn).wpIn (iM rd) n P Q a w:=by
 cases drawn with
 |false=>
  simp only[JD,ez,db]at hc
  obtain⟨AB,pg,he⟩:=aT.1 hc
  injection he with _ he
  subst he
  refine wpIn_region_list ?_
  have:=aag dx fm bq (rd:=rd) (n:=n) (Q:=Q) all.toList 0 AB G st aQ a w pg h aR hR hd hs hQ
  simpa using this
 | true =>
  simp only[JD,bP]at hc
  split at hc
  ·cases hc
  rename_i pre sB
  split at hc
  ·rename_i AB ml
   split at hc
   ·rename_i bH
    injection hc with hc
    injection hc with _ hc
    subst hc
    exact Hi dx fm bq hm sB ml bH h aR hR hd hs hQ
   ·split at hc
    ·rename_i ML ai4
     split at hc
     ·rename_i bH
      injection hc with hc
      injection hc with _ hc
      subst hc
      exact Hi dx fm bq hm sB ai4 bH h aR hR hd hs hQ
     ·split at hc
      ·split at hc
       ·rename_i as3 ai5
        split at hc
        ·rename_i bH
         injection hc with hc
         injection hc with _ hc
         subst hc
         exact Hi dx fm bq hm sB ai5 bH h aR hR hd hs hQ
        ·obtain⟨_,Px,Qd⟩:=Zz hc
         exact Hi dx fm bq hm sB Px Qd h aR hR hd hs hQ
       ·cases hc
      ·obtain⟨_,Px,Qd⟩:=Zz hc
       exact Hi dx fm bq hm sB Px Qd h aR hR hd hs hQ
    ·cases hc
  ·cases hc
end
end Go.Ax
/-
  Loops over functions: their records.
-/
namespace Go.Ax
open Go.RowKit
section
variable{P:Program} {B0:Nat} {w0:World} {G:aG} {k nl:Nat} {w:World} {s:ae}
theorem TK (h:cE P B0 w0 G s w) (o:Obj) {b i:Nat} {v:Value} (e:G.I b i=some v):(w.alloc o).cell? ⟨b,i,none⟩=some v:=by
 have aC:=h.s6 e
 rw[World.cell?_alloc_lt _ _ _ (by exact aC)]
 exact h.ft b i v e
theorem api (h:At P B0 w0 G k nl s w):∃G',At P B0 w0 G' k nl s (w.alloc (.deferred (some [])))∧bD k s.loops.length G G'∧G'.loops=G.loops∧
  ∃gr,G.ag[k]? =some gr∧G'.ag[k]? =some {gr with marks:=gr.marks++[w.heap.size]}:=by
 obtain⟨r,gr,hr,hg⟩:=h.cT (aH k)
 have aI:=h.rel.cT k r gr hr hg
 have hlen:G.ag.length=k+1:=by rw[h.rel.len,h.len]
 let G':aG:={G with ag:=G.ag.modify k fun q=>{q with marks:=q.marks++[w.heap.size]},own:=fun b=>if b=w.heap.size then some (.mark k gr.marks.length)else G.own b}
 have gJ:G'.ag[k]? =some {gr with marks:=gr.marks++[w.heap.size]}:=by
  show(G.ag.modify k _)[k]? =_
  rw[dT,ak rfl,hg];rfl
 have hold:∀d,d≠k→G'.ag[d]? =G.ag[d]? :=fun d hd=>by
  show(G.ag.modify k _)[d]? =_
  rw[dT,aq (qF hd)]
 have hle:∀k' gL,k'≤k→bD k' gL G G':=fun k' gL vw=>⟨fun _ _ _ e=>e,fun d q hd e=>by
  by_cases eV:d=k
  ·subst eV
   rw[hg]at e
   injection e with e
   subst e
   exact⟨_,gJ,⟨fun _ _ e=>e,fun _ T e=>⟨T,e,.refl T⟩,rfl,fun _ _ e=>e⟩,fun aC=>by omega⟩
  ·exact⟨q,by rw[hold d eV];exact e,.refl q,fun _=>rfl⟩,fun _ _ _ e=>e⟩
 have oE:jN (fun _=>False) G w G' (w.alloc (.deferred (some []))):=fun b o e _=>by
  have aC:=h.rel.eU b o e
  exact⟨by simp only[G'];rw[aq (by omega)];exact e,Below.heap_alloc _ _ _ aC,fun _ e=>e⟩
 have hs:cE P B0 w0 G' s (w.alloc (.deferred (some []))):=by
  refine⟨fun b i v e=>TK h.rel _ e,by simp[G',h.rel.len],h.rel.jX,fun d q gq h1 h2=>?_,fun l lp q h1 h2=>?_,fun d q h1=>?_,fun d d' q q' hd h1 h2=>?_,h.rel.below.alloc h.rel.low _,by have:=h.rel.low;simp;omega,fun b o e=>?_⟩
  ·have eV:d≤k:=by have:=(bd.1 h1).1;rw[h.len]at this;omega
   by_cases hd:d=k
   ·subst hd
    rw[gJ]at h2
    injection h2 with h2
    subst h2
    rw[hr]at h1
    injection h1 with h1
    subst h1
    have nN:=aI.cU (hle d gr.nl (aH _)) oE (fun o ho=>ho.elim)
    refine⟨nN.eu,nN.iZ,nN.box,nN.full,nN.tok,fun i b e=>?_,nN.mR⟩
    rcases eC e with⟨_,e⟩|⟨hi,rfl⟩
    ·exact nN.mark i b e
    ·subst hi
     exact⟨h.rel.low,by simp[G'],World.alloc_heap_new w _⟩
   ·rw[hold d hd]at h2
    exact(h.rel.cT d q gq h1 h2).cU (hle d _ eV) oE (fun o ho=>ho.elim)
  ·have hq:=h.rel.loop l lp q h1 h2
   obtain⟨k1,k2,_⟩:=oE _ _ hq.2.1 (fun x=>x)
   exact hq.cU (fun k' gL a1 _=>hle k' gL (by omega)) (by simp[G']) k1 k2
  ·by_cases hd:d=k
   ·subst hd
    rw[gJ]at h1
    injection h1 with h1
    subst h1
    exact h.rel.pH d gr hg
   ·rw[hold d hd]at h1
    exact h.rel.pH d q h1
  ·have get:∀(d:Nat) (q:cN),G'.ag[d]? =some q→∃q0,G.ag[d]? =some q0∧q.nl=q0.nl:=fun d q e=>by
    by_cases hd:d=k
    ·subst hd
     rw[gJ]at e
     injection e with e
     subst e
     exact⟨gr,hg,rfl⟩
    ·rw[hold d hd]at e
     exact⟨q,e,rfl⟩
   obtain⟨q0,a1,a2⟩:=get d q h1
   obtain⟨q0',tn,CZ⟩:=get d' q' h2
   rw[a2,CZ]
   exact h.rel.rE d d' q0 q0' hd a1 tn
  ·simp only[G']at e
   split at e
   ·rename_i hb;subst hb;simp
   ·have:=h.rel.eU b o e;simp;omega
 exact⟨G',h.to hs (hle k nl (aH _)) rfl,hle k _ (aH _),rfl,gr,hg,gJ⟩
theorem afU (h:At P B0 w0 G k nl s w) (aR:s.loops.length=nl) {lp:dq} {rc:Loop} (h1:rc.state=.ready∧lp.ready=true∧lp.eG=none∧rc.pending=none) (hp:rc.params.toList=lp.params) {mu:Mu} (ha:comp P mu rc.assign=some lp.assign)
  (hb:comp P mu rc.body=some lp.body) (ta:kj rc.tmps.size lp.assign=true) (tb:kj rc.tmps.size lp.body=true) (tp:∀p,p∈lp.params→p<rc.tmps.size) (hR:∀t,Rel G k nl (lp.tmps t) (rc.tmps.getD t Go.undef)):
  ∃G',At P B0 w0 G' k nl (enterLoop s lp) (w.alloc (.loop rc))∧bD (k+1) nl G G'∧G'.ag=G.ag∧G'.loops=G.loops++[w.heap.size]:=by
 let G':aG:={G with loops:=G.loops++[w.heap.size],own:=fun b=>if b=w.heap.size then some (.loop nl)else G.own b}
 have lJ:G.loops.length=nl:=by rw[h.rel.jX,aR]
 have hle:∀k' gL,bD k' gL G G':=fun k' gL=>⟨fun _ _ _ e=>e,fun d q hd e=>⟨q,e,.refl q,fun _=>rfl⟩,fun l r _ e=>mQ e⟩
 have oE:jN (fun _=>False) G w G' (w.alloc (.loop rc)):=fun b o e _=>by
  have aC:=h.rel.eU b o e
  exact⟨by simp only[G'];rw[aq (by omega)];exact e,Below.heap_alloc _ _ _ aC,fun _ e=>e⟩
 have hlen:G.ag.length=k+1:=by rw[h.rel.len,h.len]
 have hs:cE P B0 w0 G' (enterLoop s lp) (w.alloc (.loop rc)):=by
  refine⟨fun b i v e=>TK h.rel _ e,h.rel.len,by simp[G',enterLoop,h.rel.jX],fun d q gq a1 a2=>?_,fun l q r a1 a2=>?_,fun d q a1=>?_,h.rel.rE,h.rel.below.alloc h.rel.low _,by have:=h.rel.low;simp;omega,fun b o e=>?_⟩
  ·exact(h.rel.cT d q gq a1 a2).cU (hle d _) oE (fun o ho=>ho.elim)
  ·rcases eC a1 with⟨hl,a1⟩|⟨hl,rfl⟩
   ·rcases eC a2 with⟨_,a2⟩|⟨pn,_⟩
    ·have hq:=h.rel.loop l q r a1 a2
     obtain⟨k1,k2,_⟩:=oE _ _ hq.2.1 (fun x=>x)
     exact hq.cU (fun k' gL _ _=>hle k' gL) (aH _) k1 k2
    ·omega
   ·have hr:r=w.heap.size:=by
     rcases eC a2 with⟨pn,_⟩|⟨_,e⟩
     ·omega
     ·exact e
    subst hr
    have ajH:l=nl:=by omega
    subst ajH
    refine⟨h.rel.low,by simp[G'],rc,World.alloc_heap_new w _,fun _=>⟨h1.1,h1.2.2.1⟩,fun e=>?_,?_,?_,hp,⟨mu,ha,hb⟩,ta,tb,tp,k,l,?_,aH _,fun d gq e aC=>?_,fun t=>(hR t).mono (hle _ _) (aH _) (aH _)⟩
    ·rw[h1.2.1]at e;cases e
    ·rw[h1.2.2.2,h1.2.2.1];rfl
    ·rw[h1.2.2.1];simp
    ·show k+1≤G.ag.length
     omega
    ·have e':G.ag[d]? =some gq:=e
     have:=h.rel.pH d gq e'
     omega
  ·have:=h.rel.pH d q a1
   simp[enterLoop];omega
  ·simp only[G']at e
   split at e
   ·rename_i hb;subst hb;simp
   ·have:=h.rel.eU b o e;simp;omega
 obtain⟨gr,g1,g2⟩:=h.cur
 exact⟨G',⟨hs,h.len,gr,g1,g2⟩,hle _ _,rfl,rfl⟩
theorem ate (h:cE P B0 w0 G s w) {l r:Nat} {lp nb:dq} {rc nj:Loop} (hl:s.loops[l]? =some lp) (hr:G.loops[l]? =some r) (kX:w.heap[r]? =some (.loop rc)) {f:dq→dq} (hf:f lp=nb) (ho:pQ P G l nb nj):
  cE P B0 w0 G (ek s l f) (w.putObj r (.loop nj)):=by
 obtain⟨b1,b2,_⟩:=h.loop l lp r hl hr
 have oE:jN (· =.loop l) G w G (w.putObj r (.loop nj)):=fun b o e ho=>⟨e,World.putObj_heap_other (fun hb=>ho (by subst hb;rw[b2]at e;injection e with e;exact e.symm)),fun _ e=>e⟩
 have dJ:r<w.heap.size:=(uy.1 kX).1
 refine⟨fun b i v e=>?_,h.len,by simp[ek,h.jX],fun d q gq a1 a2=>?_,fun l' q r' a1 a2=>?_,fun d q a1=>?_,h.rE,?_,by rw[World.putObj_size];exact h.low,fun b o e=>by rw[World.putObj_size];exact h.eU b o e⟩
 ·have:=h.ft b i v e
  by_cases hb:b=r
  ·subst hb
   simp only[World.cell?,kX]at this
   cases this
  ·have hh:(w.putObj r (.loop nj)).heap[b]? =w.heap[b]? :=World.putObj_heap_other hb
   rw[←this]
   simp only[World.cell?,hh]
 ·exact(h.cT d q gq a1 a2).cU (bD.refl _ _ _) oE (fun o ho=>by subst ho;exact⟨fun _ e=>(by cases e),fun _ e=>(by cases e),fun _ e=>(by cases e)⟩)
 ·simp only[ek,dT]at a1
  by_cases aR:l=l'
  ·subst aR
   rw[ak rfl,hl]at a1
   simp only[dE,fe]at a1
   rw[hr]at a2
   injection a2 with a2
   subst a2
   rw[hf]at a1
   subst a1
   exact⟨b1,b2,nj,World.putObj_heap_same dJ,ho⟩
  ·rw[aq aR]at a1
   have hq:=h.loop l' q r' a1 a2
   obtain⟨k1,k2,_⟩:=oE _ _ hq.2.1 (fun e=>aR (by injection e with e;exact e.symm))
   exact hq.cU (fun _ _ _ _=>bD.refl _ _ _) (aH _) k1 k2
 ·have:=h.pH d q a1
  simp[ek];omega
 ·exact h.below.trans ⟨rfl,rfl,rfl,by simp,fun c hc=>World.putObj_heap_other (by omega)⟩
theorem aoP (h:At P B0 w0 G k nl s w) (aR:s.loops.length=nl+1) {r:Nat} {lp:dq} {rc:Loop} {o':Obj} (hl:s.loops[nl]? =some lp) (hr:G.loops[nl]? =some r) (kX:w.heap[r]? =some (.loop rc)):
  ∃G',At P B0 w0 G' k nl {s with loops:=s.loops.take nl} (w.putObj r o')∧bD (k+1) nl G G'∧G'.ag=G.ag:=by
 obtain⟨b1,b2,_⟩:=h.rel.loop nl lp r hl hr
 let G':aG:={G with loops:=G.loops.take nl,own:=fun b=>if b=r then none else G.own b}
 have hle:∀k' gL,gL≤nl→bD k' gL G G':=fun k' gL hn=>⟨fun _ _ _ e=>e,fun d q hd e=>⟨q,e,.refl q,fun _=>rfl⟩,fun l r aC e=>by
  show(G.loops.take nl)[l]? =_
  rw[yc,ak (by omega)]
  exact e⟩
 have oE:jN (· =.loop nl) G w G' (w.putObj r o'):=fun b o e ho=>by
  have hb:b≠r:=fun hb=>ho (by subst hb;rw[b2]at e;injection e with e;exact e.symm)
  exact⟨by simp only[G'];rw[aq hb];exact e,World.putObj_heap_other hb,fun _ e=>e⟩
 have hlen:G.ag.length=k+1:=by rw[h.rel.len,h.len]
 obtain⟨gk,g1,g2⟩:=h.cur
 have Yg:∀(d:Nat) (q:cN),G.ag[d]? =some q→q.nl≤nl:=fun d q e=>by
  have hd:d≤k:=by have:=(bd.1 e).1;omega
  rw[←g2]
  exact h.rel.rE d k q gk hd e g1
 have hs:cE P B0 w0 G' {s with loops:=s.loops.take nl} (w.putObj r o'):=by
  refine⟨fun b i v e=>?_,h.rel.len,by simp[G',h.rel.jX],fun d q gq a1 a2=>?_,fun l' q r' a1 a2=>?_,fun d q a1=>?_,h.rel.rE,?_,by rw[World.putObj_size];exact h.rel.low,fun b o e=>?_⟩
  ·have:=h.rel.ft b i v e
   by_cases hb:b=r
   ·subst hb
    simp only[World.cell?,kX]at this
    cases this
   ·have hh:(w.putObj r o').heap[b]? =w.heap[b]? :=World.putObj_heap_other hb
    rw[←this]
    simp only[World.cell?,hh]
  ·exact(h.rel.cT d q gq a1 a2).cU (hle d _ (Yg d gq a2)) oE (fun o ho=>by subst ho;exact⟨fun _ e=>(by cases e),fun _ e=>(by cases e),fun _ e=>(by cases e)⟩)
  ·have tn:(s.loops.take nl)[l']? =some q:=a1
   have CZ:(G.loops.take nl)[l']? =some r':=a2
   rw[yc]at tn CZ
   split at tn
   ·rename_i aC
    rw[ak aC]at CZ
    have hq:=h.rel.loop l' q r' tn CZ
    obtain⟨k1,k2,_⟩:=oE _ _ hq.2.1 (fun e=>by injection e with e;omega)
    exact hq.cU (fun k' gL _ hn=>hle k' gL (by omega)) (aH _) k1 k2
   ·cases tn
  ·have tn:G.ag[d]? =some q:=a1
   have:=Yg d q tn
   simp;omega
  ·exact h.rel.below.trans ⟨rfl,rfl,rfl,by simp,fun c hc=>World.putObj_heap_other (by omega)⟩
  ·rw[World.putObj_size]
   simp only[G']at e
   split at e
   ·cases e
   ·exact h.rel.eU b o e
 exact⟨G',⟨hs,h.len,gk,g1,g2⟩,hle _ _ (aH _),rfl⟩
end
end Go.Ax
/-
  Code.
-/
namespace Go.Ax
open Go.RowKit
def Bt:cM→Exit
 |.normal=>.normal
 |.exit id=>.exit id
 |.ret=>.ret
section
variable{P:Program} {B0:Nat} {w0:World} {G:aG} {k nl:Nat} {w:World} {s:ae} {base:List Nat}
def yl (rd:Option Nat) (G:aG) (nl:Nat):Prop:=∀r,rd=some r→∃l:Nat,l<nl∧G.loops[l]? =some r
def Defs (rd : Option Nat) (base : List Nat) (G : aG) (k : Nat) (a : Act) : Prop := rd = none → ∃ gr new, G.ag[k]? = some gr ∧ gr.marks = base ++ new ∧ a.defers = (new.map fun b => (⟨.collected b, #[]⟩ : Deferred)).reverse
def ya (P:Program) (B0:Nat) (w0:World) (rd:Option Nat) (base:List Nat) (G:aG) (k nl:Nat) (a:Act) (e:cM) (aQ:St):Exit→Act→World→Prop:=fun x a' w'=>
 x=Bt e∧∃G',At P B0 w0 G' k nl aQ.sig w'∧bD k nl G G'∧aQ.sig.loops.length=nl∧eE G' k nl aQ.tmps a'∧a'.tmps.size=a.tmps.size∧Defs rd base G' k a'
theorem yl.mono {rd:Option Nat} {G':aG} (h:yl rd G nl) (hle:bD k nl G G'):yl rd G' nl:=fun r e=>by
 obtain⟨l,h1,h2⟩:=h r e
 exact⟨l,h1,hle.loops l r h1 h2⟩
theorem Defs.mono {rd:Option Nat} {G':aG} {a a':Act} (h:Defs rd base G k a) (hle:bD (k+1) nl G G') (hd:a'.defers=a.defers):Defs rd base G' k a':=fun e=>by
 obtain⟨gr,new,h1,h2,h3⟩:=h e
 obtain⟨bI,g1,_,g3⟩:=hle.ag k gr (by omega) h1
 exact⟨bI,new,g1,by rw[g3 (by omega),h2],by rw[hd,h3]⟩
theorem afV {rd:Option Nat} {a:Act} (h:At P B0 w0 G k nl s w) (aR:s.loops.length=nl) (iS:yl rd G nl) (iw:Defs rd base G k a) (ps:Array Tmp) (assign body:Code):
  ∃wm Gm mark,At P B0 w0 Gm k nl s wm∧bD k nl G Gm∧Gm.loops=G.loops∧Defs rd base Gm k {a with defers:=mark++a.defers}∧∀fn,∃rc:Loop,(Instr.enterLoop fn a.tmps ps assign body rd).run P w=.ok (wm.heap.size,mark) (wm.alloc (.loop rc))∧
   rc.state=.ready∧rc.pending=none∧rc.tmps=a.tmps∧rc.params=ps∧rc.assign=assign∧rc.body=body:=by
 cases rd with
 | none =>
  obtain⟨Gm,g1,g2,g3,gr,g4,g5⟩:=api h
  obtain⟨bI,new,e1,e3,e2⟩:=iw rfl
  rw[g4]at e1
  injection e1 with e1
  subst e1
  refine ⟨_, Gm, [{ target := .collected w.heap.size, args := #[] }], g1, by rw [aR] at g2; exact g2, g3, fun _ => ⟨_, new ++ [w.heap.size], g5, by simp [e3], ?_⟩, fun fn => ⟨{ state := .ready, pending := none, fn, tmps := a.tmps, params := ps, assign, body, defers := w.heap.size }, ?_, rfl, rfl, rfl, rfl, rfl, rfl⟩⟩
  ·simp[e2]
  ·have:=run_enterLoop_outer (P:=P) (w:=w) fn a.tmps ps assign body
   rw[this]
   simp
 |some r0=>
  obtain⟨l,h1,h2⟩:=iS r0 rfl
  have aC:l<s.loops.length:=by omega
  obtain⟨_,_,rc0,h3,_⟩:=h.rel.loop l _ r0 (cY aC) h2
  refine⟨w,G,[],h,.refl _ _ _,rfl,fun e=>(by cases e),fun fn=>⟨{state:=.ready,pending:=none,fn,tmps:=a.tmps,params:=ps,assign,body,defers:=rc0.defers},?_,rfl,rfl,rfl,rfl,rfl,rfl⟩⟩
  have:=run_getLoop (P:=P) h3
  unfold Instr.enterLoop
  simp only[Sem.run_bind,this,run_newObj_alloc,Result.andThen,Sem.run_pure]
theorem asi {call:aZ} (dx:lr P B0 w0 call) {rd:Option Nat} {n:Nat} {f:Operand} {af:aF} {ps:Array Tmp} {assign body:Code} {AA ab:aw} {st aQ:St} {a:Act} {e:cM} {lf:Nat}
  (h:At P B0 w0 G k nl st.sig w) (aR:st.sig.loops.length=nl) (hR:eE G k nl st.tmps a) (iS:yl rd G nl) (iw:Defs rd base G k a) (cf:dG f=some af) {mu:Mu} (ca:comp P mu assign=some AA) (cb:comp P mu body=some ab)
  (tp:∀p,p∈ps.toList→p<a.tmps.size) (ta:kj a.tmps.size AA=true) (tb:kj a.tmps.size ab=true) (he:exec call lf (.rangeFunc af ps.toList AA ab) st=some (e,aQ)):
  (Code.rangeFunc f ps assign body).wpIn (iM rd) n P (ya P B0 w0 rd base G k nl a e aQ) a w:=by
 simp only[exec]at he
 split at he
 case h_2=>cases he
 rename_i g first caps vl
 split at he
 case h_2=>cases he
 rename_i res s hc
 split at he
 case h_2=>cases he
 rename_i pe s1 da
 injection he with he
 injection he with nJ kV
 subst nJ kV
 rw[aR]at hc da
 have jk:=dp cf hR
 rw[vl]at jk
 obtain⟨a1,a2,hfv,l1,l2,r1,r2⟩:=jk.Cb
 obtain⟨wm,Gm,mark,m1,m2,m3,m4,m5⟩:=afV h aR iS iw ps assign body
 refine wpIn_rangeFunc fun fn _=>?_
 obtain⟨rc,q1,q2,q3,q4,q5,q6,q7⟩:=m5 fn
 obtain⟨G1,e1,e2,e3,e4⟩:=afU (lp:=⟨true,none,st.tmps,ps.toList,AA,ab⟩) (rc:=rc) m1 aR ⟨q2,rfl,rfl,q3⟩ (by rw[q5]) (by rw[q6];exact ca) (by rw[q7];exact cb) (by rw[q4];exact ta) (by rw[q4];exact tb) (by rw[q4];exact tp)
  (fun t=>by rw[q4];exact(hR t).mono m2 (aH _) (aH _))
 have Xt:bD k nl G G1:=m2.trans (e2.less (by omega) (aH _))
 have lJ:Gm.loops.length=nl:=by rw[m1.rel.jX,aR]
 have gK:G1.loops[nl]? =some wm.heap.size:=by rw[e4,gO (by omega)];simp[lJ]
 have dy := dx.fn G1 k (nl + 1) _ _ g (first ++ .yield nl :: caps) (a1 ++ #[.func (.yield wm.heap.size) #[] #[]] ++ a2) res s e1.rel (by simp [enterLoop, h.len]) (by simp [enterLoop, h.len]) (by simp [enterLoop, aR]) (by simp [l1, l2]; omega) (fun i hi => by
  rw[BA,BA]
  simp only[cu,eo]at hi
  by_cases h1:i<first.length
  ·rw[ak (by simp;omega),ak (by omega)]
   have e:(first++AV.yield nl::caps)[i]=first[i]:=uF h1
   rw[e]
   exact .cl ((r1 i h1).mono Xt.I)
  ·by_cases h2:i=first.length
   ·subst h2
    rw[ak (by simp;omega),aq (by omega)]
    have e:(first++AV.yield nl::caps)[first.length]=.yield nl:=by
     rw[uG (aH _)]
     simp
    have e' : (#[Value.func (.yield wm.heap.size) #[] #[]] : Array Value).getD (first.length - a1.size) Go.undef = .func (.yield wm.heap.size) #[] #[] := by rw [l1, HZ]; rfl
    rw[e,e']
    exact .yield (by omega) gK
   ·rw[aq (by simp;omega)]
    have e:(first++AV.yield nl::caps)[i]=caps[i-(first.length+1)]'(by omega):=by
     rw[uG (by omega)]
     have:i-first.length=(i-(first.length+1))+1:=by omega
     simp only[this,HJ]
    have e' : (a1 ++ #[Value.func (.yield wm.heap.size) #[] #[]]).size = first.length + 1 := by simp [l1]
    rw[e,e']
    exact(r2 _ _).mono Xt (aH _) (th _)) hc
 obtain⟨ze,Pu⟩:=dy
 have jW : (resolve a.eval (rangeCall f wm.heap.size) 0).run P (wm.alloc (.loop rc)) = .ok { target := .fn (.func g) a2, args := a1 ++ #[.func (.yield wm.heap.size) #[] #[]] } (wm.alloc (.loop rc)) := by
  have ajP : (rangeCall f wm.heap.size).args.map a.eval = #[.func (.yield wm.heap.size) #[] #[]] := by simp [Act.eval]
  simp only[resolve,hfv,ajP,Lb (P:=P) rfl]
 refine⟨_,mark,_,_,_,g,_,_,by rw[agQ];exact q1,jW,fun f' _=>OI rd f',ze.run _ _,(by rw[JQ];intro h;cases h),?_⟩
 refine CallsIn.mono (JP rd Pu) fun en w3 hen=>?_
 obtain⟨z,rfl,G2,c1,c2,c3,c4,c5⟩:=hen
 have sg:At P B0 w0 G2 k nl s w3:=by
  have gd:(enterLoop st.sig ⟨true,none,st.tmps,ps.toList,AA,ab⟩).loops.length=nl+1:=by simp[enterLoop,aR]
  exact e1.to c1 (c4.less (by omega) (by omega)) c2
 have pn:s.loops.length=nl+1:=by rw[c3];simp[enterLoop,aR]
 have gd:(enterLoop st.sig ⟨true,none,st.tmps,ps.toList,AA,ab⟩).loops.length=nl+1:=by simp[enterLoop,aR]
 unfold xN at da
 rw[ak pn]at da
 split at da
 case h_2=>cases da
 rename_i lp sw
 split at da
 case isFalse=>cases da
 rename_i Gy
 injection da with da
 injection da with QH QI
 subst QH QI
 have xD:G2.loops[nl]? =some wm.heap.size:=c4.loops nl _ (by omega) gK
 obtain⟨b1,b2,qA,b3,b4⟩:=c1.loop nl lp _ sw xD
 obtain⟨o1,o2,o3,o4,_⟩:=b4
 have aiZ:qA.state≠.busy:=by
  rcases Gy with hr|hr
  ·rw[(o1 hr).1];simp
  ·cases aI:lp.ready with
   |true=>rw[(o1 aI).1];simp
   |false=>rw[o2 aI,ak hr];simp
 have BP:=run_endLoop (P:=P) b3 aiZ
 obtain⟨G3,d1,d2,d3⟩:=aoP (o':=.loop {qA with state:=.exhausted}) sg pn sw xD b3
 have Pb:bD (k+1) nl Gm G2:=e2.trans (c4.less (aH _) (by omega))
 have Xu:bD (k+1) nl Gm G3:=Pb.trans d2
 have Xv:bD k nl G G3:=m2.trans (Xu.less (by omega) (aH _))
 have pq:∀ex,ex=Bt (lp.eG.getD .normal)→ya P B0 w0 rd base G k nl a (lp.eG.getD .normal) ⟨st.tmps,{s with loops:=s.loops.take nl}⟩ ex {a with defers:=mark++a.defers} (w3.putObj wm.heap.size (.loop {qA with state:=.exhausted})):=fun ex hex=>
  ⟨hex,G3,d1,Xv,by simp[pn],fun t=>(hR t).mono Xv (aH _) (aH _),rfl,m4.mono Xu rfl⟩
 generalize w3.putObj wm.heap.size (.loop {qA with state:=.exhausted})=w4 at pq BP
 refine⟨qA.pending,w4,BP,?_⟩
 rw[o3]
 cases Qi:lp.eG with
 |none=>
  rw[Qi]at pq
  exact pq _ rfl
 |some pe=>
  rw[Qi]at pq
  cases pe with
  |normal=>exact absurd Qi o4
  |exit id=>exact wpIn_exit (pq _ rfl)
  |ret=>exact wpIn_ret (pq _ rfl)
theorem least {p:Nat→Prop} (h:∃m,p m):∃m,p m∧∀j,j<m→¬p j:=by
 obtain⟨m,hm⟩:=h
 induction m using Nat.strongRecOn with
 | _ m ih =>
  by_cases hj:∃j,j<m∧p j
  ·obtain⟨j,h1,h2⟩:=hj
   exact ih j h1 h2
  ·exact⟨m,hm,fun j h1 h2=>hj ⟨j,h1,h2⟩⟩
theorem aup {F:Fence} {n:Nat} {c:Code} {Q:Exit→Act→World→Prop} {a:Act} {w:World} (D:Nat→Act→World→Prop) {m:Nat} (h0:D m a w)
  (hs:∀m a w,D m a w→c.wpIn F n P (Exit.then (fun a' w'=>∃j,j<m∧D j a' w') Q) a w):(Code.loop c).wpIn F n P Q a w:=by
 classical
 refine wpIn_loop (fun a w=>∃m,D m a w) (fun a w=>if h:∃m,D m a w then(least h).choose else 0) ⟨m,h0⟩ fun a w hI=>?_
 have hc:=(least hI).choose_spec
 refine wpIn_mono (hs _ a w hc.1) fun e a' w' hq=>?_
 cases e with
 |normal=>
  obtain⟨j,h1,h2⟩:=hq
  refine⟨⟨j,h2⟩,?_⟩
  rw[JI hI,JI ⟨j,h2⟩]
  have pg:=(least (p:=fun m=>D m a' w') ⟨j,h2⟩).choose_spec
  have:¬j<(least (p:=fun m=>D m a' w') ⟨j,h2⟩).choose:=fun aC=>pg.2 j aC h2
  omega
 |_=>exact hq
theorem ya.trans {rd:Option Nat} {G1:aG} {a a1:Act} {e:cM} {aQ:St} {x:Exit} {a':Act} {w':World} (hle:bD k nl G G1) (hs:a1.tmps.size=a.tmps.size) (h:ya P B0 w0 rd base G1 k nl a1 e aQ x a' w'):
  ya P B0 w0 rd base G k nl a e aQ x a' w':=by
 obtain⟨h1,G',h2,h3,h4,h5,h6,h7⟩:=h
 exact⟨h1,G',h2,hle.trans h3,h4,h5,h6.trans hs,h7⟩
theorem JM {call:aZ} (dx:lr P B0 w0 call) (fm:n7 P B0 w0 call) (bq:ie call) (hm:P.follows .mixedOrders=true) {rd:Option Nat} {n lf:Nat} {mu:Mu}:∀(c:Code) (ac:aw) (G:aG) (st aQ:St) (a:Act) (w:World) (e:cM),comp P mu c=some ac→
  At P B0 w0 G k nl st.sig w→st.sig.loops.length=nl→eE G k nl st.tmps a→kj a.tmps.size ac=true→yl rd G nl→Defs rd base G k a→exec call lf ac st=some (e,aQ)→
  c.wpIn (iM rd) n P (ya P B0 w0 rd base G k nl a e aQ) a w:=by
 intro c
 induction c with
 |skip=>
  intro ac G st aQ a w e hc h aR hR ht iS iw he
  simp only[comp]at hc
  injection hc with hc
  subst hc
  simp only[exec]at he
  injection he with he
  injection he with h1 h2
  subst h1 h2
  exact wpIn_skip ⟨rfl,G,h,.refl _ _ _,aR,hR,rfl,iw⟩
 | region id l drawn =>
  intro ac G st aQ a w e hc h aR hR ht iS iw he
  simp only[comp]at hc
  obtain⟨⟨n0,as⟩,has,rfl⟩:=aT.1 hc
  have key:∀(G:aG) (st:St),At P B0 w0 G k nl st.sig w→st.sig.loops.length=nl→eE G k nl st.tmps a→kj a.tmps.size (.region drawn as)=true→Defs rd base G k a→exec call lf (.region drawn as) st=some (e,aQ)→
    (Code.region id l drawn).wpIn (iM rd) n P (ya P B0 w0 rd base G k nl a e aQ) a w:=fun G st h aR hR ht iw he=>by
   simp only[exec]at he
   obtain⟨cX,hs,he⟩:=aT.1 he
   injection he with h1 h2
   subst h1 h2
   simp only[kj]at ht
   refine asn dx fm bq hm has h aR hR (fun o ho t hd=>?_) hs fun a' w' hp=>?_
   ·have:=j6.1 ht o ho
    rw[hd]at this
    simpa using this
   ·obtain⟨G',g1,g2,g3,g4,g5,g6⟩:=hp
    rw[aR]at g2 g3
    exact⟨rfl,G',g1,g2.less (by omega) (aH _),g3,g4,g5,iw.mono g2 g6⟩
  cases n0 with
  |zero=>exact key G st h aR hR ht iw he
  | succ n0 =>
   obtain⟨G1,r1,r2,r3,_⟩:=ast h (n0+1)
   simp only[R2,kj,dB]at ht
   have ji:exec call lf (.region drawn as) ⟨st.tmps,st.sig.l3 (n0+1)⟩=some (e,aQ):=by
    simpa[R2,exec,ops,kM,aN,kK]using he
   rw[aR]at r2 r3
   have hle:bD k nl G G1:=r2.less (by omega) (aH _)
   refine wpIn_mono (key G1 ⟨st.tmps,st.sig.l3 (n0+1)⟩ r1 r3 (fun t=>(hR t).mono hle (aH _) (aH _)) ht.2 (iw.mono r2 rfl) ji) fun x a' w' hp=>?_
   obtain⟨h1,G',h2,h3,h4,h5,h6,h7⟩:=hp
   exact⟨h1,G',h2,hle.trans h3,h4,h5,h6,h7⟩
 | seq x y GO KR =>
  intro ac G st aQ a w e hc h aR hR ht iS iw he
  simp only[comp]at hc
  split at hc
  case h_2=>cases hc
  rename_i ax ay e1 e2
  injection hc with hc
  subst hc
  simp only[kj,dB]at ht
  simp only[exec]at he
  split at he
  ·rename_i cX hx
   refine wpIn_seq (wpIn_mono (GO ax G st cX a w .normal e1 h aR hR ht.1 iS iw hx) fun ex a1 w1 hp=>?_)
   obtain⟨rfl,G1,g1,g2,g3,g4,g5,g6⟩:=hp
   exact wpIn_mono (KR ay G1 cX aQ a1 w1 e e2 g1 g3 g4 (by rw[g5];exact ht.2) (iS.mono g2) g6 he) fun ex a2 w2 hq=>hq.trans g2 g5
  ·rename_i aD
   refine wpIn_seq (wpIn_mono (GO ax G st aQ a w e e1 h aR hR ht.1 iS iw he) fun ex a1 w1 hp=>?_)
   have hx:=hp.1
   subst hx
   cases e with
   |normal=>exact absurd he (aD _)
   |exit id=>exact hp
   |ret=>exact hp
 |cond cc x y GO KR=>
  intro ac G st aQ a w e hc h aR hR ht iS iw he
  simp only[comp]at hc
  split at hc
  case h_2=>cases hc
  rename_i z ax ay e0 e1 e2
  injection hc with hc
  subst hc
  simp only[kj,dB]at ht
  simp only[exec]at he
  split at he
  case h_2=>cases he
  rename_i t hz
  have hv:=dp e0 hR
  rw[hz]at hv
  refine wpIn_cond hv.gB ?_
  cases t with
  |true=>exact GO ax G st aQ a w e e1 h aR hR ht.1 iS iw (by simpa using he)
  |false=>exact KR ay G st aQ a w e e2 h aR hR ht.2 iS iw (by simpa using he)
 | block id x ih =>
  intro ac G st aQ a w e hc h aR hR ht iS iw he
  simp only[comp]at hc
  obtain⟨ax,e1,rfl⟩:=aT.1 hc
  simp only[kj]at ht
  simp only[exec]at he
  split at he
  ·rename_i j cX hx
   refine wpIn_block (wpIn_mono (ih ax G st cX a w (.exit j) e1 h aR hR ht iS iw hx) fun ex a1 w1 hp=>?_)
   obtain⟨rfl,hp⟩:=hp
   simp only[Bt,Exit.inBlock]
   split at he
   ·rename_i hj
    injection he with he
    injection he with h1 h2
    subst h1 h2
    rw[ak hj]
    exact⟨rfl,hp⟩
   ·rename_i hj
    injection he with he
    injection he with h1 h2
    subst h1 h2
    rw[aq hj]
    exact⟨rfl,hp⟩
  ·rename_i aD
   refine wpIn_block (wpIn_mono (ih ax G st aQ a w e e1 h aR hR ht iS iw he) fun ex a1 w1 hp=>?_)
   have hx:=hp.1
   subst hx
   cases e with
   |exit j=>exact absurd he (aD _ _)
   |normal=>exact hp
   |ret=>exact hp
 | loop x ih =>
  intro ac G st aQ a w e hc h aR hR ht iS iw he
  simp only[comp]at hc
  obtain⟨ax,e1,rfl⟩:=aT.1 hc
  simp only[kj]at ht
  simp only[exec]at he
  refine aup (fun m a1 w1=>∃G1 cX,At P B0 w0 G1 k nl cX.sig w1∧bD k nl G G1∧cX.sig.loops.length=nl∧eE G1 k nl cX.tmps a1∧a1.tmps.size=a.tmps.size∧Defs rd base G1 k a1∧lR (exec call lf ax) m cX=some (e,aQ))
   (m:=lf) ⟨G,st,h,.refl _ _ _,aR,hR,rfl,iw,he⟩ fun m a1 w1 hD=>?_
  obtain⟨G1,cX,g1,g2,g3,g4,g5,g6,hl⟩:=hD
  cases m with
  |zero=>simp[lR]at hl
  | succ m =>
   simp only[lR]at hl
   split at hl
   ·rename_i rK hx
    refine wpIn_mono (ih ax G1 cX rK a1 w1 .normal e1 g1 g3 g4 (by rw[g5];exact ht) (iS.mono g2) g6 hx) fun ex a2 w2 hp=>?_
    obtain⟨rfl,G2,q1,q2,q3,q4,q5,q6⟩:=hp
    exact⟨m,by omega,G2,rK,q1,g2.trans q2,q3,q4,q5.trans g5,q6,hl⟩
   ·rename_i aD
    refine wpIn_mono (ih ax G1 cX aQ a1 w1 e e1 g1 g3 g4 (by rw[g5];exact ht) (iS.mono g2) g6 hl) fun ex a2 w2 hp=>?_
    have hx:=hp.1
    subst hx
    cases e with
    |normal=>exact absurd hl (aD _)
    |exit j=>exact hp.trans g2 g5
    |ret=>exact hp.trans g2 g5
 |rangeFunc f ps x y GO KR=>
  intro ac G st aQ a w e hc h aR hR ht iS iw he
  simp only[comp]at hc
  split at hc
  case h_2=>cases hc
  rename_i z ax ay e0 e1 e2
  injection hc with hc
  subst hc
  simp only[kj,dB]at ht
  exact asi dx h aR hR iS iw e0 e1 e2 (fun p hp=>by simpa using j6.1 ht.1.1 p hp) ht.1.2 ht.2 he
 |exit id=>
  intro ac G st aQ a w e hc h aR hR ht iS iw he
  simp only[comp]at hc
  injection hc with hc
  subst hc
  simp only[exec]at he
  injection he with he
  injection he with h1 h2
  subst h1 h2
  exact wpIn_exit ⟨rfl,G,h,.refl _ _ _,aR,hR,rfl,iw⟩
 |ret=>
  intro ac G st aQ a w e hc h aR hR ht iS iw he
  simp only[comp]at hc
  injection hc with hc
  subst hc
  simp only[exec]at he
  injection he with he
  injection he with h1 h2
  subst h1 h2
  exact wpIn_ret ⟨rfl,G,h,.refl _ _ _,aR,hR,rfl,iw⟩
 |_=>
  intro ac G st aQ a w e hc
  simp[comp]at hc
end
end Go.Ax
/-
  What an execution may not write to.
-/
namespace Go.Ax
open Go.RowKit
theorem Fr.refl (s:ae):Fr s s:=⟨rfl,rfl,rfl,rfl,fun _ _=>rfl,fun _ _=>rfl⟩
theorem Fr.trans {a b c:ae} (h:Fr a b) (k:Fr b c):Fr a c:=
 ⟨k.yn.trans h.yn,k.jX.trans h.jX,k.ro.trans h.ro,k.bt.trans h.bt,fun d hd=>(k.ag d (by rw[h.ro];exact hd)).trans (h.ag d hd),fun l hl=>(k.loops l (by rw[h.bt];exact hl)).trans (h.loops l hl)⟩
theorem Fr.bu (s:ae) {d:Nat} (hd:s.ro≤d) (f:Rec→Rec):Fr s (s.bu d f):=
 ⟨by simp[ae.bu],rfl,rfl,rfl,fun d' h=>by simp only[ae.bu,dT];rw[aq (by omega)],fun _ _=>rfl⟩
theorem Fr.fit {m m':ae} {d:Nat} {x y:AV} (hd:m.ro≤d) (hc:m.ro≤m.cur) (h:m.fit d x=some (y,m')):Fr m m':=by
 unfold ae.fit at h
 split at h
 ·split at h
  ·injection h with h;injection h with _ h;subst h;exact .refl _
  ·split at h
   ·rename_i d' g es xs _ br
    injection h with h
    injection h with _ h
    subst h
    have h1:Fr m (m.mJ d' g none):=Fr.bu m (by rw[br.1];exact hc) _
    exact h1.trans (Fr.bu _ (by rw[h1.ro];exact hd) _)
   ·injection h with h;injection h with _ h;subst h;exact .refl _
 ·split at h
  ·injection h with h;injection h with _ h;subst h;exact .refl _
  ·cases h
 ·split at h
  ·injection h with h;injection h with _ h;subst h;exact .refl _
  ·cases h
 ·obtain⟨z,_,h⟩:=aT.1 h
  injection h with _ h
  subst h
  exact .refl _
theorem Fr.cur {m m':ae} (h:Fr m m'):m'.cur=m.cur:=by simp[ae.cur,h.yn]
theorem Fr.fitAll {d:Nat}:∀{xs ys:List AV} {m m':ae},m.ro≤d→m.ro≤m.cur→m.fitAll d xs=some (ys,m')→Fr m m'
 |[],ys,m,m',_,_,h=>by
  simp only[ae.fitAll]at h
  injection h with h
  injection h with _ h
  subst h
  exact .refl _
 | x :: r, ys, m, m', hd, hc, h => by
  simp only[ae.fitAll]at h
  split at h
  ·cases h
  ·rename_i y m1 h1
   have f1:=Fr.fit hd hc h1
   split at h
   ·cases h
   ·rename_i s m2 h2
    injection h with h
    injection h with _ h
    subst h
    exact f1.trans (Fr.fitAll (by rw[f1.ro];exact hd) (by rw[f1.ro,f1.cur];exact hc) h2)
theorem Fr.store {m m':ae} {n:Nat} {x y:AV} (hc:m.ro≤m.cur) (h:m.store n x y=some m'):Fr m m':=by
 unfold ae.store at h
 split at h
 ·split at h
  ·rename_i br
   split at h
   ·cases h
   ·rename_i cs m1 h1
    have f1:Fr m m1:=by
     split at h1
     ·injection h1 with h1;injection h1 with _ h1;subst h1;exact .refl _
     ·exact Fr.fitAll br.1 hc h1
    split at h
    ·cases h
    ·split at h
     ·injection h with h
      subst h
      exact f1.trans (Fr.bu _ (by rw[f1.ro];exact br.1) _)
     ·cases h
  ·cases h
 ·cases h
theorem Fr.dK {m:ae} (hc:m.ro≤m.cur) (cs:List AV):Fr m (m.dK cs).2:=Fr.bu m hc _
theorem Fr.append {m m':ae} {es:Nat} {x y v:AV} (hc:m.ro≤m.cur) (h:eI m es x y=some (v,m')):Fr m m':=by
 unfold eI at h
 split at h
 ·split at h
  ·injection h with h;injection h with _ h;subst h;exact .refl _
  ·split at h
   ·split at h
    ·injection h with h;injection h with _ h;subst h;exact Fr.bu m hc _
    ·injection h with h;injection h with _ h;subst h;exact Fr.bu m hc _
    ·split at h
     ·rename_i br
      injection h with h;injection h with _ h;subst h;exact Fr.bu m br.1 _
     ·cases h
    ·cases h
   ·cases h
 ·cases h
theorem Fr.wA {m m':ae} {es:Nat} {x y v:AV} (hc:m.ro≤m.cur) (h:wB m es x y=some (v,m')):Fr m m':=by
 unfold wB at h
 split at h
 ·split at h
  ·split at h
   ·injection h with h;injection h with _ h;subst h;exact .refl _
   ·injection h with h;injection h with _ h;subst h;exact .refl _
   ·cases h
  ·split at h
   ·split at h
    ·split at h
     ·injection h with h;injection h with _ h;subst h;exact Fr.dK hc _
     ·cases h
    ·split at h
     ·split at h
      ·split at h
       ·injection h with h;injection h with _ h;subst h;exact Fr.bu m hc _
       ·cases h
      ·cases h
     ·cases h
    ·cases h
   ·cases h
 ·cases h
theorem Fr.wz {m m':ae} {es:Nat} {x y v:AV} (hc:m.ro≤m.cur) (h:yo m es x y=some (v,m')):Fr m m':=by
 unfold yo at h
 split at h
 ·split at h
  ·cases h
  ·split at h
   ·injection h with h;injection h with _ h;subst h;exact Fr.dK hc _
   ·exact Fr.wA hc h
 ·cases h
theorem Fr.copy {m m':ae} {x y v:AV} (hc:m.ro≤m.cur) (h:Bo m x y=some (v,m')):Fr m m':=by
 unfold Bo at h
 split at h
 ·obtain⟨_,_,h⟩:=aT.1 h
  injection h with _ h
  subst h
  exact .refl _
 ·split at h
  ·obtain⟨_,_,h⟩:=dj.1 h
   split at h
   ·injection h with h;injection h with _ h;subst h;exact .refl _
   ·obtain⟨_,hs,h⟩:=aT.1 h
    injection h with _ h
    subst h
    exact Fr.store hc hs
  ·cases h
 ·cases h
theorem Fr.freeze {m m':ae} {x v:AV} (hc:m.ro≤m.cur) (h:Bx m x=some (v,m')):Fr m m':=by
 unfold Bx at h
 split at h
 ·split at h
  ·obtain⟨_,_,h⟩:=dj.1 h
   split at h
   ·cases h
   ·split at h
    ·obtain⟨_,_,h⟩:=aT.1 h
     injection h with _ h
     subst h
     exact Fr.bu m hc _
    ·cases h
  ·cases h
 ·injection h with h;injection h with _ h;subst h;exact .refl _
 ·cases h
theorem Fr.yE {m m':ae} {es:Nat} {row:List AV} {x v:AV} (hc:m.ro≤m.cur) (h:yF m es row x=some (v,m')):Fr m m':=by
 unfold yF at h
 obtain⟨p,h1,h⟩:=dj.1 h
 obtain⟨_,_,h⟩:=aT.1 h
 injection h with _ h
 subst h
 exact Fr.freeze hc h1
theorem Fr.rU {m m':ae} {es:Nat} {x y h0 v:AV} (h:qI m es x y h0=some (v,m')):Fr m m':=by
 unfold qI at h
 split at h
 ·obtain⟨p,_,h⟩:=dj.1 h
  split at h
  ·split at h
   ·injection h with h;injection h with _ h;subst h;exact .refl _
   ·injection h with h;injection h with _ h;subst h;exact .refl _
   ·cases h
  ·split at h
   ·rename_i br
    split at h
    ·split at h
     ·injection h with h;injection h with _ h;subst h;exact Fr.bu m br.1 _
     ·cases h
    ·split at h
     ·split at h
      ·split at h
       ·injection h with h;injection h with _ h;subst h;exact Fr.bu m br.1 _
       ·cases h
      ·cases h
     ·cases h
    ·cases h
   ·cases h
 ·cases h
theorem Fr.sV {m m':ae} {es:Nat} {y v:AV} (hc:m.ro≤m.cur) (h:rH m es y=some (v,m')):Fr m m':=by
 unfold rH at h
 split at h
 ·injection h with h;injection h with _ h;subst h;exact Fr.dK hc _
 ·cases h
theorem Fr.clear {m m':ae} {zs:List AV} {y v:AV} (hc:m.ro≤m.cur) (h:wT m zs y=some (v,m')):Fr m m':=by
 unfold wT at h
 split at h
 ·split at h
  ·injection h with h;injection h with _ h;subst h;exact .refl _
  ·cases h
 ·split at h
  ·injection h with h;injection h with _ h;subst h;exact .refl _
  ·split at h
   ·obtain⟨_,hs,h⟩:=aT.1 h
    injection h with _ h
    subst h
    exact Fr.store hc hs
   ·cases h
 ·cases h
theorem Fr.dN {call:aZ} (bq:ie call) {ro:Bool} {m m':ae} {t:Target} {args:List AV} {v:AV} (h1:m.ro≤m.ag.length) (h2:m.bt≤m.loops.length) (h:dN call ro m t args=some (v,m')):Fr m m':=by
 unfold Ax.dN at h
 split at h
 ·obtain⟨p,_,h⟩:=aT.1 h
  injection h with _ h
  subst h
  exact .refl _
 ·exact bq _ _ _ _ _ h1 h2 h
theorem Fr.aN {call:aZ} (bq:ie call) {ρ:aF→AV} {m m':ae} {op:ck} {v:AV} (h0:0<m.ag.length) (hc:m.ro≤m.cur) (h2:m.bt≤m.loops.length) (h:aN call ρ m op=some (v,m')):Fr m m':=by
 have h1:m.ro≤m.ag.length:=by unfold ae.cur at hc;omega
 have mp:∀{o:Option AV},o.map (·,m)=some (v,m')→Fr m m':=fun e=>by
  obtain⟨_,q⟩:=lh e
  simp only at q
  subst q
  exact .refl _
 cases op<;>simp only[Ax.aN]at h<;>first
  |exact mp h
  |(injection h with h;injection h with _ h;subst h;first|exact .refl _|exact Fr.dK hc _;done)
  |exact Fr.dN bq h1 h2 h
  |exact Fr.append hc h
  |exact Fr.wA hc h
  |exact Fr.wz hc h
  |exact Fr.copy hc h
  |exact Fr.yE hc h
  |exact Fr.rU h
  |exact Fr.sV hc h
  |exact Fr.clear hc h
  |skip
 case box n x=>
  unfold yD at h
  split at h
  ·injection h with h
   have:=Fr.dK hc (ρ x).cells
   rw[h]at this
   exact this
  ·cases h
 case build=>obtain⟨_,_,h⟩:=aT.1 h;injection h with _ h;subst h;exact .refl _
 case buildSlice=>obtain⟨_,_,h⟩:=aT.1 h;injection h with _ h;subst h;exact .refl _
 case store=>
  obtain⟨_,hs,h⟩:=aT.1 h
  injection h with _ h
  subst h
  exact Fr.store hc hs
 case eqv=>obtain⟨_,_,h⟩:=aT.1 h;injection h with _ h;subst h;exact .refl _
 case oL=>
  split at h
  ·injection h with h;injection h with _ h;subst h;exact .refl _
  ·cases h
 case Cm=>
  unfold G9 at h
  obtain⟨_,_,h⟩:=dj.1 h
  obtain⟨_,_,h⟩:=dj.1 h
  split at h
  ·cases h
  ·injection h with h;injection h with _ h;subst h;exact Fr.dK hc _
 case mkSlice=>
  unfold Cl at h
  obtain⟨_,_,h⟩:=dj.1 h
  obtain⟨_,_,h⟩:=aT.1 h
  split at h
  ·injection h with _ h
   subst h
   exact .refl _
  ·injection h with _ h
   subst h
   exact Fr.dK hc _
 case alloc zs=>
  split at h
  ·cases h
  ·injection h with h
   have:=Fr.dK hc zs
   rw[h]at this
   exact this
 case l3 n=>
  injection h with h
  injection h with _ h
  subst h
  exact Fr.bu m hc _
 case fill=>
  obtain⟨_,hs,h⟩:=aT.1 h
  injection h with _ h
  subst h
  unfold yV at hs
  split at hs
  ·split at hs
   ·exact Fr.store hc hs
   ·cases hs
  ·cases hs
 case slot back zs=>
  obtain⟨_,_,_,rfl⟩:=Hq h
  exact Fr.bu m hc _
 case r8=>exact Fr.dN bq h1 h2 (OH h)
 case tz=>
  unfold nA at h
  split at h
  ·split at h
   ·rename_i br
    injection h with h
    injection h with _ h
    subst h
    exact Fr.bu m hc _
   ·injection h with h
    injection h with _ h
    subst h
    exact .refl _
  ·cases h
  ·exact mp h
  ·cases h
 case tu=>
  unfold l9 at h
  split at h
  ·split at h
   ·obtain⟨_,_,h⟩:=dj.1 h
    split at h
    ·obtain⟨_,_,h⟩:=aT.1 h
     injection h with _ h
     subst h
     exact Fr.dK hc _
    ·cases h
   ·exact mp h
  ·cases h
  ·exact mp h
  ·cases h
 case qK=>
  have:=Vq h
  exact Fr.dN bq h1 h2 this
 case kB=>
  unfold mc at h
  split at h
  ·exact Fr.dN bq h1 h2 h
  ·exact Fr.dN bq h1 h2 h
  ·cases h
structure Open (s:ae):Prop where
 pos:0<s.ag.length
 cur:s.ro≤s.cur
 loops:s.bt≤s.loops.length
theorem Open.fr {s s':ae} (h:Open s) (f:Fr s s'):Open s':=⟨by rw[f.yn];exact h.pos,by rw[f.ro,f.cur];exact h.cur,by rw[f.bt,f.jX];exact h.loops⟩
theorem Fr.ops {call:aZ} (bq:ie call):∀{l:List bC} {st aQ:St},Open st.sig→ops call l st=some aQ→Fr st.sig aQ.sig
 |[],st,aQ,_,h=>by
  simp only[Ax.ops]at h
  injection h with h
  subst h
  exact .refl _
 | o :: r, st, aQ, cd, h => by
  rw[Ry]at h
  obtain⟨cX,h1,h2⟩:=dj.1 h
  have f1:Fr st.sig cX.sig:=by
   unfold rL at h1
   split at h1
   ·split at h1
    ·rename_i hv
     injection h1 with h1
     subst h1
     exact Fr.aN bq cd.pos cd.cur cd.loops hv
    ·cases h1
   ·injection h1 with h1
    subst h1
    exact .refl _
  exact f1.trans (Fr.ops bq (cd.fr f1) h2)
theorem Fr.lR {f:St→Option (cM×St)} (hf:∀st e aQ,Open st.sig→f st=some (e,aQ)→Fr st.sig aQ.sig):∀{m:Nat} {st:St} {e:cM} {aQ:St},Open st.sig→lR f m st=some (e,aQ)→Fr st.sig aQ.sig
 |0,_,_,_,_,h=>by simp[Ax.lR]at h
 | m + 1, st, e, aQ, cd, h => by
  simp only[Ax.lR]at h
  split at h
  ·rename_i cX h1
   have f1:=hf _ _ _ cd h1
   exact f1.trans (Fr.lR hf (cd.fr f1) h)
  ·exact hf _ _ _ cd h
theorem Fr.exec {call:aZ} (bq:ie call) {lf:Nat}:∀{c:aw} {st:St} {e:cM} {aQ:St},Open st.sig→exec call lf c st=some (e,aQ)→Fr st.sig aQ.sig:=by
 intro c
 induction c with
 |skip=>intro st e aQ _ h;simp only[Ax.exec]at h;injection h with h;injection h with _ h;subst h;exact .refl _
 |exit=>intro st e aQ _ h;simp only[Ax.exec]at h;injection h with h;injection h with _ h;subst h;exact .refl _
 |ret=>intro st e aQ _ h;simp only[Ax.exec]at h;injection h with h;injection h with _ h;subst h;exact .refl _
 |region d l=>
  intro st e aQ cd h
  simp only[Ax.exec]at h
  obtain⟨cX,h1,h⟩:=aT.1 h
  injection h with _ h
  subst h
  exact Fr.ops bq cd h1
 | seq a b vF zH =>
  intro st e aQ cd h
  simp only[Ax.exec]at h
  split at h
  ·rename_i cX h1
   have f1:=vF cd h1
   exact f1.trans (zH (cd.fr f1) h)
  ·exact vF cd h
 | cond c a b vF zH =>
  intro st e aQ cd h
  simp only[Ax.exec]at h
  split at h
  ·split at h
   ·exact vF cd h
   ·exact zH cd h
  ·cases h
 | block id a ih =>
  intro st e aQ cd h
  simp only[Ax.exec]at h
  split at h
  ·rename_i j cX h1
   have f1:=ih cd h1
   split at h
   ·injection h with h;injection h with _ h;subst h;exact f1
   ·injection h with h;injection h with _ h;subst h;exact f1
  ·exact ih cd h
 |loop a ih=>
  intro st e aQ cd h
  simp only[Ax.exec]at h
  exact Fr.lR (fun st e aQ h1 h2=>ih h1 h2) cd h
 | rangeFunc f ps a b _ _ =>
  intro st e aQ cd h
  simp only[Ax.exec]at h
  split at h
  case h_2=>cases h
  split at h
  case h_2=>cases h
  rename_i res s hc
  split at h
  case h_2=>cases h
  rename_i pe s1 da
  injection h with h
  injection h with _ h
  subst h
  have f1:=bq _ _ _ _ _ (by have:=cd.cur;unfold ae.cur at this;have:=cd.pos;simp[enterLoop];omega) (by have:=cd.loops;simp[enterLoop];omega) hc
  unfold xN at da
  split at da
  ·rename_i hlen
   split at da
   ·split at da
    ·injection da with da
     injection da with _ da
     subst da
     refine⟨f1.yn,by simp[hlen],f1.ro,f1.bt,fun d hd=>f1.ag d hd,fun l hl=>?_⟩
     have:=f1.loops l hl
     have pn:l<st.sig.loops.length:=by have:=cd.loops;omega
     simp only[enterLoop]at this
     rw[dM pn]at this
     show(s.loops.take st.sig.loops.length)[l]? =_
     rw[yc,ak pn]
     exact this
    ·cases da
   ·cases da
  ·cases da
theorem Fr.finish {rs:List iF} {own:Bool} {s0:ae} {r0:Rec} {st:St} {x:AV} {s':ae} (h0:s0.ro≤s0.ag.length) (f:Fr (s0.push r0) st.sig) (h:finish rs own st=some (x,s')):Fr s0 s':=by
 have hlen:st.sig.ag.length=s0.ag.length+1:=by rw[f.yn];simp[ae.push]
 have hp:Fr s0 st.sig.pop:=by
  refine⟨by simp[ae.pop,hlen],f.jX,f.ro,f.bt,fun d hd=>?_,f.loops⟩
  have tO:d<s0.ag.length:=by omega
  simp only[ae.pop,wZ hlen]
  rw[ak tO,f.ag d hd]
  simp only[ae.push]
  exact dM tO
 unfold Ax.finish at h
 split at h
 ·split at h
  ·obtain⟨x0,_,h⟩:=dj.1 h
   unfold kI at h
   split at h
   ·split at h
    ·rename_i br
     injection h with h
     injection h with _ h
     subst h
     refine hp.trans (Fr.bu _ ?_ _)
     rw[hp.ro]
     have:=br.2.2.1
     rw[f.ro]at this
     simp only[ae.push]at this
     omega
    ·injection h with h;injection h with _ h;subst h;exact hp
   ·split at h
    ·rename_i br
     obtain⟨cs,_,h⟩:=dj.1 h
     split at h
     case isFalse=>cases h
     obtain⟨y,_,h⟩:=aT.1 h
     injection h with _ h
     subst h
     refine hp.trans (Fr.bu _ ?_ _)
     rw[hp.ro]
     have:=br.2.2.1
     rw[f.ro]at this
     simp only[ae.push]at this
     omega
    ·obtain⟨y,_,h⟩:=aT.1 h
     injection h with _ h
     subst h
     exact hp
   ·obtain⟨y,_,h⟩:=aT.1 h
    injection h with _ h
    subst h
    exact hp
  ·cases h
 ·obtain⟨l,_,h⟩:=aT.1 h
  injection h with _ h
  subst h
  exact hp
theorem Open.push {s:ae} (h1:s.ro≤s.ag.length) (h2:s.bt≤s.loops.length) (r:Rec):Open (s.push r):=
 ⟨by simp[ae.push],by simp[ae.push,ae.cur];exact h1,h2⟩
theorem Fr.ek (s:ae) {l:Nat} (hl:s.bt≤l) (f:dq→dq):Fr s (ek s l f):=
 ⟨rfl,by simp[Ax.ek],rfl,rfl,fun _ _=>rfl,fun l' h=>by simp only[Ax.ek,dT];rw[aq (by omega)]⟩
theorem Fr.aaE {s0 s:ae} {r0:Rec} (h0:s0.ro≤s0.ag.length) (f:Fr (s0.push r0) s):Fr s0 s.pop:=by
 have hlen:s.ag.length=s0.ag.length+1:=by rw[f.yn];simp[ae.push]
 refine⟨by simp[ae.pop,hlen],f.jX,f.ro,f.bt,fun d hd=>?_,f.loops⟩
 have tO:d<s0.ag.length:=by omega
 simp only[ae.pop,wZ hlen]
 rw[ak tO,f.ag d hd]
 simp only[ae.push]
 exact dM tO
theorem ie.step {AP:FuncId→Option aJ} {call:aZ} (bq:ie call) (lf:Nat):ie (jd AP call lf):=by
 intro t args s x s' h1 h2 h
 unfold jd at h
 cases t with
 | fn f =>
  simp only at h
  split at h
  ·split at h
   ·split at h
    ·rename_i st he
     exact Fr.finish h1 (Fr.exec bq (Open.push h1 h2 _) he) h
    ·rename_i st he
     exact Fr.finish h1 (Fr.exec bq (Open.push h1 h2 _) he) h
    ·cases h
   ·cases h
  ·obtain⟨as,_,h⟩:=dj.1 h
   obtain⟨z,_,h⟩:=aT.1 h
   injection h with _ h
   subst h
   exact .refl _
  ·cases h
 | inl f =>
  simp only at h
  split at h
  ·split at h
   ·rename_i br
    have ho:Open s:=⟨by omega,by have:=br.2;unfold ae.cur;omega,h2⟩
    split at h
    ·rename_i st he
     obtain⟨l,_,h⟩:=aT.1 h
     injection h with _ h
     subst h
     exact Fr.exec bq ho he
    ·rename_i st he
     obtain⟨l,_,h⟩:=aT.1 h
     injection h with _ h
     subst h
     exact Fr.exec bq ho he
    ·cases h
   ·cases h
  ·cases h
 | nat f =>
  simp only at h
  split at h
  ·obtain⟨as,_,h⟩:=dj.1 h
   obtain⟨z,_,h⟩:=aT.1 h
   injection h with _ h
   subst h
   exact .refl _
  ·cases h
 | yield l =>
  simp only at h
  split at h
  case h_2=>cases h
  split at h
  case isFalse=>cases h
  rename_i br
  split at h
  case h_2=>cases h
  rename_i st he
  have f1:=Fr.exec bq (Open.push h1 h2 _) he
  have hl:st.sig.bt≤l:=by rw[f1.bt];exact br.2.1
  have f2:=f1.trans (Fr.ek st.sig hl fun p=>{p with ready:=false})
  have Z7:=(Open.push h1 h2 ⟨[],[]⟩).fr f2
  split at h
  case isFalse=>cases h
  split at h
  ·rename_i aQ hb
   injection h with h
   injection h with _ h
   subst h
   have f3:=f2.trans (Fr.exec bq Z7 hb)
   exact Fr.aaE h1 (f3.trans (Fr.ek _ (by rw[f3.bt];exact br.2.1) _))
  ·rename_i e aQ _ hb
   injection h with h
   injection h with _ h
   subst h
   have f3:=f2.trans (Fr.exec bq Z7 hb)
   exact Fr.aaE h1 (f3.trans (Fr.ek _ (by rw[f3.bt];exact br.2.1) _))
  ·cases h
end Go.Ax
/-
  Calls.
-/
namespace Go.Ax
open Go.RowKit
def H3 (P:Program) (K:World→Prop) (f:FuncId) (F:List AV→Option AV):Prop:=
 ∀ (I : gn) (w : World) (as : List AV) (xs : Array Value) (r : AV), K w → (∀ b i v, I b i = some v → w.cell? ⟨b, i, none⟩ = some v) → xs.size = as.length → (∀ i (hi : i < as.length), bL I as[i] (xs.getD i Go.undef)) → F as = some r →
  Calls P f xs w fun e w'=>∃z I',e=.returned z∧(∀b i v,I b i=some v→I' b i=some v)∧(∀b i v,I' b i=some v→I b i=some v∨w.heap.size≤b)∧(∀b i v,I' b i=some v→w'.cell? ⟨b,i,none⟩=some v)∧
   Below w.heap.size w w'∧Ay I' r z
def TB (P:Program) (f:FuncId) (F:List AV→Option AV):Prop:=
 ∀(I:gn) (w:World) (as:List AV) (xs:Array Value) (r:AV),xs.size=as.length→(∀i (hi:i<as.length),bL I as[i] (xs.getD i Go.undef))→F as=some r→
  ∃z,(callFunc f xs).run P w=.ok (.value z) w∧Ay I r z
structure tm (P:Program) (AP:FuncId→Option aJ) (K:World→Prop):Prop where
 mixed:P.follows .mixedOrders=true
 code:∀f np nt b rs own,AP f=some (.code np nt b rs own)→∃fn mu,P.funcs[f]? =some fn∧aW P own mu fn=some (.code np nt b rs own)
 rG:∀f F,AP f=some (.rG F)→rP P f∧H3 P K f F
 nat:∀f F,AP f=some (.nat F)→TB P f F
theorem VT {P:Program} {own own':Bool} {mu:Mu} {fn:Func} {np nt:Nat} {b:aw} {rs:List iF} (h:aW P own mu fn=some (.code np nt b rs own')):
  ∃c,fn.body=some c∧(fn.name== "runtime.NumGoroutine")=false∧comp P mu c=some b∧fK (wW P) fn.results.toList=some rs∧np≤fn.ntmps∧kj fn.ntmps b=true∧own'=own:=by
 unfold aW at h
 split at h
 ·cases h
 ·rename_i Gp
  split at h
  ·cases h
  ·rename_i c hb
   split at h
   ·rename_i b' Sh e1 e2
    split at h
    ·rename_i br
     injection h with h
     injection h with h1 h2 h3 h4 h5
     subst h1 h2 h3 h4 h5
     exact⟨c,hb,by simpa using Gp,e1,e2,br.1,br.2,rfl⟩
    ·cases h
   ·cases h
section
variable{P:Program} {B0:Nat} {w0:World} {G:aG} {k nl:Nat} {w:World} {s:ae}
theorem Rd {G:aG} {n:Nat} {fn:Func} {tmps:Array Value} {R:Ending→World→Prop}:∀(bs:List Nat) (w:World),At P B0 w0 G k nl s w→(∀b,b∈bs→B0≤b∧G.own b=none∧w.heap[b]? =some (.deferred (some [])))→bs.Nodup→
  (∀ w', At P B0 w0 G k nl s w' → ∃ v, (results fn tmps).run P w' = .ok v w' ∧ R (.returned v) w') → LeavesInM Fence.wide n P fn tmps R (bs.map fun b => (⟨.collected b, #[]⟩ : Deferred)) .returning w
 |[],w,h,_,_,hR=>hR w h
 |b::r,w,h,hb,hn,hR=>by
  obtain⟨h1,h2,h3⟩:=hb b (by simp)
  have jl:=List.nodup_cons.1 hn
  refine⟨by simp,.inl ⟨b,w.putObj b (.deferred none),rfl,run_takeDeferred h3,?_⟩⟩
  refine Rd r _ (arU h h1 h2 h3 (fun a t f e=>by cases e)) (fun c hc=>?_) jl.2 hR
  obtain⟨c1,c2,c3⟩:=hb c (by simp[hc])
  refine⟨c1,c2,?_⟩
  rw[World.putObj_heap_other (fun e=>jl.1 (by rw[←e];exact hc))]
  exact c3
theorem ZE (h:cE P B0 w0 G s w) {r:Rec} {gr:cN} {d:Nat} (hr:s.ag[d]? =some r) (hg:G.ag[d]? =some gr):gr.marks.Nodup:=by
 rw[List.nodup_iff_pairwise_ne,CQ]
 intro i j hi hj aC e
 have h1:=((h.cT d r gr hr hg).mark i _ (cY hi)).2.1
 have h2:=((h.cT d r gr hr hg).mark j _ (cY hj)).2.1
 rw[e,h2]at h1
 injection h1 with h1
 injection h1 with _ h1
 omega
theorem MJ:∀(args:List AV) (t:Nat),jQ args t=if h:t<args.length then args[t]else AV.undef
 |[],t=>by simp[jQ]
 |x::r,0=>by simp[jQ]
 |x::r,t+1=>by
  simp only[jQ,MJ r t,eo,HJ]
  split<;>split<;>first|rfl|omega
theorem Vo (h:cE P B0 w0 G s w) {kc nlc:Nat} {G1 G2:aG} {s':ae} {w':World} {x:AV} {z:Value} (hk:s.ag.length≤kc+1) (h1:bD s.ag.length s.loops.length (G.kJ s.loops.length) G1) (h2:cE P B0 w0 G2 s' w') (h3:s'.ag.length=s.ag.length)
  (h4:s'.loops.length=s.loops.length) (h5:∀b i v,G1.I b i=some v→G2.I b i=some v) (h6:∀d gr,d<s.ag.length→G1.ag[d]? =some gr→∃bI,G2.ag[d]? =some bI∧jc gr bI∧bI.marks=gr.marks)
  (h7:∀l r:Nat,G1.loops[l]? =some r→G2.loops[l]? =some r) (h8:Rel G2 kc nlc x z):n5 P B0 w0 G kc nlc s s' w' x z:=by
 refine⟨G2,h2,h3,h4,⟨fun b i v e=>h5 b i v (h1.I b i v e),fun d gr hd e=>?_,fun l r hl e=>h7 l r (h1.loops l r hl e)⟩,h8⟩
 have aC:d<s.ag.length:=by have:=(bd.1 e).1;rw[h.len]at this;exact this
 obtain⟨g1,a1,a2,a3⟩:=h1.ag d gr (by omega) (mQ e)
 obtain⟨g2,b1,b2,b3⟩:=h6 d g1 aC a1
 exact⟨g2,b1,a2.trans b2,fun _=>b3.trans (a3 aC)⟩
theorem VR {AP:FuncId→Option aJ} {K:World→Prop} (hp:tm P AP K) {call:aZ} (dx:lr P B0 w0 call) (fm:n7 P B0 w0 call) (bq:ie call) {lf:Nat} {kc nlc:Nat} {f:FuncId} {np nt:Nat} {b:aw} {rs:List iF} {own:Bool} {args:List AV} {xs:Array Value} {x:AV} {s':ae}
  (oz:AP f=some (.code np nt b rs own)) (h:cE P B0 w0 G s w) (nM:s.ag.length≤kc+1) (iP:kc≤s.ag.length) (lM:nlc≤s.loops.length) (hl:xs.size=args.length) (hR:∀i (hi:i<args.length),Rel G kc nlc args[i] (xs.getD i Go.undef))
  {e:cM} {st:St} (hlen:args.length=np) (he:exec call lf b ⟨jQ args,s.push ⟨[],[]⟩⟩=some (e,st)) (hn:e=.normal∨e=.ret) (hf:finish rs own st=some (x,s')):
  rP P f∧Calls P f xs w fun e w'=>∃z,e=.returned z∧n5 P B0 w0 G kc nlc s s' w' x z:=by
 obtain⟨fn,mu,vl,dW⟩:=hp.code f np nt b rs own oz
 obtain⟨c,hb,Gp,Py,jW,hnp,QC,_⟩:=VT dW
 refine⟨⟨fn,c,vl,hb,Gp⟩,?_⟩
 refine(callsIn_wide (n:=0)).1 ?_
 have jh:=RR h
 have J7:=G.Lp s.loops.length
 have bV:(xs++Array.replicate (fn.ntmps-xs.size) Go.undef).size=fn.ntmps:=by simp;omega
 refine callsIn_of_wp_marks vl hb trivial (wpIn_mono (JM (rd:=none) (n:=0) (lf:=lf) (base:=[]) dx fm bq hp.mixed c b (G.kJ s.loops.length) ⟨jQ args,s.push ⟨[],[]⟩⟩ st ⟨xs++Array.replicate (fn.ntmps-xs.size) Go.undef,[]⟩ w e Py jh rfl (fun t=>?_) (by rw[bV];exact QC)
  (fun r e=>by cases e) (fun _=>⟨⟨[],[],s.loops.length,[],fun _=>none⟩,[],by simp[aG.kJ,←h.len],rfl,rfl⟩) he) fun ex a' w' pq=>?_)
 ·show Rel _ _ _ (jQ args t) ((xs++Array.replicate (fn.ntmps-xs.size) Go.undef).getD t Go.undef)
  rw[MJ,BA]
  split
  ·rename_i ht
   rw[ak (by omega)]
   exact(hR t ht).mono (J7 _ _) iP lM
  ·rename_i ht
   rw[aq (by omega)]
   have:(Array.replicate (fn.ntmps-xs.size) Go.undef).getD (t-xs.size) Go.undef=Go.undef:=by
    by_cases hq:t-xs.size<fn.ntmps-xs.size
    ·simp[Array.getD,hq]
    ·simp[Array.getD,hq]
   rw[this]
   exact .undef
 ·obtain⟨hex,G1,g1,g2,g3,g4,g5,g6⟩:=pq
  have PH:ex=.normal∨ex=.ret:=by rcases hn with rfl|rfl<;>simp[hex,Bt]
  obtain⟨r,gr,hr,hg⟩:=g1.cT (aH _)
  obtain⟨bI,new,e1,e3,e2⟩:=g6 rfl
  rw[hg]at e1
  injection e1 with e1
  subst e1
  rw[kq]at e3
  rw[←e3]at e2
  have Gh:LeavesInM Fence.wide 0 P fn a'.tmps (fun e w'=>∃z,e=.returned z∧n5 P B0 w0 G kc nlc s s' w' x z) a'.defers .returning w':=by
   rw[e2,←List.map_reverse]
   refine Rd (G:=G1.lC s.ag.length 0) gr.marks.reverse w' (Wh g1 0) (fun m hm=>?_) ((List.reverse_perm _).nodup_iff.2 (ZE g1.rel hr hg)) (fun w'' sg=>?_)
   ·obtain⟨i,hi,rfl⟩:=oe (List.mem_reverse.1 hm)
    have zn:=(g1.rel.cT _ r gr hr hg).mark i _ (cY hi)
    refine⟨zn.1,?_,zn.2.2⟩
    simp[aG.lC,zn.2.1]
   ·have F6:=G1.Bs s.ag.length s.loops.length 0 (aH _)
    obtain⟨z,G2,q1,q2,q3,q4,q5,q6,q7,q8⟩:=ag5 sg (a:=a') (g4.mono F6) g3 jW (kc:=kc) (nlc:=nlc) nM hf
    refine⟨z,q1,z,rfl,Vo h nM (g2.trans F6) q2 q3 (by rw[q4];exact g3) q5 q6 q7 q8⟩
  rcases PH with rfl|rfl
  ·exact Gh
  ·exact Gh
theorem aaU {st:St} {a:Act} (h:At P B0 w0 G k nl st.sig w) (hR:eE G k nl st.tmps a):∀{rs:List ResultVar} {qJ:List iF} {l:List AV},
  fK (wW P) rs=some qJ→ug st qJ=some l→∃vs:List Value,(rs.mapM (Cs a.tmps)).run P w=.ok vs w∧vs.length=l.length∧∀i (hi:i<l.length) (hj:i<vs.length),Rel G k nl l[i] vs[i]
 |[],qJ,l,hm,hr=>by
  simp only[fK]at hm
  injection hm with hm
  subst hm
  simp only[ug]at hr
  injection hr with hr
  subst hr
  exact⟨[],by simp,rfl,fun i hi=>absurd hi (df _)⟩
 | r :: rs, qJ, l, hm, hr => by
  simp only[fK]at hm
  split at hm
  ·rename_i ar TY e1 e2
   injection hm with hm
   subst hm
   simp only[ug]at hr
   split at hr
   ·rename_i x l' f1 f2
    injection hr with hr
    subst hr
    obtain⟨z,r1,r2⟩:=R3 h hR e1 f1
    obtain⟨vs,v1,v2,v3⟩:=aaU h hR e2 f2
    refine⟨z::vs,?_,by simp[v2],fun i hi hj=>?_⟩
    ·simp only[Tj,Sem.run_bind,r1,Result.andThen_ok,v1,Sem.run_pure]
    ·cases i with
     |zero=>exact r2
     |succ i=>exact v3 i (by simpa using hi) (by simpa using hj)
   ·cases hr
  ·cases hm
theorem Y4 {AP:FuncId→Option aJ} {K:World→Prop} (hp:tm P AP K) {call:aZ} (dx:lr P B0 w0 call) (fm:n7 P B0 w0 call) (bq:ie call) {lf:Nat} {f:FuncId} {np nt:Nat} {b:aw} {rs:List iF} {own:Bool} {args:List AV} {xs:Array Value}
  (oz:AP f=some (.code np nt b rs own)) (h:At P B0 w0 G k nl s w) (aR:s.loops.length=nl) (hl:xs.size=args.length) (hR:∀i (hi:i<args.length),Rel G k nl args[i] (xs.getD i Go.undef))
  {e:cM} {st:St} (hlen:args.length=np) (he:exec call lf b ⟨jQ args,s⟩=some (e,st)) (hn:e=.normal∨e=.ret) {l:List AV} (hr:ug st rs=some l):
  rP P f∧Calls P f xs w fun e w'=>∃z,e=.returned z∧n5 P B0 w0 G k nl s st.sig w' (packed l) z:=by
 obtain⟨fn,mu,vl,dW⟩:=hp.code f np nt b rs own oz
 obtain⟨c,hb,Gp,Py,jW,hnp,QC,_⟩:=VT dW
 refine⟨⟨fn,c,vl,hb,Gp⟩,?_⟩
 refine(callsIn_wide (n:=0)).1 ?_
 have bV:(xs++Array.replicate (fn.ntmps-xs.size) Go.undef).size=fn.ntmps:=by simp;omega
 obtain⟨iN,qf,awc⟩:=h.cur
 refine callsIn_of_wp_marks vl hb trivial (wpIn_mono (JM (rd:=none) (n:=0) (lf:=lf) (base:=iN.marks) dx fm bq hp.mixed c b G ⟨jQ args,s⟩ st ⟨xs++Array.replicate (fn.ntmps-xs.size) Go.undef,[]⟩ w e Py h aR (fun t=>?_) (by rw[bV];exact QC)
  (fun r e=>by cases e) (fun _=>⟨iN,[],qf,by simp,rfl⟩) he) fun ex a' w' pq=>?_)
 ·show Rel _ _ _ (jQ args t) ((xs++Array.replicate (fn.ntmps-xs.size) Go.undef).getD t Go.undef)
  rw[MJ,BA]
  split
  ·rename_i ht
   rw[ak (by omega)]
   exact hR t ht
  ·rename_i ht
   rw[aq (by omega)]
   have:(Array.replicate (fn.ntmps-xs.size) Go.undef).getD (t-xs.size) Go.undef=Go.undef:=by
    by_cases hq:t-xs.size<fn.ntmps-xs.size
    ·simp[Array.getD,hq]
    ·simp[Array.getD,hq]
   rw[this]
   exact .undef
 ·obtain⟨hex,G1,g1,g2,g3,g4,g5,g6⟩:=pq
  have PH:ex=.normal∨ex=.ret:=by rcases hn with rfl|rfl<;>simp[hex,Bt]
  obtain⟨r,gr,jA,hg⟩:=g1.cT (aH _)
  obtain⟨bI,new,e1,e3,e2⟩:=g6 rfl
  rw[hg]at e1
  injection e1 with e1
  subst e1
  have F6:=fun{k'} (hk:k'≤k)=>G1.Bs k nl iN.marks.length hk
  have hle:bD (k+1) s.loops.length G (G1.lC k iN.marks.length):=by
   refine⟨fun b i v e=>g2.I b i v e,fun d gq hd e=>?_,fun l r hl e=>g2.loops l r (by omega) e⟩
   have eV:d<k+1:=by
    have:=(bd.1 e).1
    rw[h.rel.len,h.len]at this;exact this
   obtain⟨g1',c1,c2,c3⟩:=g2.ag d gq (by omega) e
   by_cases ai9:d=k
   ·subst ai9
    rw[hg]at c1
    injection c1 with c1
    subst c1
    rw[qf]at e
    injection e with e
    subst e
    refine⟨{gr with marks:=gr.marks.take iN.marks.length},by simp[aG.lC,hg],⟨c2.bl,c2.tk,c2.nl,c2.gs⟩,fun _=>?_⟩
    simp[e3]
   ·obtain⟨g2',c4,c5,c6⟩:=(F6 (aH _)).ag d g1' (by omega) c1
    exact⟨g2',c4,c2.trans c5,fun _=>(c6 (by omega)).trans (c3 (by omega))⟩
  have Gh:LeavesInM Fence.wide 0 P fn a'.tmps (fun e w'=>∃z,e=.returned z∧n5 P B0 w0 G k nl s st.sig w' (packed l) z) a'.defers .returning w':=by
   rw[e2,←List.map_reverse]
   refine Rd (G:=G1.lC k iN.marks.length) new.reverse w' (Wh g1 iN.marks.length) (fun m hm=>?_) ((List.reverse_perm _).nodup_iff.2 ?_) (fun w'' sg=>?_)
   ·obtain⟨i,hi,rfl⟩:=oe (List.mem_reverse.1 hm)
    have zn:=(g1.rel.cT _ r gr jA hg).mark (iN.marks.length+i) new[i] (by rw[e3,gO (by omega)];simp)
    refine⟨zn.1,?_,zn.2.2⟩
    simp[aG.lC,zn.2.1]
   ·have:=ZE g1.rel jA hg
    rw[e3]at this
    exact(List.nodup_append.1 this).2.1
   ·obtain⟨vs,v1,v2,v3⟩:=aaU sg (a:=a') (g4.mono (F6 (aH _))) jW hr
    exact⟨_,R4 v1,_,rfl,_,sg.rel,sg.len.trans h.len.symm,g3.trans aR.symm,hle,aat v2 v3⟩
  rcases PH with rfl|rfl
  ·exact Gh
  ·exact Gh
theorem arM {AP:FuncId→Option aJ} {K:World→Prop} (hp:tm P AP K) (hK:∀w,Below B0 w0 w→K w) {kc nlc:Nat} {f:FuncId} {F:List AV→Option AV} {args:List AV} {xs:Array Value} {x:AV} {s':ae}
  (oz:AP f=some (.rG F)) (h:cE P B0 w0 G s w) (hl:xs.size=args.length) (hR:∀i (hi:i<args.length),Rel G kc nlc args[i] (xs.getD i Go.undef)) (hc:((closeAll args).bind fun as=>(F as).map (·,s))=some (x,s')):
  rP P f∧Calls P f xs w fun e w'=>∃z,e=.returned z∧n5 P B0 w0 G kc nlc s s' w' x z:=by
 obtain⟨hb,ake⟩:=hp.rG f F oz
 refine⟨hb,?_⟩
 obtain⟨as,has,hc⟩:=dj.1 hc
 obtain⟨y,hy,hc⟩:=aT.1 hc
 injection hc with h1 h2
 subst h1 h2
 obtain⟨c1,c2⟩:=Jz has
 refine Calls.mono (ake G.I w as xs y (hK w h.below) h.ft (by rw[hl,c1]) (fun i hi=>(hR i (by omega)).close (c2 i (by omega) hi)) hy) fun e w' hq=>?_
 obtain⟨z,I',rfl,i1,i2,i3,i4,i5⟩:=hq
 refine⟨z,rfl,{G with I:=I'},?_,rfl,rfl,⟨i1,fun d gr _ e=>⟨gr,e,.refl gr,fun _=>rfl⟩,fun _ _ _ e=>e⟩,i5.rel⟩
 refine h.cU i1 rfl rfl (fun b o e _=>⟨e,i4.block b (h.eU b o e),fun i hi=>?_⟩) i3 (i4.mono h.low) (fun b o e=>l6 (h.eU b o e) i4.size)
 show I' b i=none
 cases hv:I' b i with
 |none=>rfl
 |some v=>
  rcases i2 b i v hv with nQ|nQ
  ·rw[hi]at nQ;cases nQ
  ·have:=h.eU b o e;omega
theorem abn:∀(ps:List Nat) (args:List AV) (vs:List Value) (ρ:Nat→AV) (t:Array Value),args.length=ps.length→vs.length=ps.length→(∀p,p∈ps→p<t.size)→(∀i (hi:i<args.length) (hj:i<vs.length),Rel G k nl args[i] vs[i])→
  (∀u,Rel G k nl (ρ u) (t.getD u Go.undef))→(∀u,Rel G k nl (uj ρ ps args u) (((ps.zip vs).foldl (fun(t:Array Value) (q:Nat×Value)=>t.setIfInBounds q.1 q.2) t).getD u Go.undef))∧((ps.zip vs).foldl (fun(t:Array Value) (q:Nat×Value)=>t.setIfInBounds q.1 q.2) t).size=t.size
 |[],args,vs,ρ,t,h1,h2,hp,hR,ht=>by
  cases args with
  |nil=>exact⟨by simpa[uj]using ht,by simp⟩
  |cons=>simp at h1
 |p::ps,[],vs,ρ,t,h1,h2,hp,hR,ht=>by simp at h1
 |p::ps,a::args,[],ρ,t,h1,h2,hp,hR,ht=>by simp at h2
 | p :: ps, a :: args, v :: vs, ρ, t, h1, h2, hp, hR, ht => by
  have h0:Rel G k nl a v:=hR 0 (by simp) (by simp)
  have Qk:∀u,Rel G k nl (put p a ρ u) ((t.setIfInBounds p v).getD u Go.undef):=by
   have:=eE.put (a:=⟨t,[]⟩) (dst:=some p) (fun u=>ht u) (fun q e=>by injection e with e;subst e;exact hp p (by simp)) h0
   exact fun u=>this u
  obtain⟨i1,i2⟩:=abn ps args vs (put p a ρ) (t.setIfInBounds p v) (by simpa using h1) (by simpa using h2) (fun q hq=>by simp;exact hp q (by simp[hq])) (fun i hi hj=>hR (i+1) (by simpa using hi) (by simpa using hj)) Qk
  exact⟨i1,by rw[List.zip_cons_cons,v8,i2];simp⟩
theorem pQ.LS {l:Nat} {lp nb:dq} {rc nj:Loop} (h:pQ P G l lp rc) (h1:nj.params=rc.params) (h2:nj.assign=rc.assign) (h3:nj.body=rc.body) (h4:nj.tmps=rc.tmps) (g1:nb.params=lp.params) (g2:nb.assign=lp.assign) (g3:nb.body=lp.body)
  (g4:nb.tmps=lp.tmps) (a1:nb.ready=true→nj.state=.ready∧nb.eG=none) (a2:nb.ready=false→nj.state=(if nb.eG.isSome then .done else .busy)) (a3:nj.pending=nb.eG.bind exitCode) (a4:nb.eG≠some .normal):pQ P G l nb nj:=by
 obtain⟨_,_,_,_,b5,⟨mu,b6,b7⟩,b8,b9,b10,k,nl,b11,b12,b14,b13⟩:=h
 exact⟨a1,a2,a3,a4,by rw[h1,g1];exact b5,⟨mu,by rw[h2,g2];exact b6,by rw[h3,g3];exact b7⟩,by rw[h4,g2];exact b8,by rw[h4,g3];exact b9,by rw[h4,g1];exact b10,k,nl,b11,b12,b14,by rw[h4,g4];exact b13⟩
theorem At.Zx (h:At P B0 w0 G k nl s w) (aR:s.loops.length=nl) {l r:Nat} (hl:l<nl) (hr:G.loops[l]? =some r):∃lp rc,s.loops[l]? =some lp∧w.heap[r]? =some (.loop rc)∧pQ P G l lp rc:=by
 have aC:l<s.loops.length:=by omega
 obtain⟨_,_,rc,h3,h4⟩:=h.rel.loop l _ r (cY aC) hr
 exact⟨_,rc,cY aC,h3,h4⟩
theorem At.turn (h:At P B0 w0 G k nl s w) {l r:Nat} {lp nb:dq} {rc nj:Loop} (hl:s.loops[l]? =some lp) (hr:G.loops[l]? =some r) (kX:w.heap[r]? =some (.loop rc)) {f:dq→dq} (hf:f lp=nb) (ho:pQ P G l nb nj):
  At P B0 w0 G k nl (ek s l f) (w.putObj r (.loop nj)):=
 ⟨ate h.rel hl hr kX hf ho,h.len,h.cur⟩
theorem aur {AP : FuncId → Option aJ} {K : World → Prop} (hp : tm P AP K) {call : aZ} (dx : lr P B0 w0 call) (fm : n7 P B0 w0 call) (bq : ie call) {lf : Nat} {kc nlc l r : Nat} {args : List AV} {xs : Array Value} {x : AV} {s' : ae}
    (h:cE P B0 w0 G s w) (nM:s.ag.length≤kc+1) (iP:kc≤s.ag.length) (lM:nlc≤s.loops.length) (aC:l<nlc) (lJ:G.loops[l]? =some r) (hl:xs.size=args.length) (hR:∀i (hi:i<args.length),Rel G kc nlc args[i] (xs.getD i Go.undef))
    (hc:jd AP call lf (.yield l) args s=some (x,s')):
    ∃ rc : Loop, w.heap[r]? = some (.loop rc) ∧ xs.size = rc.params.size ∧ ∀ n, RoundIn Fence.wide n P r rc.fn ((rc.params.zip xs).foldl (fun tmps (t, a) => tmps.setIfInBounds t a) rc.tmps) rc.assign rc.body w
      fun e w'=>∃z,e=.returned z∧n5 P B0 w0 G kc nlc s s' w' x z:=by
  unfold jd at hc
  simp only at hc
  split at hc
  case h_2=>cases hc
  rename_i lp sw
  split at hc
  case isFalse=>cases hc
  rename_i br
  obtain⟨Gy,_,qb⟩:=br
  split at hc
  case h_2=>cases hc
  rename_i st aiS
  split at hc
  case isFalse=>cases hc
  rename_i akk
  obtain⟨_,_,rc,kX,ajZ⟩:=h.loop l lp r sw lJ
  obtain⟨o1,o2,o3,o4,o5,⟨mu,o6,o7⟩,o8,o9,o10,k',gL,o11,o12,o14,o13⟩:=ajZ
  have cI:rc.params.size=lp.params.length:=by rw[←o5];simp
  refine⟨rc,kX,by rw[hl,qb,cI],fun n=>?_⟩
  have jh:=RR h
  have J7:=G.Lp s.loops.length
  have Gi:l<s.loops.length:=by omega
  have XZ:(G.kJ s.loops.length).loops[l]? =some r:=lJ
  have KF:yl (some r) (G.kJ s.loops.length) s.loops.length:=fun r' e=>by injection e with e;subst e;exact⟨l,Gi,XZ⟩
  have ajk:(rc.params.zip xs).foldl (fun(tmps:Array Value) (x:Tmp×Value)=>match x with|(t,a)=>tmps.setIfInBounds t a) rc.tmps=(lp.params.zip xs.toList).foldl (fun(t:Array Value) (q:Nat×Value)=>t.setIfInBounds q.1 q.2) rc.tmps:=by
    rw[←Array.foldl_toList,Array.toList_zip,o5]
  rw[ajk]
  obtain⟨p1,p2⟩:=abn (G:=G.kJ s.loops.length) (k:=s.ag.length) (nl:=s.loops.length) lp.params args xs.toList lp.tmps rc.tmps qb (by simp[hl,qb]) o10
    (fun i hi hj=>by
      have:=(hR i hi).mono (J7 kc nlc) iP lM
      have e:xs.getD i Go.undef=xs.toList[i]:=by
        have:i<xs.size:=by simpa using hj
        simp[Array.getD,this]
      rw[←e]
      exact this)
    (fun u=>(o13 u).mono (J7 k' gL) (by have:=h.len;omega) (by omega))
  have hF:Fence.wide.fn rc.fn:=trivial
  refine roundIn_of_wpIn hF (wpIn_mono (JM (k:=s.ag.length) (nl:=s.loops.length) (rd:=some r) (n:=n) (lf:=lf) (base:=[]) dx fm bq hp.mixed rc.assign lp.assign (G.kJ s.loops.length) ⟨uj lp.tmps lp.params args,s.push ⟨[],[]⟩⟩ st ⟨_,[]⟩ w .normal o6 jh rfl p1 (by rw[p2];exact o8) KF (fun e=>by cases e) aiS) fun ex a1 w1 pq=>?_)
  obtain⟨rfl,G1,g1,g2,g3,g4,g5,_⟩:=pq
  have jA:G1.loops[l]? =some r:=g2.loops l r Gi XZ
  obtain⟨ZC,RX,q1,q2,q3⟩:=g1.Zx g3 Gi jA
  have akl:ZC.ready=true:=by simpa[Ch,q1]using akk
  obtain⟨s1,s2⟩:=q3.1 akl
  have aj9:RX.pending=none:=by rw[q3.2.2.1,s2];rfl
  show∃w₂,(Instr.beginRound r).run P w1=.ok () w₂∧_
  refine⟨_,run_beginRound q2 s1,?_⟩
  have aj0:pQ P G1 l {ZC with ready:=false} {RX with state:=.busy}:=q3.LS rfl rfl rfl rfl rfl rfl rfl rfl (fun e=>by cases e) (fun _=>by simp[s2]) (by simp[aj9,s2]) (by simp[s2])
  have BM:=g1.turn q1 jA q2 (f:=fun p=>{p with ready:=false}) rfl aj0
  have ajG:(ek st.sig l fun p=>{p with ready:=false}).loops.length=s.loops.length:=by simp[ek,g3]
  have body:∀(e:cM) (aQ:St),exec call lf lp.body ⟨st.tmps,ek st.sig l fun p=>{p with ready:=false}⟩=some (e,aQ)→(∀(ex:Exit) (a':Act) (w2:World) (G2:aG),ex=Bt e→At P B0 w0 G2 s.ag.length s.loops.length aQ.sig w2→bD s.ag.length s.loops.length (G.kJ s.loops.length) G2→
      aQ.sig.loops.length=s.loops.length→G2.loops[l]? =some r→roundPost P r (fun e w'=>∃z,e=.returned z∧n5 P B0 w0 G kc nlc s s' w' x z) ex a' w2)→
      rc.body.wpIn (Fence.wide.inRound r) n P (roundPost P r (fun e w'=>∃z,e=.returned z∧n5 P B0 w0 G kc nlc s s' w' x z)) a1 (w1.putObj r (.loop {RX with state:=.busy})):=fun e aQ ze hq=>by
    refine wpIn_mono (JM (k:=s.ag.length) (nl:=s.loops.length) (rd:=some r) (n:=n) (lf:=lf) (base:=[]) dx fm bq hp.mixed rc.body lp.body G1 ⟨st.tmps,ek st.sig l fun p=>{p with ready:=false}⟩ aQ a1 _ e o7 BM ajG g4 (by rw[g5];rw[p2];exact o9) (KF.mono g2) (fun e=>by cases e) ze) fun ex a2 w2 pq=>?_
    obtain⟨hex,G2,k1,k2,k3,k4,k5,_⟩:=pq
    exact hq ex a2 w2 G2 hex k1 (g2.trans k2) k3 (k2.loops l r Gi jA)
  have fin:∀(G2:aG) (aQ:St) (w2:World) (jump:Option Code) (f:dq→dq) (b:Bool),At P B0 w0 G2 s.ag.length s.loops.length aQ.sig w2→bD s.ag.length s.loops.length (G.kJ s.loops.length) G2→aQ.sig.loops.length=s.loops.length→G2.loops[l]? =some r→
      (∀zN qA,pQ P G2 l zN qA→pQ P G2 l (f zN) {qA with state:=if jump.isNone then .ready else .done,pending:=jump})→jump.isNone=b→x=.v (.bool b)→s'=(ek aQ.sig l f).pop→
      ∃v w',(Instr.endRound r jump).run P w2=.ok v w'∧∃z,(Ending.returned v)=.returned z∧n5 P B0 w0 G kc nlc s s' w' x z:=fun G2 aQ w2 jump f b k1 k2 k3 k4 hf hb hx hs=>by
    obtain⟨zN,qA,m1,m2,m3⟩:=k1.Zx k3 Gi k4
    have sg:=k1.turn m1 k4 m2 (f:=f) rfl (hf zN qA m3)
    have Ya:(ek aQ.sig l f).loops.length=s.loops.length:=by simp[ek,k3]
    obtain⟨gr,hg,_⟩:=sg.cur
    obtain⟨t1,t2,t3,t4⟩:=vQ sg Ya hg
    refine⟨_,_,run_endRound jump m2,_,rfl,?_⟩
    subst hs hx hb
    exact Vo h nM k2 t1 (by simp[ae.pop,sg.len]) Ya t2 (fun d q hd e=>⟨q,by rw[t4 d hd];exact e,.refl q,rfl⟩) (fun _ _ e=>e) (.val _ rfl)
  split at hc
  · rename_i aQ ze
    injection hc with hc
    injection hc with hx hs
    refine body .normal aQ ze fun ex a' w2 G2 hex k1 k2 k3 k4=>?_
    subst hex
    exact fin G2 aQ w2 none (fun p=>{p with ready:=true,eG:=none}) true k1 k2 k3 k4 (fun zN qA m=>m.LS rfl rfl rfl rfl rfl rfl rfl rfl (fun _=>⟨rfl,rfl⟩) (fun e=>by cases e) rfl (by simp)) rfl hx.symm hs.symm
  · rename_i e aQ aD ze
    injection hc with hc
    injection hc with hx hs
    refine body e aQ ze fun ex a' w2 G2 hex k1 k2 k3 k4=>?_
    subst hex
    cases e with
    |normal=>exact absurd rfl aD
    |exit id=>exact fin G2 aQ w2 (some (.exit id)) (fun p=>{p with ready:=false,eG:=some (.exit id)}) false k1 k2 k3 k4 (fun zN qA m=>m.LS rfl rfl rfl rfl rfl rfl rfl rfl (fun e=>by cases e) (fun _=>rfl) rfl (by simp)) rfl hx.symm hs.symm
    |ret=>exact fin G2 aQ w2 (some .ret) (fun p=>{p with ready:=false,eG:=some .ret}) false k1 k2 k3 k4 (fun zN qA m=>m.LS rfl rfl rfl rfl rfl rfl rfl rfl (fun e=>by cases e) (fun _=>rfl) rfl (by simp)) rfl hx.symm hs.symm
  · cases hc
theorem aew {AP:FuncId→Option aJ} {K:World→Prop} (hp:tm P AP K) (hK:∀w,Below B0 w0 w→K w) {call:aZ} (dx:lr P B0 w0 call) (fm:n7 P B0 w0 call) (bq:ie call) (lf:Nat):lr P B0 w0 (jd AP call lf):=by
 refine⟨fun G k nl s w f args xs res s' h nM iP lM hl hR hc=>?_,fun G k nl s w l r args xs res s' h nM iP lM aC lJ hl hR hc=>aur hp dx fm bq h nM iP lM aC lJ hl hR hc⟩
 unfold jd at hc
 simp only at hc
 split at hc
 ·rename_i np nt b rs own oz
  split at hc
  ·rename_i hlen
   split at hc
   ·rename_i st he
    exact VR hp dx fm bq oz h nM iP lM hl hR hlen he (.inl rfl) hc
   ·rename_i st he
    exact VR hp dx fm bq oz h nM iP lM hl hR hlen he (.inr rfl) hc
   ·cases hc
  ·cases hc
 ·rename_i F oz
  exact arM hp hK oz h hl hR hc
 ·cases hc
theorem aeu {AP:FuncId→Option aJ} {K:World→Prop} (hp:tm P AP K) {call:aZ} (dx:lr P B0 w0 call) (fm:n7 P B0 w0 call) (bq:ie call) (lf:Nat):n7 P B0 w0 (jd AP call lf):=by
 refine⟨fun G k nl s w f args xs res s' h aR hl hR hc=>?_,fun I s w f args xs res s' hl hR hc=>?_⟩
 ·unfold jd at hc
  simp only at hc
  split at hc
  ·rename_i np nt b rs own oz
   split at hc
   ·rename_i hlen
    split at hc
    ·rename_i st he
     obtain⟨l,hr,hc⟩:=aT.1 hc
     injection hc with h1 h2
     subst h1 h2
     exact Y4 hp dx fm bq oz h aR hl hR hlen.1 he (.inl rfl) hr
    ·rename_i st he
     obtain⟨l,hr,hc⟩:=aT.1 hc
     injection hc with h1 h2
     subst h1 h2
     exact Y4 hp dx fm bq oz h aR hl hR hlen.1 he (.inr rfl) hr
    ·cases hc
   ·cases hc
  ·cases hc
 ·unfold jd at hc
  simp only at hc
  split at hc
  ·rename_i F oz
   obtain⟨as,has,hc⟩:=dj.1 hc
   obtain⟨y,hy,hc⟩:=aT.1 hc
   injection hc with h1 h2
   subst h1 h2
   obtain⟨c1,c2⟩:=Jz has
   refine⟨rfl,hp.nat f F oz I w as xs y (by rw[hl,c1]) (fun i hi=>hR i (by omega) _ (c2 i (by omega) hi)) hy⟩
  ·cases hc
theorem Vm {AP:FuncId→Option aJ} {K:World→Prop} (hp:tm P AP K) (hK:∀w,Below B0 w0 w→K w):∀n,lr P B0 w0 (ff AP n)∧n7 P B0 w0 (ff AP n)∧ie (ff AP n)
 |0=>⟨⟨fun _ _ _ _ _ _ _ _ _ _ _ _ _ _ _ _ h=>by simp[ff]at h,fun _ _ _ _ _ _ _ _ _ _ _ _ _ _ _ _ _ _ _ h=>by simp[ff]at h⟩,⟨fun _ _ _ _ _ _ _ _ _ _ _ _ _ _ h=>by simp[ff]at h,fun _ _ _ _ _ _ _ _ _ _ h=>by simp[ff]at h⟩,fun _ _ _ _ _ _ _ h=>by simp[ff]at h⟩
 |n+1=>
  have h:=Vm hp hK n
  ⟨aew hp hK h.1 h.2.1 h.2.2 n,aeu hp h.1 h.2.1 h.2.2 n,ie.step h.2.2 n⟩
end
end Go.Ax
/-
  From the executor's answer to the call of the model.
-/
namespace Go.Ax
open Go.RowKit
def LK (w:World):aG:={I:=fun b i=>w.cell? ⟨b,i,none⟩,ag:=[],loops:=[],own:=fun _=>none}
def Cy:ae:=⟨[],[],0,0⟩
theorem atC (P:Program) (w:World):cE P w.heap.size w (LK w) Cy w:=
 ⟨fun _ _ _ e=>e,rfl,rfl,fun d r gr e=>by simp[Cy]at e,fun l lp r e=>by simp[Cy]at e,fun d gr e=>by simp[LK]at e,fun d d' gr bI _ e=>by simp[LK]at e,Below.refl _ _,aH _,fun b o e=>by cases e⟩
abbrev Reads (w:World):AV→Value→Prop:=bL fun b i=>w.cell? ⟨b,i,none⟩
theorem asP {P:Program} {AP:FuncId→Option aJ} {K:World→Prop} (hp:tm P AP K) {n:Nat} {f:FuncId} {args:List AV} {xs:Array Value} {w:World} {b:Bool} {s':ae} (hK:∀w',Below w.heap.size w w'→K w') (hl:xs.size=args.length) (hR:∀i (hi:i<args.length),Reads w args[i] (xs.getD i Go.undef))
  (hc:ff AP n (.fn f) args Cy=some (.v (.bool b),s')):Calls P f xs w fun e w'=>e=.returned (.bool b)∧Below w.heap.size w w':=by
 have:=((Vm (P:=P) (B0:=w.heap.size) (w0:=w) hp hK n).1.fn (LK w) 0 0 Cy w f args xs _ s' (atC P w) (bp _) (aH _) (aH _) hl (fun i hi=>.cl (hR i hi)) hc).2
 refine Calls.mono this fun e w' he=>?_
 obtain⟨z,rfl,G',h1,_,_,_,h5⟩:=he
 rw[h5.gB]
 exact⟨rfl,h1.below⟩
end Go.Ax
