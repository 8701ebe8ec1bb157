/-
  A region in its own order, and one whose order is drawn.
-/
import Derived.Test.YthpnomimjpcgnaaGreatDoorT3
import Derived.TacticsIn
import Derived.OrdersIn
set_option linter.unusedSimpArgs false
set_option linter.unusedVariables false
set_option maxRecDepth 100000
namespace Go.Ax
open Go.RowKit
section
variable{P:Program} {B0:Nat} {w0:World} {G:aG} {k nl:Nat} {w:World} {s:ae}
theorem rD.trans {a a1 a2:Act} {de vx:St} {w1 w2:World} (h:rD P B0 w0 G k nl s a de a1 w1)
  (h':∀G',At P B0 w0 G' k nl de.sig w1→eC G' k nl de.tmps a1→rD P B0 w0 G' k nl de.sig a1 vx a2 w2):rD P B0 w0 G k nl s a vx a2 w2:=by
 obtain⟨G1,h1,h2,h3,h4,h5,h6⟩:=h
 obtain⟨G2,g1,g2,g3,g4,g5,g6⟩:=h' G1 h1 h4
 rw[h3]at g2 g3
 exact⟨G2,g1,h2.trans g2,g3,g4,g5.trans h5,g6.trans h6⟩
theorem YY {call:aW} (dq:kX P B0 w0 call) (eZ:nY P B0 w0 call) (bf:ij call) {rd:Option Nat} {n:Nat} {all:List Oper} {md:Nat→Md} {Q:Exit→Act→World→Prop}:∀(l:List Oper) (i:Nat) (al:List bA) (G:aG) (st aO:St) (a:Act) (w:World),
  oe P all md i l=some al→At P B0 w0 G k nl st.sig w→st.sig.loops.length=nl→eC G k nl st.tmps a→(∀o,o∈al→∀t,o.dst=some t→t<a.tmps.size)→ops call al st=some aO→
  (∀a' w',rD P B0 w0 G k nl st.sig a aO a' w'→Q .normal a' w')→wpListIn (iK rd) n P all.toArray Q l a w
 |[],i,al,G,st,aO,a,w,hc,h,aQ,hR,hd,hs,hQ=>by
  simp only[oe]at hc
  injection hc with hc
  subst hc
  simp only[ops]at hs
  injection hs with hs
  subst hs
  exact hQ a w ⟨G,h,.refl _ _ _,rfl,hR,rfl,rfl⟩
 | o :: r, i, al, G, st, aO, a, w, hc, h, aQ, hR, hd, hs, hQ => by
  simp only[oe]at hc
  split at hc
  ·rename_i g op rest e1 e2 e3
   injection hc with hc
   subst hc
   rw[Qm]at hs
   obtain⟨de,qS,xf⟩:=da.1 hs
   unfold wpListIn
   refine YS dq eZ bf h aQ hR (ao:=⟨o.dst,g,op⟩) e1 e2 rfl (fun t ht=>hd _ (by simp) t ht) qS fun a1 w1 hp=>?_
   obtain⟨G1,g1,g2,g3,g4,g5,g6⟩:=hp
   refine YY dq eZ bf r (i+1) rest G1 de aO a1 w1 e3 g1 (g3.trans aQ) g4 (fun o' ho t ht=>by rw[g5];exact hd o' (by simp[ho]) t ht) xf fun a' w' u4=>hQ a' w' ?_
   obtain⟨G2,q1,q2,q3,q4,q5,q6⟩:=u4
   rw[g3]at q2 q3
   exact⟨G2,q1,g2.trans q2,q3,q4,q5.trans g5,q6.trans g6⟩
  ·cases hc
def uo (m m':ae):Prop:=∀d b,m'.box d b=m.box d b
theorem uo.load {m m':ae} (h:uo m m') (agg:Bool) (n:Nat) (x:AV):m'.load agg n x=m.load agg n x:=by
 have:m'.row x=m.row x:=by cases x<;>simp[ae.row,h _ _]
 simp[ae.load,this]
def pO (l:List Nat) (ρ ρ':Nat→AV):Prop:=∀t,t∈l→ρ t=ρ' t
theorem oT {x:aF} {ρ ρ':Nat→AV} (h:pO (jE x) ρ ρ'):aE ρ x=aE ρ' x:=by
 cases x with
 |tmp t=>exact h t (by simp[jE])
 |const c=>rfl
theorem mH {l l':List Nat} {ρ ρ':Nat→AV} (h:pO (l++l') ρ ρ'):pO l ρ ρ':=fun t ht=>h t (n7 _ ht)
theorem pP {l l':List Nat} {ρ ρ':Nat→AV} (h:pO (l++l') ρ ρ'):pO l' ρ ρ':=fun t ht=>h t (Hq _ ht)
theorem CJ {xs:List aF} {ρ ρ':Nat→AV} (h:pO (xs.flatMap jE) ρ ρ'):xs.map (aE ρ)=xs.map (aE ρ'):=by
 induction xs with
 |nil=>rfl
 |cons x r ih=>
  simp only[Cp]at h
  simp only[gO]
  rw[oT (mH h),ih (pP h)]
theorem LS {x:Option aF} {ρ ρ':Nat→AV} (h:pO (KV x) ρ ρ'):qw (aE ρ) x=qw (aE ρ') x:=by
 cases x with
 |none=>rfl
 |some x=>simp only[qw];rw[oT h]
theorem abL {ps:List (Nat×Nat×aF)} {ρ ρ':Nat→AV} (h:pO (ps.flatMap fun p=>jE p.2.2) ρ ρ') (cs:List AV):ns cs (aE ρ) ps=ns cs (aE ρ') ps:=by
 induction ps generalizing cs with
 |nil=>rfl
 |cons p r ih=>
  obtain⟨o,z,x⟩:=p
  simp only[Cp]at h
  simp only[ns]
  rw[oT (mH h)]
  split
  ·exact ih (pP h) _
  ·rfl
theorem abM {ps:List (Nat×aF)} {ρ ρ':Nat→AV} (h:pO (ps.flatMap fun p=>jE p.2) ρ ρ') (rs:List (List AV)):mL rs (aE ρ) ps=mL rs (aE ρ') ps:=by
 induction ps generalizing rs with
 |nil=>rfl
 | cons p r ih =>
  obtain⟨o,x⟩:=p
  simp only[Cp]at h
  simp only[mL]
  rw[oT (mH h)]
  split
  ·split
   ·exact ih (pP h) _
   ·rfl
  ·rfl
theorem apw {call:aW} {op:cj} {ρ ρ':Nat→AV} (h:pO (KU op) ρ ρ') (m:ae):aM call (aE ρ) m op=aM call (aE ρ') m op:=by
 cases op<;>simp only[KU]at h<;>simp only[aM]<;>first
  |rfl
  |(rw[oT h];done)
  |(exact iy (yh m _ _) (oT (x:=.tmp _) h))
  |(rw[oT (mH h),oT (pP h)];done)
  |(rw[oT (mH (mH h)),oT (pP (mH h)),oT (pP h)];done)
  |(rw[abL h];done)
  |(rw[abM h];done)
  |(rw[CJ h];done)
  |(rw[CJ (mH h),CJ (pP h)];done)
  |(rename_i f as ws;rw[CJ (mH h)];exact iy (oP call m _ _) (Ho fun q hq=>by have:=oT (x:=.tmp q.2.2) (fun t ht=>pP h t (by rw[dO.1 ht];exact cC.2 ⟨q,hq,rfl⟩));rw[this]))
  |(rw[oT (mH h),CJ (pP h)];done)
  |(rw[oT (mH (mH (mH h))),LS (pP (mH (mH h))),LS (pP (mH h)),LS (pP h)];done)
theorem aqc {call:aW} {op:cj} (h:cN op=.pure):∃f:(aF→AV)→Option AV,∀ρ m,aM call ρ m op=(f ρ).map (·,m):=by
 cases op<;>simp only[cN]at h<;>first
  |(cases h;done)
  |(split at h<;>cases h;done)
  |exact⟨_,fun ρ m=>rfl⟩
  |skip
 case move x=>exact⟨fun ρ=>some (ρ x),fun _ _=>rfl⟩
 case build zs ps=>exact⟨fun ρ=>(ns zs ρ ps).map .agg,fun ρ m=>by simp only[aM,LJ];rfl⟩
 case buildSlice es rs ps=>exact⟨fun ρ=>(mL rs ρ ps).map (.slice .full es),fun ρ m=>by simp only[aM,LJ];rfl⟩
 case eqv neg kd x y=>exact⟨fun ρ=>(pS kd (ρ x) (ρ y)).map fun t=>.v (.bool (if neg then !t else t)),fun ρ m=>by simp only[aM,LJ];rfl⟩
 case oG f a b=>exact⟨fun ρ=>if(a.map ρ).all AV.vk then some (.fn f (a.map ρ) (b.map ρ))else none,fun ρ m=>by simp only[aM];split<;>rfl⟩
 case BM n=>exact⟨fun _=>some (AV.int n),fun _ _=>rfl⟩
theorem IY {m:ae} {d:Nat} {f:Rec→Rec} (hf:∀r,(f r).boxes=r.boxes):uo m (m.br d f):=fun d' b=>by
 simp only[ae.box,ae.br,dQ]
 by_cases h:d=d'
 ·subst h
  rw[ak rfl]
  cases m.ag[d]? with
  |none=>rfl
  |some r=>simp[hf]
 ·rw[aq h]
theorem aqg {call:aW} {op:cj} (h:cN op=.soft) {ρ:aF→AV} {m m':ae} {x:AV} (ho:aM call ρ m op=some (x,m')):uo m m':=by
 cases op<;>simp only[cN]at h<;>first|(cases h;done)|skip
 case call ro f as=>
  cases ro
  ·cases h
  ·simp only[aM,dK,bZ]at ho
   obtain⟨p,_,ho⟩:=aS.1 ho
   injection ho with _ ho
   subst ho
   exact fun _ _=>rfl
 case wx f as=>
  simp only[aM,dK,bZ]at ho
  obtain⟨p,_,ho⟩:=aS.1 ho
  injection ho with _ ho
  subst ho
  exact fun _ _=>rfl
 case ko ro f as=>
  cases ro
  ·cases h
  ·simp only[aM,lV]at ho
   split at ho
   ·simp only[dK,bZ]at ho
    obtain⟨p,_,ho⟩:=aS.1 ho
    injection ho with _ ho
    subst ho
    exact fun _ _=>rfl
   ·simp only[dK,bZ]at ho
    obtain⟨p,_,ho⟩:=aS.1 ho
    injection ho with _ ho
    subst ho
    exact fun _ _=>rfl
   ·cases ho
 case rM f as=>
  simp only[aM,kL]at ho
  split at ho
  ·split at ho
   ·injection ho with ho
    injection ho with _ ho
    subst ho
    exact IY fun r=>rfl
   ·injection ho with ho
    injection ho with _ ho
    subst ho
    exact fun _ _=>rfl
  ·cases ho
  ·obtain⟨_,_,ho⟩:=aS.1 ho
   injection ho with _ ho
   subst ho
   exact fun _ _=>rfl
  ·cases ho
 case append es a b =>
  simp only[aM,ej]at ho
  split at ho
  ·split at ho
   ·injection ho with ho
    injection ho with _ ho
    subst ho
    exact fun _ _=>rfl
   ·split at ho
    ·split at ho
     ·injection ho with ho
      injection ho with _ ho
      subst ho
      exact IY fun r=>rfl
     ·injection ho with ho
      injection ho with _ ho
      subst ho
      exact IY fun r=>rfl
     ·split at ho
      ·injection ho with ho
       injection ho with _ ho
       subst ho
       exact IY fun r=>rfl
      ·cases ho
     ·cases ho
    ·cases ho
  ·cases ho
theorem Qp {call:aW} {op:cj} (h:cN op=.load) {ρ:aF→AV} {m m':ae} (hs:uo m m'):∃r:Option AV,aM call ρ m op=r.map (·,m)∧aM call ρ m' op=r.map (·,m'):=by
 cases op<;>simp only[cN]at h<;>first|(cases h;done)|(split at h<;>cases h;done)|skip
 case load agg n x=>exact⟨m.load agg n (ρ x),rfl,by simp only[aM];rw[hs.load]⟩
def uc (m m':ae):Prop:=∀d b cs,m.box d b=some cs→∃cs',m'.box d b=some cs'∧(cs'=cs∨cs=[])
theorem uc.dF (m:ae) (cs:List AV):uc m (m.dF cs).2:=fun d b ds h=>by
 refine⟨ds,?_,.inl rfl⟩
 simp only[ae.box,ae.dF,ae.js,ae.br,dQ]at h⊢
 by_cases hd:m.cur=d
 ·subst hd
  rw[ak rfl]
  cases hr:m.ag[m.cur]? with
  |none=>rw[hr]at h;cases h
  |some r=>
   rw[hr]at h
   exact mO h
 ·rw[aq hd]
  exact h
theorem AO (m:ae) (d b:Nat) (cs:List AV):(m.dG d b cs).cur=m.cur:=by simp[ae.cur,ae.dG,ae.br]
theorem IX (m:ae) (d b:Nat) (cs:List AV) (d' b':Nat):(m.dG d b cs).box d' b'=if d=d'∧b=b' then(m.box d' b').map fun _=>cs else m.box d' b':=by
 simp only[ae.box,ae.dG,ae.br,dQ]
 by_cases hd:d=d'
 ·subst hd
  rw[ak rfl]
  cases m.ag[d]? with
  |none=>simp
  | some r =>
   simp only[dP,eL,sW]
   by_cases hb:b=b'
   ·subst hb
    simp only[K7,ak]
    by_cases aC:b<r.boxes.length
    ·simp[aC]
    ·simp[aC,nZ (LB aC)]
   ·simp[hb]
 ·simp[hd]
theorem KC (m:ae) (d b:Nat) (cs:List AV) (d':Nat):(m.dG d b cs).bN d'=m.bN d':=by
 simp only[ae.bN,ae.dG,ae.br,dQ]
 by_cases hd:d=d'
 ·subst hd
  rw[ak rfl]
  cases m.ag[d]? <;>simp
 ·simp[hd]
theorem asD (m:ae) (d b:Nat) (cs:List AV) (b':Nat) (cs':List AV) (hb:b≠b'):(m.dG d b cs).dG d b' cs'=(m.dG d b' cs').dG d b cs:=by
 simp only[ae.dG,ae.br]
 congr 1
 refine pK fun i=>?_
 simp only[dQ]
 by_cases hd:d=i
 ·subst hd
  simp only[ak]
  cases m.ag[d]? with
  |none=>rfl
  |some r=>
   simp only[dP,fL]
   congr 1
   exact List.set_comm _ _ hb
 ·simp[hd]
theorem GZ {m m':ae} {back:Nat} {zs:List AV} {v:AV} (h:mA m back zs=some (v,m')):
  m.box m.cur (m.bN m.cur-back)=some []∧(zs.isEmpty=false∧m.lJ m.cur=false)∧v=.ptr m.cur (m.bN m.cur-back) 0∧m'=m.dG m.cur (m.bN m.cur-back) zs:=by
 unfold mA at h
 split at h
 ·rename_i hb
  split at h
  ·cases h
  ·rename_i hz
   injection h with h
   injection h with h1 h2
   refine⟨hb,⟨?_,by cases e:m.lJ m.cur with|true=>exact absurd (.inr e) hz|false=>rfl⟩,h1.symm,h2.symm⟩
   cases he:zs.isEmpty with
   |false=>rfl
   |true=>exact absurd (.inl he) hz
 ·cases h
theorem Rc {m:ae} {back:Nat} {zs:List AV} (h1:m.box m.cur (m.bN m.cur-back)=some []) (h2:zs.isEmpty=false∧m.lJ m.cur=false):
  mA m back zs=some (.ptr m.cur (m.bN m.cur-back) 0,m.dG m.cur (m.bN m.cur-back) zs):=by
 unfold mA
 rw[h1]
 simp[h2.1,h2.2]
theorem YM (m:ae) (d b:Nat) (cs:List AV) (d':Nat):(m.dG d b cs).lJ d'=m.lJ d':=by
 simp only[ae.lJ,ae.dG,ae.br,vH]
 by_cases h:d=d'
 ·subst h
  cases m.ag[d]? <;>simp
 ·simp[h]
theorem as1 {m m1 m2:ae} {b1 b2:Nat} {z1 z2:List AV} {v u:AV} (h1:mA m b1 z1=some (v,m1)) (h2:mA m1 b2 z2=some (u,m2)):
  ∃dN,mA m b2 z2=some (u,dN)∧mA dN b1 z1=some (v,m2):=by
 obtain⟨a1,a2,rfl,rfl⟩:=GZ h1
 obtain⟨c1,c2,rfl,rfl⟩:=GZ h2
 simp only[AO,KC]at c1⊢
 rw[AO,YM]at c2
 have aB:m.bN m.cur-b1≠m.bN m.cur-b2:=fun e=>by
  rw[IX,ak ⟨rfl,e⟩,←e,a1]at c1
  simp only[dP,fL]at c1
  rw[c1]at a2
  exact absurd a2.1 (by decide)
 have Ao:m.box m.cur (m.bN m.cur-b2)=some []:=by
  rw[IX,aq (fun e=>aB e.2)]at c1
  exact c1
 refine⟨_,Rc Ao c2,?_⟩
 have:=Rc (m:=m.dG m.cur (m.bN m.cur-b2) z2) (back:=b1) (zs:=z1) (by
  simp only[AO,KC]
  rw[IX,aq (fun e=>aB e.2.symm)]
  exact a1) (by rw[AO,YM];exact a2)
 rw[this]
 simp only[AO,KC]
 rw[asD _ _ _ _ _ _ (qn aB)]
def rz (m m':ae):Prop:=m'=m∨∃cs,cs≠[]∧m'=(m.dF cs).2
theorem Y1 {call:aW} {op:cj} (h:cN op=.fresh) {ρ:aF→AV} {m m':ae} {x:AV} (ho:aM call ρ m op=some (x,m')):rz m m':=by
 cases op<;>simp only[cN]at h<;>first|(cases h;done)|(split at h<;>cases h;done)|skip
 case alloc zs=>
  simp only[aM]at ho
  split at ho
  ·cases ho
  rename_i hz
  simp only[fL]at ho
  exact .inr ⟨zs,fun e=>hz (by rw[e];rfl),by rw[ho]⟩
 case box n y=>
  simp only[aM,yf]at ho
  split at ho
  ·rename_i hc
   injection ho with ho
   exact .inr ⟨(ρ y).cells,fun e=>by have h1:=hc.1;have h2:=hc.2.2;rw[e]at h1;simp at h1;omega,by rw[ho]⟩
  ·cases ho
 case sL es y=>
  simp only[aM,ri]at ho
  split at ho
  ·rename_i hc
   injection ho with ho
   exact .inr ⟨(ρ y).cells,fun e=>by have h1:=hc.1;have h2:=hc.2.2;rw[e]at h1;simp at h1;omega,(iy Prod.snd ho).symm⟩
  ·cases ho
 case td f as=>
  simp only[aM,lU]at ho
  split at ho
  ·split at ho
   ·obtain⟨cs,_,ho⟩:=da.1 ho
    split at ho
    case isFalse=>cases ho
    rename_i dz
    obtain⟨cs',eM,ho⟩:=aS.1 ho
    injection ho with _ ho
    refine .inr ⟨cs',fun e=>?_,ho.symm⟩
    subst e
    cases cs with
    |nil=>exact absurd dz.1 (by decide)
    |cons q r=>
     simp only[closeAll]at eM
     split at eM<;>cases eM
   ·obtain⟨_,_,ho⟩:=aS.1 ho
    injection ho with _ ho
    exact .inl ho.symm
  ·cases ho
  ·obtain⟨_,_,ho⟩:=aS.1 ho
   injection ho with _ ho
   exact .inl ho.symm
  ·cases ho
 case mkSlice es zs l c=>
  simp only[aM,BS]at ho
  obtain⟨_,_,ho⟩:=da.1 ho
  obtain⟨_,_,ho⟩:=aS.1 ho
  split at ho
  ·injection ho with _ ho
   exact .inl ho.symm
  ·rename_i hz
   injection ho with _ ho
   exact .inr ⟨_,fun e=>hz (by rw[e];rfl),ho.symm⟩
 case vX es a b =>
  simp only[aM,x4]at ho
  split at ho
  ·rename_i o e1 xs o2 e2 ys kN jv
   split at ho
   ·cases ho
   rename_i hz
   split at ho
   ·rename_i bn
    obtain⟨rfl,_,_,_,W3,_⟩:=bn
    injection ho with ho
    injection ho with _ ho
    exact .inr ⟨_,fun e=>hz ⟨by rw[RM,kh,e];rfl,by cases ys with
     |nil=>simp at W3
     |cons=>rfl⟩,ho.symm⟩
   rw[kN,jv]at ho
   simp only[vZ]at ho
   split at ho
   ·simp only[fL,Cx]at ho
    exact .inl ho.2.symm
   ·rename_i hy
    split at ho
    ·split at ho
     ·injection ho with ho
      injection ho with _ ho
      exact .inr ⟨_,fun e=>hz ⟨by rw[e];rfl,by simpa using hy⟩,ho.symm⟩
     ·cases ho
    ·cases ho
  ·cases ho
theorem apX {call:aW} {op:cj} (h:cN op=.fresh) {ρ:aF→AV} {m m':ae} {x:AV} (ho:aM call ρ m op=some (x,m')):uc m m':=by
 rcases Y1 h ho with rfl|⟨cs,_,rfl⟩
 ·exact fun d b cs e=>⟨cs,e,.inl rfl⟩
 ·exact uc.dF m cs
theorem rz.dead {m m':ae} (h:rz m m') {b:Nat}:m'.yw b=m.yw b∧m'.cur=m.cur:=by
 rcases h with rfl|⟨cs,hc,rfl⟩
 ·exact⟨rfl,rfl⟩
 have gD:(m.dF cs).2.cur=m.cur:=by simp[ae.cur,ae.dF,ae.js,ae.br]
 refine⟨?_,gD⟩
 unfold ae.yw
 rw[gD]
 simp only[ae.dF,ae.js,ae.br,dQ,bZ]
 cases m.ag[m.cur]? with
 |none=>rfl
 | some r =>
  simp only[dP,List.drop_append,zL]
  have:((List.drop (b+1-r.boxes.length) [cs]).any List.isEmpty)=false:=by
   cases b+1-r.boxes.length with
   |zero=>cases cs with
    |nil=>exact absurd rfl hc
    |cons=>rfl
   |succ k=>simp
  rw[this,Cl]
theorem rz.box {m m':ae} (h:rz m m') {d b:Nat} (hb:d=m.cur→m.yw b=true):m'.box d b=m.box d b:=by
 rcases h with rfl|⟨cs,hc,rfl⟩
 ·rfl
 simp only[ae.box,ae.dF,ae.js,ae.br,dQ]
 by_cases hd:m.cur=d
 ·rw[ak hd]
  have hb:=hb hd.symm
  unfold ae.yw at hb
  rw[hd]at hb
  cases hq:m.ag[d]? with
  |none=>rfl
  | some r =>
   rw[hq]at hb
   simp only[dP,eL]
   have aC:b<r.boxes.length:=by
    simp only[fS]at hb
    obtain⟨x,hx,_⟩:=hb
    have:=List.length_pos_of_mem hx
    rw[sX]at this
    omega
   exact dB aC
 ·rw[aq hd]
theorem rz.jU {m m':ae} (h:rz m m') (agg:Bool) (n:Nat) (x:AV):zq m' agg n x=zq m agg n x:=by
 unfold zq
 split
 ·rename_i d b off
  obtain⟨h1,h2⟩:=h.dead (b:=b)
  rw[h1,h2]
  split
  ·rfl
  ·rename_i hn
   simp only[ae.load,ae.row]
   rw[h.box (fun e=>by cases hq:m.yw b with|true=>rfl|false=>exact absurd ⟨e,hq⟩ hn)]
 ·rename_i hx
  simp only[ae.load]
  cases x<;>first|rfl|exact(hx _ _ _ rfl).elim
theorem Qq {call:aW} {op:cj} (h:cN op=.jU) {ρ:aF→AV} {m m':ae} (hs:rz m m'):∃r:Option AV,aM call ρ m op=r.map (·,m)∧aM call ρ m' op=r.map (·,m'):=by
 cases op<;>simp only[cN]at h<;>first|(cases h;done)|(split at h<;>cases h;done)|skip
 case jU agg n x=>exact⟨zq m agg n (ρ x),rfl,by simp only[aM];rw[hs.jU]⟩
theorem Qr {call:aW} {op:cj} {back:Nat} (h:cN op=.slot back):∃zs,∀ρ m,aM call ρ m op=mA m back zs:=by
 cases op<;>simp only[cN]at h<;>first|(cases h;done)|(split at h<;>cases h;done)|skip
 case slot back zs=>injection h with h;subst h;exact⟨zs,fun _ _=>rfl⟩
theorem Qo {call:aW} {op:cj} {back:Nat} (h:cN op=.fill back) {ρ:aF→AV} {m m':ae} {v:AV} (ho:aM call ρ m op=some (v,m')):∃cs,m'=m.dG m.cur (m.bN m.cur-back) cs:=by
 cases op<;>simp only[cN]at h<;>first|(cases h;done)|(split at h<;>cases h;done)|skip
 case fill b n x y =>
  injection h with h
  subst h
  simp only[aM]at ho
  obtain⟨m1,hm,ho⟩:=aS.1 ho
  injection ho with _ ho
  subst ho
  unfold yC at hm
  split at hm
  ·split at hm
   ·rename_i hc
    unfold ae.store at hm
    simp only[hc.1,bZ]at hm
    split at hm
    ·split at hm
     ·cases hm
     ·split at hm
      ·injection hm with hm
       rw[hc.2.1]at hm
       exact⟨_,hm.symm⟩
      ·cases hm
    ·cases hm
   ·cases hm
  ·cases hm
theorem KK {call:aW} {op:cj} {res back:Nat} (h:cN op=.gd res) (hb:back≤res) {ρ:aF→AV} {m:ae} (cs:List AV):
  ∃r:Option AV,aM call ρ m op=r.map (·,m)∧aM call ρ (m.dG m.cur (m.bN m.cur-back) cs) op=r.map (·,m.dG m.cur (m.bN m.cur-back) cs):=by
 cases op<;>simp only[cN]at h<;>first|(cases h;done)|(split at h<;>cases h;done)|skip
 case gd arS agg n x=>
  injection h with h
  subst h
  refine⟨xq m arS agg n (ρ x),rfl,?_⟩
  simp only[aM]
  congr 1
  unfold xq
  split
  ·rename_i d b off
   simp only[AO,KC]
   split
   ·rfl
   ·rename_i hn
    simp only[ae.load,ae.row]
    rw[IX,aq (fun e=>hn ⟨e.1.symm,by have:=e.2;omega⟩)]
  ·rename_i hx
   simp only[ae.load]
   congr 1
   generalize ρ x=q at hx
   cases q<;>first|rfl|exact(hx _ _ _ rfl).elim
theorem aqw {agg:Bool} {n:Nat} {cs cs':List AV} {off:Nat} {v:AV} (hc:cs'=cs∨cs=[]) (h:part agg n cs off=some v):part agg n cs' off=some v:=by
 rcases hc with rfl|rfl
 ·exact h
 ·unfold part at h⊢
  split at h
  ·rename_i ha
   split at h
   ·rename_i hle
    simp only[iY]at hle
    have h0:off=0:=by omega
    have h1:n=0:=by omega
    subst h0 h1
    rw[ak ha,ak (by omega)]
    simpa using h
   ·cases h
  ·simp at h
theorem uc.load {m m':ae} (h:uc m m') {agg:Bool} {n:Nat} {x v:AV} (hl:m.load agg n x=some v):m'.load agg n x=some v:=by
  unfold ae.load at hl⊢
  obtain⟨p,hp,hl⟩:=da.1 hl
  have : ∃ cs', m'.row x = some (cs', p.2) ∧ (cs' = p.1 ∨ p.1 = []) := by
    cases x<;>first
      |exact⟨p.1,hp,.inl rfl⟩
      | (simp only [ae.row] at hp ⊢
         obtain⟨cs,dz,rfl⟩:=aS.1 hp
         obtain⟨cs',e1,e2⟩:=h _ _ _ dz
         exact⟨cs',by rw[e1];rfl,e2⟩)
  obtain⟨cs',e1,e2⟩:=this
  rw[e1]
  exact aqw e2 hl
theorem ap3 {call:aW} {op:cj} (h:cN op=.load) {ρ:aF→AV} {m m1:ae} {v:AV} (ho:aM call ρ m op=some (v,m1)):m1=m∧∀m',uc m m'→aM call ρ m' op=some (v,m'):=by
 cases op<;>simp only[cN]at h<;>first|(cases h;done)|(split at h<;>cases h;done)|skip
 case load agg n x=>
  simp only[aM]at ho⊢
  obtain⟨q1,q2⟩:=kU ho
  simp only at q1 q2
  exact⟨by first|exact q2|exact q2.symm,fun m' hg=>by rw[hg.load q1];rfl⟩
end
end Go.Ax
/-
  A region whose order is drawn: every order gives the same.
-/
namespace Go.Ax
open Go.RowKit
section
variable{P:Program} {B0:Nat} {w0:World} {G:aG} {k nl:Nat} {w:World} {s:ae}
noncomputable def bC (call:aW) (o:bA) (ρ:Nat→AV) (m:ae):Option (AV×ae):=
 if kG ρ o.guard then aM call (aE ρ) m o.op else some (AV.undef,m)
theorem K3 (call:aW) (o:bA) (st:St):rn call o st=(bC call o st.tmps st.sig).map fun p=>⟨kF st.tmps o.dst p.1,p.2⟩:=by
 unfold rn bC
 split
 ·split
  ·rename_i h;simp[h]
  ·rename_i h;simp[h]
 ·rfl
theorem UM {call:aW} {o:bA} {ρ ρ':Nat→AV} (h:pO (vu o) ρ ρ') (m:ae):bC call o ρ m=bC call o ρ' m:=by
 have h1:pO (KU o.op) ρ ρ':=mH h
 have h2:kG ρ o.guard=kG ρ' o.guard:=by
  have h2:=pP h
  cases hg:o.guard with
  |none=>rfl
  |some p=>
   obtain⟨t,b⟩:=p
   rw[hg]at h2
   simp only[kG]
   rw[h2 t (by simp)]
 simp only[bC,h2,apw h1]
def vn (a b:Sh):Bool:=
 match a,b with
 |.pure,_|_,.pure|.load,.load|.load,.soft|.soft,.load|.load,.fresh|.jU,.jU|.jU,.fresh|.fresh,.jU|.gd _,.gd _|.slot _,.slot _=>true
 |.gd r,.slot b|.slot b,.gd r|.gd r,.fill b|.fill b,.gd r=>decide (b≤r)
 |_,_=>false
theorem UR {call:aW} {o:bA} (h:cN o.op=.pure) (ρ:Nat→AV):∃r:Option AV,∀m,bC call o ρ m=r.map (·,m):=by
 obtain⟨f,hf⟩:=aqc (call:=call) h
 by_cases hw:kG ρ o.guard=true
 ·exact⟨f (aE ρ),fun m=>by simp only[bC,ak hw,hf]⟩
 ·exact⟨some AV.undef,fun m=>by simp only[bC,aq hw];rfl⟩
theorem NG {call:aW} {o:bA} (h:cN o.op=.load) (ρ:Nat→AV) {m m':ae} (hs:uo m m'):∃r:Option AV,bC call o ρ m=r.map (·,m)∧bC call o ρ m'=r.map (·,m'):=by
 by_cases hw:kG ρ o.guard=true
 ·obtain⟨r,h1,h2⟩:=Qp (call:=call) h (ρ:=aE ρ) hs
  exact⟨r,by simp only[bC,ak hw,h1],by simp only[bC,ak hw,h2]⟩
 ·exact⟨some AV.undef,by simp only[bC,aq hw];rfl,by simp only[bC,aq hw];rfl⟩
theorem Jc {call:aW} {o:bA} (h:cN o.op=.jU) (ρ:Nat→AV) {m m':ae} (hs:rz m m'):∃r:Option AV,bC call o ρ m=r.map (·,m)∧bC call o ρ m'=r.map (·,m'):=by
 by_cases hw:kG ρ o.guard=true
 ·obtain⟨r,h1,h2⟩:=Qq (call:=call) h (ρ:=aE ρ) hs
  exact⟨r,by simp only[bC,ak hw,h1],by simp only[bC,ak hw,h2]⟩
 ·exact⟨some AV.undef,by simp only[bC,aq hw];rfl,by simp only[bC,aq hw];rfl⟩
theorem UO {call:aW} {o:bA} (h:cN o.op=.fresh) {ρ:Nat→AV} {m m':ae} {x:AV} (ho:bC call o ρ m=some (x,m')):rz m m':=by
 unfold bC at ho
 split at ho
 ·exact Y1 h ho
 ·injection ho with ho
  injection ho with _ ho
  exact .inl ho.symm
theorem UP {call:aW} {x y:bA} (hx:cN x.op=.jU) (hy:cN y.op=.fresh∨cN y.op=.jU) {ρ:Nat→AV} {m m1 m2:ae} {u v:AV} (h1:bC call x ρ m=some (v,m1)) (h2:bC call y ρ m1=some (u,m2)):
  ∃dN,bC call y ρ m=some (u,dN)∧bC call x ρ dN=some (v,m2):=by
 obtain⟨r0,a1,_⟩:=Jc (call:=call) hx ρ (m:=m) (m':=m) (.inl rfl)
 rw[a1]at h1
 obtain⟨q1,q2⟩:=kU h1
 simp only at q1 q2
 subst q2
 have hf:∃f:rz m1 m2,True:=by
  rcases hy with hy|hy
  ·exact⟨UO hy h2,trivial⟩
  ·obtain⟨r,b1,_⟩:=Jc (call:=call) hy ρ (m:=m1) (m':=m1) (.inl rfl)
   rw[b1]at h2
   obtain⟨_,q⟩:=kU h2
   exact⟨.inl (by first|exact q|exact q.symm),trivial⟩
 obtain⟨hf,_⟩:=hf
 obtain⟨r,c1,c2⟩:=Jc (call:=call) hx ρ hf
 refine⟨m2,h2,?_⟩
 rw[c2]
 have e:=c1.symm.trans a1
 have:r=r0:=by cases r<;>cases r0<;>simp_all
 rw[this,q1]
 rfl
theorem aey {call:aW} {x y:bA} (hx:cN x.op=.fresh) (hy:cN y.op=.jU) {ρ:Nat→AV} {m m1 m2:ae} {u v:AV} (h1:bC call x ρ m=some (v,m1)) (h2:bC call y ρ m1=some (u,m2)):
  ∃dN,bC call y ρ m=some (u,dN)∧bC call x ρ dN=some (v,m2):=by
 obtain⟨r,c1,c2⟩:=Jc (call:=call) hy ρ (UO hx h1)
 rw[c2]at h2
 obtain⟨q1,q2⟩:=kU h2
 simp only at q1 q2
 subst q2
 exact⟨m,by rw[c1,q1];rfl,h1⟩
theorem UT {call:aW} {o:bA} (h:cN o.op=.soft) {ρ:Nat→AV} {m m':ae} {x:AV} (ho:bC call o ρ m=some (x,m')):uo m m':=by
 unfold bC at ho
 split at ho
 ·exact aqg h ho
 ·injection ho with ho
  injection ho with _ ho
  subst ho
  exact fun _ _=>rfl
theorem aeA {call:aW} {o:bA} (h:cN o.op=.fresh) {ρ:Nat→AV} {m m':ae} {x:AV} (ho:bC call o ρ m=some (x,m')):uc m m':=by
 unfold bC at ho
 split at ho
 ·exact apX h ho
 ·injection ho with ho
  injection ho with _ ho
  subst ho
  exact fun _ _ cs e=>⟨cs,e,.inl rfl⟩
theorem NH {call:aW} {o:bA} {back:Nat} (h:cN o.op=.slot back) (ρ:Nat→AV):(∃zs,∀m,bC call o ρ m=mA m back zs)∨∀m,bC call o ρ m=some (AV.undef,m):=by
 obtain⟨zs,hb⟩:=Qr (call:=call) h
 by_cases hw:kG ρ o.guard=true
 ·exact .inl ⟨zs,fun m=>by simp only[bC,ak hw,hb]⟩
 ·exact .inr fun m=>by simp[bC,aq hw]
theorem aeC {call:aW} {x y:bA} {b1 b2:Nat} (hx:cN x.op=.slot b1) (hy:cN y.op=.slot b2) {ρ:Nat→AV} {m m1 m2:ae} {u v:AV} (h1:bC call x ρ m=some (v,m1)) (h2:bC call y ρ m1=some (u,m2)):
  ∃dN,bC call y ρ m=some (u,dN)∧bC call x ρ dN=some (v,m2):=by
 rcases NH (call:=call) hx ρ with⟨z1,e1⟩|e1
 ·rcases NH (call:=call) hy ρ with⟨z2,e2⟩|e2
  ·rw[e1]at h1
   rw[e2]at h2
   obtain⟨dN,c1,c2⟩:=as1 h1 h2
   exact⟨dN,(e2 m).trans c1,(e1 dN).trans c2⟩
  ·rw[e2]at h2
   injection h2 with h2
   injection h2 with h3 h4
   subst h3 h4
   exact⟨m,e2 m,h1⟩
 ·rw[e1]at h1
  injection h1 with h1
  injection h1 with h3 h4
  subst h3 h4
  exact⟨m2,h2,e1 m2⟩
def CB (back:Nat) (m m':ae):Prop:=m'=m∨∃cs,m'=m.dG m.cur (m.bN m.cur-back) cs
theorem US {call:aW} {o:bA} {back:Nat} (h:cN o.op=.slot back) {ρ:Nat→AV} {m m':ae} {x:AV} (ho:bC call o ρ m=some (x,m')):CB back m m':=by
 rcases NH (call:=call) h ρ with⟨zs,e⟩|e
 ·rw[e]at ho
  exact .inr ⟨_,(GZ ho).2.2.2⟩
 ·rw[e]at ho
  injection ho with ho
  injection ho with _ ho
  exact .inl ho.symm
theorem UN {call:aW} {o:bA} {back:Nat} (h:cN o.op=.fill back) {ρ:Nat→AV} {m m':ae} {x:AV} (ho:bC call o ρ m=some (x,m')):CB back m m':=by
 unfold bC at ho
 split at ho
 ·exact .inr (Qo h ho)
 ·injection ho with ho
  injection ho with _ ho
  exact .inl ho.symm
theorem Jd {call:aW} {o:bA} {res back:Nat} (h:cN o.op=.gd res) (hb:back≤res) (ρ:Nat→AV) {m m':ae} (hw:CB back m m'):∃r:Option AV,bC call o ρ m=r.map (·,m)∧bC call o ρ m'=r.map (·,m'):=by
 rcases hw with rfl|⟨cs,rfl⟩
 ·by_cases hw:kG ρ o.guard=true
  ·obtain⟨r,h1,_⟩:=KK (call:=call) h (bh _) (ρ:=aE ρ) (m:=m') []
   exact⟨r,by simp only[bC,ak hw,h1],by simp only[bC,ak hw,h1]⟩
  ·exact⟨some AV.undef,by simp only[bC,aq hw];rfl,by simp only[bC,aq hw];rfl⟩
 ·by_cases hw:kG ρ o.guard=true
  ·obtain⟨r,h1,h2⟩:=KK (call:=call) h hb (ρ:=aE ρ) (m:=m) cs
   exact⟨r,by simp only[bC,ak hw,h1],by simp only[bC,ak hw,h2]⟩
  ·exact⟨some AV.undef,by simp only[bC,aq hw];rfl,by simp only[bC,aq hw];rfl⟩
theorem UQ {call:aW} {x y:bA} {res back:Nat} (hx:cN x.op=.gd res) (hb:back≤res) {ρ:Nat→AV} {m m1 m2:ae} {u v:AV} (hw:CB back m1 m2) (h1:bC call x ρ m=some (v,m1)) (h2:bC call y ρ m1=some (u,m2)):
  ∃dN,bC call y ρ m=some (u,dN)∧bC call x ρ dN=some (v,m2):=by
 obtain⟨r0,a1,_⟩:=Jd (call:=call) hx hb ρ (m:=m) (m':=m) (.inl rfl)
 rw[a1]at h1
 obtain⟨q1,q2⟩:=kU h1
 simp only at q1 q2
 subst q2
 obtain⟨r,c1,c2⟩:=Jd (call:=call) hx hb ρ hw
 refine⟨m2,h2,?_⟩
 rw[c2]
 have e:=c1.symm.trans a1
 have:r=r0:=by cases r<;>cases r0<;>simp_all
 rw[this,q1]
 rfl
theorem NI {call:aW} {x y:bA} {res back:Nat} (hy:cN y.op=.gd res) (hb:back≤res) {ρ:Nat→AV} {m m1 m2:ae} {u v:AV} (hw:CB back m m1) (h1:bC call x ρ m=some (v,m1)) (h2:bC call y ρ m1=some (u,m2)):
  ∃dN,bC call y ρ m=some (u,dN)∧bC call x ρ dN=some (v,m2):=by
 obtain⟨r,c1,c2⟩:=Jd (call:=call) hy hb ρ hw
 rw[c2]at h2
 obtain⟨q1,q2⟩:=kU h2
 simp only at q1 q2
 subst q2
 exact⟨m,by rw[c1,q1];rfl,h1⟩
theorem aeB {call:aW} {o:bA} (h:cN o.op=.load) {ρ:Nat→AV} {m m1:ae} {v:AV} (ho:bC call o ρ m=some (v,m1)):m1=m∧∀m',uc m m'→bC call o ρ m'=some (v,m'):=by
 unfold bC at ho⊢
 split at ho
 ·rename_i hw
  obtain⟨h1,h2⟩:=ap3 h ho
  exact⟨h1,fun m' hg=>by rw[ak hw];exact h2 m' hg⟩
 ·rename_i hw
  injection ho with ho
  injection ho with h1 h2
  subst h1 h2
  exact⟨rfl,fun m' _=>by rw[aq hw]⟩
theorem aeD {call:aW} {x y:bA} (h:vn (cN x.op) (cN y.op)=true) {ρ:Nat→AV} {m m1 m2:ae} {u v:AV} (h1:bC call x ρ m=some (v,m1)) (h2:bC call y ρ m1=some (u,m2)):
  ∃dN,bC call y ρ m=some (u,dN)∧bC call x ρ dN=some (v,m2):=by
 have xp:cN x.op=.pure→∃dN,bC call y ρ m=some (u,dN)∧bC call x ρ dN=some (v,m2):=fun hx=>by
  obtain⟨r,hr⟩:=UR (call:=call) hx ρ
  rw[hr]at h1
  obtain⟨q1,q2⟩:=kU h1
  simp only at q1 q2
  subst q2
  exact⟨m2,h2,by rw[hr,q1];rfl⟩
 have yp:cN y.op=.pure→∃dN,bC call y ρ m=some (u,dN)∧bC call x ρ dN=some (v,m2):=fun hy=>by
  obtain⟨r,hr⟩:=UR (call:=call) hy ρ
  rw[hr]at h2
  obtain⟨q1,q2⟩:=kU h2
  simp only at q1 q2
  subst q2
  exact⟨m,by rw[hr,q1];rfl,h1⟩
 have ly:cN y.op=.load→uo m m1→∃dN,bC call y ρ m=some (u,dN)∧bC call x ρ dN=some (v,m2):=fun hy hs=>by
  obtain⟨r,r1,r2⟩:=NG (call:=call) hy ρ hs
  rw[r2]at h2
  obtain⟨q1,q2⟩:=kU h2
  simp only at q1 q2
  subst q2
  exact⟨m,by rw[r1,q1];rfl,h1⟩
 have lx:cN x.op=.load→m1=m∧(uo m m2→∃dN,bC call y ρ m=some (u,dN)∧bC call x ρ dN=some (v,m2)):=fun hx=>by
  obtain⟨r,r1,_⟩:=NG (call:=call) (m':=m) hx ρ (fun _ _=>rfl)
  rw[r1]at h1
  obtain⟨q1,q2⟩:=kU h1
  simp only at q1 q2
  subst q2
  refine⟨rfl,fun hs=>?_⟩
  obtain⟨r',QC,r2'⟩:=NG (call:=call) hx ρ hs
  refine⟨m2,h2,?_⟩
  rw[r2']
  rw[QC]at r1
  have:r'=r:=by
   cases r<;>cases r'<;>simp_all
  rw[this,q1]
  rfl
 cases hx:cN x.op<;>cases hy:cN y.op<;>rw[hx,hy]at h<;>first
  |exact xp hx
  |exact yp hy
  |(simp[vn]at h;done)
  |skip
 ·exact ly hy (by rw[(lx hx).1];exact fun _ _=>rfl)
 ·have:=lx hx
  obtain⟨rfl,f⟩:=this
  exact f (UT hy h2)
 ·obtain⟨rfl,f⟩:=aeB hx h1
  exact⟨m2,h2,f _ (aeA hy h2)⟩
 ·exact ly hy (UT hx h1)
 ·exact aey hx hy h1 h2
 ·exact aeC hx hy h1 h2
 ·exact NI hy (by simpa[vn]using h) (US hx h1) h1 h2
 ·exact UQ hx (by simpa[vn]using h) (US hy h2) h1 h2
 ·exact NI hy (bh _) (by
   obtain⟨r,a1,_⟩:=Jd (call:=call) hx (bh _) ρ (m:=m) (m':=m) (.inl rfl)
   rw[a1]at h1
   obtain⟨_,q2⟩:=kU h1
   exact .inl (by first|exact q2|exact q2.symm)) h1 h2
 ·exact UQ hx (by simpa[vn]using h) (UN hy h2) h1 h2
 ·exact NI hy (by simpa[vn]using h) (UN hx h1) h1 h2
 ·exact UP hx (.inl hy) h1 h2
 ·exact UP hx (.inr hy) h1 h2
theorem atP {x:AV} {y:AV} {k:ZK} (h:Le x=some k) (h':Le y=some k):x=y:=by
 unfold Le at h h'
 split at h<;>first|(cases h;done)|skip
 all_goals(injection h with h;subst h;split at h'<;>first|(cases h';done)|(injection h' with h';injection h' with e1 e2;subst e1 e2;rfl)|(injection h' with h';injection h' with e1;subst e1;rfl)|rfl)
theorem aa4:∀{a b:List AV} {p:List ZK},xI a=some p→xI b=some p→a=b
 |[],[],_,_,_=>rfl
 |[],y::r,p,h,h'=>by
  injection h with h
  subst h
  simp only[xI]at h'
  split at h'<;>cases h'
 |x::r,[],p,h,h'=>by
  injection h' with h'
  subst h'
  simp only[xI]at h
  split at h<;>cases h
 | x :: r, y :: q, p, h, h' => by
  simp only[xI]at h h'
  split at h
  ·rename_i k1 s1 e1 e2
   injection h with h
   subst h
   split at h'
   ·rename_i k2 s2 e3 e4
    injection h' with h'
    injection h' with q1 q2
    subst q1 q2
    rw[atP e1 e3,aa4 e2 e4]
   ·cases h'
  ·cases h
theorem asy {a b:List AV} (h:Q0 a b=true):a=b:=by
 unfold Q0 at h
 split at h
 ·rename_i p q h1 h2
  rw[dx]at h
  subst h
  exact aa4 h1 h2
 ·cases h
theorem Qb:∀{zss bx:List (List AV)},bx∈qz zss↔bx.length=zss.length∧∀i (h1:i<bx.length) (h2:i<zss.length),bx[i]=[]∨bx[i]=zss[i]
 |[],bx=>by
  simp only[qz,dO,iY]
  constructor
  ·rintro rfl;exact⟨rfl,fun i h=>absurd h (dk _)⟩
  ·rintro⟨h,_⟩;exact uf h
 |z::r,[]=>by simp[qz]
 | z :: r, b :: bx => by
  have ih:=Qb (zss:=r) (bx:=bx)
  simp only[qz,c9,cC,xP,dJ]
  constructor
  ·rintro(⟨x,hx,rfl,rfl⟩|⟨x,hx,rfl,rfl⟩)
   ·obtain⟨h1,h2⟩:=ih.1 hx
    refine⟨by omega,fun i q1 q2=>?_⟩
    cases i with
    |zero=>exact .inl rfl
    |succ i=>exact h2 i (by simpa using q1) (by simpa using q2)
   ·obtain⟨h1,h2⟩:=ih.1 hx
    refine⟨by omega,fun i q1 q2=>?_⟩
    cases i with
    |zero=>exact .inr rfl
    |succ i=>exact h2 i (by simpa using q1) (by simpa using q2)
  ·rintro⟨h1,h2⟩
   have hm:bx∈qz r:=ih.2 ⟨by omega,fun i q1 q2=>h2 (i+1) (by omega) (by omega)⟩
   rcases h2 0 (by omega) (by omega)with e|e
   ·exact .inl ⟨bx,hm,by simpa using e.symm,rfl⟩
   ·exact .inr ⟨bx,hm,by simpa using e.symm,rfl⟩
section
variable{m:ae} {r:Nat} {a b:List (List AV)}
theorem G5 (h:0<r) (hr:r≤m.bN m.cur):∃q,m.ag[m.cur]? =some q∧r≤q.boxes.length∧m.bN m.cur=q.boxes.length∧m.tail r=q.boxes.drop (q.boxes.length-r):=by
 unfold ae.bN at hr
 split at hr
 ·rename_i q hq
  exact⟨q,hq,hr,by simp[ae.bN,hq],by simp[ae.tail,hq]⟩
 ·omega
theorem NK:(m.jm r a).cur=m.cur:=by simp[ae.cur,ae.jm,ae.br]
theorem Sp:(m.jm r a).ag.length=m.ag.length:=by simp[ae.jm,ae.br]
theorem VT:(m.jm r a).ag[m.cur]? =(m.ag[m.cur]?).map fun q=>{q with boxes:=q.boxes.take (q.boxes.length-r)++a}:=by
 simp only[ae.jm,ae.br,dQ,bZ]
theorem Rj (h:0<r) (hr:r≤m.bN m.cur) (ha:a.length=r):(m.jm r a).tail r=a:=by
 obtain⟨q,hq,hl,_,_⟩:=G5 h hr
 unfold ae.tail
 rw[NK,VT,hq]
 simp only[dP,ck,fq,ha]
 rw[RD (by rw[fq];omega)]
 rw[RE (by rw[fq];omega)];rfl
theorem YD (h:0<r) (hr:r≤m.bN m.cur) (ha:a.length=r):(m.jm r a).bN m.cur=m.bN m.cur:=by
 obtain⟨q,hq,hl,hn,_⟩:=G5 h hr
 rw[hn]
 unfold ae.bN
 rw[VT,hq]
 simp only[dP,ck,fq,ha];omega
theorem apd {d:Nat}:(m.jm r a).lJ d=m.lJ d:=by
 simp only[ae.lJ,ae.jm,ae.br,vH]
 by_cases h:m.cur=d
 ·cases m.ag[d]? <;>simp[h]
 ·cases m.ag[d]? <;>simp[h]
theorem aag (h:0<r) (hr:r≤m.bN m.cur) (ha:a.length=r):(m.jm r a).jm r b=m.jm r b:=by
 obtain⟨q,hq,hl,_,_⟩:=G5 h hr
 have hc:(m.jm r a).cur=m.cur:=NK
 show(m.jm r a).br (m.jm r a).cur _=_
 rw[hc]
 simp only[ae.jm,ae.br]
 congr 1
 apply pK
 intro i
 simp only[dQ]
 by_cases hi:m.cur=i
 ·subst hi
  rw[ak rfl,ak rfl,ak rfl,hq]
  simp only[dP,ck,fq,ha]
  congr 2
  rw[RY (by rw[fq];omega),List.take_take]
  congr 1
  congr 1
  omega
 ·rw[aq hi,aq hi,aq hi]
theorem aac {zs:List AV} {k:Nat} (hk:0<k) (hkr:k≤r) (hr:r≤m.bN m.cur):m.dG m.cur (m.bN m.cur-k) zs=m.jm r ((m.tail r).set (r-k) zs):=by
 obtain⟨q,hq,hl,hn,ht⟩:=G5 (by omega) hr
 rw[hn,ht]
 simp only[ae.dG,ae.jm,ae.br]
 congr 1
 apply pK
 intro i
 simp only[dQ]
 by_cases hi:m.cur=i
 ·subst hi
  rw[ak rfl,ak rfl,hq]
  simp only[dP]
  congr 2
  have e:q.boxes=q.boxes.take (q.boxes.length-r)++q.boxes.drop (q.boxes.length-r):=(Hv _ _).symm
  conv=>lhs;rw[e]
  rw[Ht _ _ (by rw[fq];simp;omega)]
  congr 2
  rw[fq];simp;omega
 ·rw[aq hi,aq hi]
theorem T7 {k:Nat} (hk:0<k) (hkr:k≤r) (hr:r≤m.bN m.cur):m.box m.cur (m.bN m.cur-k)=(m.tail r)[r-k]? :=by
 obtain⟨q,hq,hl,hn,ht⟩:=G5 (by omega) hr
 rw[hn,ht]
 simp only[ae.box,hq,eL,List.getElem?_drop]
 congr 1;omega
end
theorem afZ {call:aW} {ro:Bool} {m m1 m2:ae} {zss:List (List AV)} {k:Nat} {zs:List AV} {t:Target} {args:List AV} {u v:AV} (hk:0<k) (tD:k≤zss.length) (hz:zss[zss.length-k]? =some zs)
  (h1:nw call ro m zss t args=some (v,m1)) (h2:mA m1 k zs=some (u,m2)):
  ∃dN,mA m k zs=some (u,dN)∧nw call ro dN zss t args=some (v,m2):=by
 have hd:=NV h1
 unfold nw at h1
 rw[hd]at h1
 simp only at h1
 split at h1
 ·rename_i hc
  obtain⟨c0,c1,c3,c4,c5,c6,c7⟩:=hc
  have jw:0<zss.length:=by omega
  obtain⟨hT,hTi⟩:=Qb.1 c0
  have hr:zss.length≤m.bN m.cur:=by
   unfold ae.tail at hT
   split at hT
   ·rename_i q hq
    have:m.bN m.cur=q.boxes.length:=by unfold ae.bN;rw[hq]
    rw[sX]at hT
    rw[this]
    omega
   ·simp at hT;omega
  have gD:m1.cur=m.cur:=by unfold ae.cur;rw[c3]
  have gH:zss.length≤m1.bN m1.cur:=by rw[gD,c4];exact hr
  obtain⟨b1,b2,rfl,rfl⟩:=GZ h2
  rw[T7 hk tD gH,c5,←T7 hk tD hr]at b1
  rw[gD]at b2
  have hsb:=aac (m:=m) (zs:=zs) hk tD hr
  have Xp:=aac (m:=m1) (zs:=zs) hk tD gH
  rw[c5]at Xp
  rw[Xp]
  have wN:((m.tail zss.length).set (zss.length-k) zs).length=zss.length:=by rw[zO];exact hT
  have ji:(m.tail zss.length).set (zss.length-k) zs∈qz zss:=by
   refine Qb.2 ⟨wN,fun i q1 q2=>?_⟩
   rw[RP]
   split
   ·rename_i e
    subst e
    right
    have:=(aY.1 hz).2
    exact this.symm
   ·rw[zO]at q1
    exact hTi i q1 q2
  refine⟨m.jm zss.length ((m.tail zss.length).set (zss.length-k) zs),?_,?_⟩
  ·rw[Rc b1 ⟨b2.1,c7 b2.2⟩,hsb,gD,c4]
  ·unfold nw
   rw[c1 _ ji]
   simp only
   rw[ak]
   have ot:(m.jm zss.length ((m.tail zss.length).set (zss.length-k) zs)).cur=m.cur:=NK
   have zb:zss.length≤m1.bN m1.cur:=gH
   refine⟨by rw[Rj jw hr wN];exact ji,fun bx dp=>by rw[aag jw hr wN,aag jw gH wN];exact c1 bx dp,by rw[Sp,Sp];exact c3,?_,by rw[Rj jw hr wN,Rj jw gH wN],fun h=>by rw[c6 h],fun h=>?_⟩
   ·rw[ot,YD jw hr wN]
    have:=YD (m:=m1) jw gH wN
    rw[gD]at this
    rw[this];exact c4
   ·rw[ot,apd]at h⊢
    exact c7 h
 ·cases h1
theorem Up {call:aW} {f:FuncId} {as:List aF} {ws:List (Bool×Nat×Nat)} {ρ:aF→AV} {m m':ae} {v:AV} (h:aM call ρ m (.qt f as ws)=some (v,m')) {q:Bool×Nat×Nat} (hq:q∈ws):
  m'.load q.1 q.2.1 (ρ (.tmp q.2.2))=m.load q.1 q.2.1 (ρ (.tmp q.2.2)):=by
 simp only[aM,oP]at h
 split at h
 ·split at h
  ·rename_i dT
   injection h with h
   injection h with _ h
   subst h
   exact dT _ (cC.2 ⟨q,hq,rfl⟩)
  ·cases h
 ·cases h
theorem aez {call:aW} {x y:bA} (h:AX x.op y.op=true) {ρ:Nat→AV} {m m1 m2:ae} {u v:AV} (h1:bC call x ρ m=some (v,m1)) (h2:bC call y ρ m1=some (u,m2)):
  ∃dN,bC call y ρ m=some (u,dN)∧bC call x ρ dN=some (v,m2):=by
 by_cases hx:kG ρ x.guard=true
 ·by_cases hy:kG ρ y.guard=true
  ·simp only[bC,ak hx]at h1⊢
   simp only[bC,ak hy]at h2⊢
   unfold AX at h
   split at h
   ·rename_i ro zss f as b zs' ex ey
    rw[dI,dx]at h
    obtain⟨hb,hz⟩:=h
    split at hz
    ·rename_i z hzs
     have hz:=asy hz
     subst hz
     rw[ex]at h1⊢
     rw[ey]at h2⊢
     exact afZ hb.1 hb.2 hzs h1 h2
    ·cases hz
   ·rename_i ro zs f as r g n a ex ey
    subst h
    rw[ex]at h1⊢
    rw[ey]at h2⊢
    have hm:m1=m:=by
     simp only[aM,nw]at h1
     split at h1
     ·split at h1
      ·rename_i hc
       injection h1 with h1
       injection h1 with _ h1
       rw[←h1]
       exact hc.2.2.2.2.2.1 rfl
      ·cases h1
     ·cases h1
    subst hm
    have fD:m2=m1:=by
     simp only[aM]at h2
     obtain⟨_,_,h2⟩:=aS.1 h2
     injection h2 with _ h2
     exact h2.symm
    subst fD
    exact⟨m2,h2,h1⟩
   ·rename_i r g n a ro zs f as ex ey
    subst h
    rw[ex]at h1⊢
    rw[ey]at h2⊢
    have hm:m1=m:=by
     simp only[aM]at h1
     obtain⟨_,_,h1⟩:=aS.1 h1
     injection h1 with _ h1
     exact h1.symm
    subst hm
    have fD:m2=m1:=by
     simp only[aM,nw]at h2
     split at h2
     ·split at h2
      ·rename_i hc
       injection h2 with h2
       injection h2 with _ h2
       rw[←h2]
       exact hc.2.2.2.2.2.1 rfl
      ·cases h2
     ·cases h2
    subst fD
    exact⟨m2,h2,h1⟩
   ·rename_i f as ws g n t ex ey
    rw[ex]at h1⊢
    rw[ey]at h2⊢
    obtain⟨q,hq,sk⟩:=fS.1 h
    simp only[dI,Ns]at sk
    obtain⟨⟨rfl,rfl⟩,rfl⟩:=sk
    have hl:=Up (call:=call) (f:=f) h1 hq
    simp only[aM]at h2⊢
    rw[hl]at h2
    obtain⟨u',hu,h2⟩:=aS.1 h2
    injection h2 with h2 h3
    subst h2 h3
    exact⟨m,by rw[hu];rfl,h1⟩
   ·rename_i g n t f as ws ex ey
    rw[ex]at h1⊢
    rw[ey]at h2⊢
    obtain⟨q,hq,sk⟩:=fS.1 h
    simp only[dI,Ns]at sk
    obtain⟨⟨rfl,rfl⟩,rfl⟩:=sk
    simp only[aM]at h1
    obtain⟨u',hu,h1⟩:=aS.1 h1
    injection h1 with h1 h3
    subst h1 h3
    have hl:=Up (call:=call) (f:=f) h2 hq
    refine⟨m2,h2,?_⟩
    simp only[aM]
    rw[hl,hu]
    rfl
   ·cases h
  ·simp only[bC,aq hy]at h2⊢
   injection h2 with h2
   injection h2 with h2 h3
   subst h2 h3
   exact⟨m,rfl,h1⟩
 ·simp only[bC,aq hx]at h1⊢
  injection h1 with h1
  injection h1 with h1 h3
  subst h1 h3
  exact⟨m2,h2,rfl⟩
theorem as9 {call:aW} {x y:bA} (h:vn (cN x.op) (cN y.op)=true∨AX x.op y.op=true) (hd:∀t,x.dst=some t→y.dst≠some t) (hx:∀t,x.dst=some t→t∉vu y) (hy:∀t,y.dst=some t→t∉vu x)
  {st de vx:St} (h1:rn call x st=some de) (h2:rn call y de=some vx):∃Rg,rn call y st=some Rg∧rn call x Rg=some vx:=by
 rw[K3]at h1
 obtain⟨⟨v,m1⟩,c1,h1⟩:=aS.1 h1
 subst h1
 rw[K3]at h2
 obtain⟨⟨u,m2⟩,c2,h2⟩:=aS.1 h2
 subst h2
 simp only at c2
 have Zw:∀(o o':bA) (ρ:Nat→AV) (z:AV),(∀t,o.dst=some t→t∉vu o')→pO (vu o') (kF ρ o.dst z) ρ:=fun o o' ρ z ho t ht=>by
  cases hdo:o.dst with
  |none=>rfl
  |some d=>
   simp only[kF,put]
   rw[aq (fun e=>ho d hdo (by rw[←e];exact ht))]
 rw[UM (Zw x y st.tmps v hx)]at c2
 obtain⟨dN,c3,c4⟩:∃dN,bC call y st.tmps st.sig=some (u,dN)∧bC call x st.tmps dN=some (v,m2):=by
  rcases h with h|h
  ·exact aeD h c1 c2
  ·exact aez h c1 c2
 refine⟨⟨kF st.tmps y.dst u,dN⟩,by rw[K3,c3];rfl,?_⟩
 rw[K3]
 simp only
 rw[UM (Zw y x st.tmps u hy),c4]
 simp only[dP,fL,St.mk.injEq,and_true]
 cases hdx:x.dst with
 |none=>rfl
 | some d =>
  cases hdy:y.dst with
  |none=>rfl
  | some d' =>
   have aB:d'≠d:=fun e=>hd d hdx (by rw[hdy,e])
   funext t
   simp only[kF,put]
   by_cases h1:t=d
   ·subst h1
    rw[ak rfl,aq (qn aB),ak rfl]
   ·rw[aq h1]
    split<;>rfl
noncomputable def oJ (call:aW) (as:List bA):List Nat→St→Option St
 |[],st=>some st
 |i::r,st=>match as[i]? with
  |some o=>(rn call o st).bind (oJ call as r)
  |none=>none
theorem ZW (call:aW) (as:List bA):∀(l:List bA) (i:Nat),(∀j,l[j]? =as[i+j]?)→∀st,oJ call as (List.range' i l.length) st=ops call l st
 |[],i,_,st=>rfl
 |o::r,i,h,st=>by
  have h0:as[i]? =some o:=by simpa using(h 0).symm
  simp only[dJ,Ct,oJ,h0,Qm]
  congr 1
  funext de
  exact ZW call as r (i+1) (fun j=>by have:=h (j+1);simpa[vK,Lz 1 j]using this) de
theorem ar7 (call:aW) (as:List bA) (st:St):oJ call as (List.range as.length) st=ops call as st:=by
 rw[zQ]
 exact ZW call as as 0 (by simp) st
def unordered (pre:List Nat) (i j:Nat):Prop:=before pre i j=false∧before pre j i=false
theorem aeP {pre:List Nat} {l:List bA} (h:tj pre l=true) {i j:Nat} {x y:bA} (hx:l[i]? =some x) (hy:l[j]? =some y) (aC:i<j) (hu:unordered pre i j):
  (vn (cN x.op) (cN y.op)=true∨AX x.op y.op=true)∧(∀t,x.dst=some t→y.dst≠some t)∧(∀t,y.dst=some t→t∉vu x)∧(∀t,x.dst=some t→t∉vu y):=by
 have aB:i≠j:=by omega
 unfold tj at h
 rw[dI]at h
 have h1:=h.1
 unfold Zg at h1
 have mem:∀{i:Nat} {x:bA},l[i]? =some x→(x,i)∈l.zipIdx:=fun e=>by
  rw[List.mem_zipIdx_iff_getElem?]
  exact e
 have h2:=jJ.1 h1 _ (mem hx)
 have h3:=jJ.1 h2 _ (mem hy)
 have h4:=jJ.1 (jJ.1 h1 _ (mem hy)) _ (mem hx)
 have O6:(i==j)=false:=by simpa using aB
 have ajg:(j==i)=false:=by simpa using qn aB
 have WV:decide (j<i)=false:=by simp;omega
 obtain⟨Xu,Xv⟩:=hu
 simp only[O6,nU,dI,Xu,Xv,Cl]at h3
 simp only[ajg,nU,dI,Xu,Xv,Cl]at h4
 obtain⟨⟨a1,a2⟩,a3⟩:=h3
 obtain⟨⟨_,a4⟩,_⟩:=h4
 refine⟨?_,fun t ht e=>?_,fun t ht hm=>?_,fun t ht hm=>?_⟩
 ·cases pf:cN x.op<;>cases wT:cN y.op<;>rw[pf,wT]at a3<;>first|exact .inl rfl|(simp[WV]at a3;done)|(simp[WV,aC]at a3;exact .inr a3)|(refine .inl ?_;simpa[vn]using a3)
 ·rw[ht,e]at a1
  simp at a1
 ·rw[ht]at a2
  simp at a2
  exact a2 hm
 ·rw[ht]at a4
  simp at a4
  exact a4 hm
theorem unordered.symm {pre:List Nat} {i j:Nat} (h:unordered pre i j):unordered pre j i:=⟨h.2,h.1⟩
theorem aaD {call:aW} {pre:List Nat} {as:List bA} (h:tj pre as=true) {i:Nat} {q:List Nat} {f:St}:∀(p:List Nat) (st:St),(∀j,j∈p→j<i∧unordered pre i j)→oJ call as (p++i::q) st=some f→
  oJ call as (i::(p++q)) st=some f
 |[],st,_,hr=>hr
 | j :: p, st, hp, hr => by
  simp only[kg,oJ]at hr
  split at hr
  ·rename_i y hy
   obtain⟨de,s1,hr⟩:=da.1 hr
   have nN:=aaD h p de (fun j' dM=>hp j' (by simp[dM])) hr
   simp only[oJ]at nN
   split at nN
   ·rename_i x hx
    obtain⟨vx,s2,nN⟩:=da.1 nN
    obtain⟨aC,hu⟩:=hp j (by simp)
    obtain⟨d1,d2,d3,d6⟩:=aeP h hy hx aC hu.symm
    obtain⟨Rg,t1,t2⟩:=as9 d1 d2 d6 d3 s1 s2
    simp only[oJ,kg,hx,hy,t1,eL,t2]
    exact nN
   ·cases nN
  ·cases hr
def rJ (o:Oper):List Edge:=o.after.toList.filter (Region.binds .any)
theorem VO {acc:List Nat} {i:Nat}:∀(es:List Edge) (m:Nat),(es.foldl (fun m e=>m|||1<<<e.on|||acc.getD e.on 0) m).testBit i=true→m.testBit i=true∨∃e,e∈es∧(e.on=i∨(acc.getD e.on 0).testBit i=true)
 |[],m,h=>.inl h
 | e :: r, m, h => by
  simp only[sV]at h
  rcases VO r _ h with h|⟨e',h1,h2⟩
  ·rw [Cv, Cv, ru, ru] at h
   rcases h with(h|h)|h
   ·exact .inl h
   ·rw[Nat.testBit_shiftLeft]at h
    simp only[dI,dx]at h
    have:=h.2
    have h0:i-e.on=0:=by
     cases hq:i-e.on with
     |zero=>rfl
     |succ n=>
      rw[hq,Nat.testBit_succ]at this
      simp at this
    exact .inr ⟨e,by simp,.inl (by omega)⟩
   ·exact .inr ⟨e,by simp,.inr h⟩
  ·exact .inr ⟨e',by simp[h1],h2⟩
theorem Zv:∀(l:List Oper) (acc pre:List Nat),zD acc l=some pre→(∀j,j<acc.length→pre.getD j 0=acc.getD j 0)∧pre.length=acc.length+l.length∧
  ∀j o,l[j]? =some o→(∀e,e∈rJ o→e.on<acc.length+j)∧∀i,(pre.getD (acc.length+j) 0).testBit i=true→∃e,e∈rJ o∧(e.on=i∨(pre.getD e.on 0).testBit i=true)
 |[],acc,pre,h=>by
  simp only[zD]at h
  injection h with h
  subst h
  exact⟨fun _ _=>rfl,rfl,fun j o hj=>by simp at hj⟩
 | o :: r, acc, pre, h => by
  simp only[zD]at h
  split at h
  ·rename_i dT
   obtain⟨h1,h2,h3⟩:=Zv r _ pre h
   simp only[ck,dJ,iY]at h1 h2 h3
   have Ot:∀e,e∈rJ o→e.on<acc.length:=fun e he=>by simpa using jJ.1 dT e he
   refine⟨fun j hj=>?_,by simp only[dJ];omega,fun j o' hj=>?_⟩
   ·rw[h1 j (by omega)]
    simp[Ls,dB hj]
   ·cases j with
    | zero =>
     simp only[Hk,fL]at hj
     subst hj
     refine⟨fun e he=>by have:=Ot e he;omega,fun i hi=>?_⟩
     rw[vL,h1 acc.length (by omega)]at hi
     have hv:(acc++[(rJ o).foldl (fun m e=>m|||1<<<e.on|||acc.getD e.on 0) 0]).getD acc.length 0=(rJ o).foldl (fun m e=>m|||1<<<e.on|||acc.getD e.on 0) 0:=by
      simp[Ls]
     have bD:((rJ o).foldl (fun m e=>m|||1<<<e.on|||acc.getD e.on 0) 0).testBit i=true:=by
      rw[←hv]
      exact hi
     rcases VO _ _ bD with h0|⟨e,e1,e2⟩
     ·simp at h0
     ·refine⟨e,e1,e2.imp id fun e3=>?_⟩
      rw[h1 e.on (by have:=Ot e e1;omega)]
      have:(acc++[(rJ o).foldl (fun m e=>m|||1<<<e.on|||acc.getD e.on 0) 0]).getD e.on 0=acc.getD e.on 0:=by
       simp[Ls,dB (Ot e e1)]
      exact(iy (fun q=>Nat.testBit q i) this).trans e3
    |succ j=>
     simp only[Lt]at hj
     obtain⟨g1,g2⟩:=h3 j o' hj
     refine⟨fun e he=>by have:=g1 e he;omega,fun i hi=>g2 i ?_⟩
     have:acc.length+1+j=acc.length+(j+1):=by omega
     rw[this]
     exact hi
  ·cases h
structure HE (l:List Oper) (pre:List Nat):Prop where
 len:pre.length=l.length
 edge:∀j o,l[j]? =some o→∀e,e∈rJ o→e.on<j
 why:∀j o,l[j]? =some o→∀i,before pre i j=true→∃e,e∈rJ o∧(e.on=i∨before pre i e.on=true)
theorem aq0 {l:List Oper} {pre:List Nat} (h:zD [] l=some pre):HE l pre:=by
 obtain⟨_,h2,h3⟩:=Zv l [] pre h
 simp only[iY,fK]at h2 h3
 exact⟨h2,fun j o hj=>(h3 j o hj).1,fun j o hj i hi=>(h3 j o hj).2 i hi⟩
theorem HE.lt {l:List Oper} {pre:List Nat} (h:HE l pre):∀(j i:Nat),before pre i j=true→i<j:=by
 intro j
 induction j using Nat.strongRecOn with
 | _ j ih =>
  intro i hi
  by_cases hj:j<l.length
  ·obtain⟨e,e1,e2⟩:=h.why j _ (cM hj) i hi
   have:=h.edge j _ (cM hj) e e1
   rcases e2 with e2|e2
   ·omega
   ·have:=ih e.on this i e2
    omega
  ·have:pre.getD j 0=0:=by
    rw[Ls,nZ (by rw[h.len];omega)]
    rfl
   simp only[before,this,Nat.zero_testBit]at hi
   cases hi
def mw (n:Nat) (listed:Array Bool):List Nat:=(List.range n).filter fun j=>!listed.getD j true
theorem Qc {n j:Nat} {listed:Array Bool}:j∈mw n listed↔j<n∧listed.getD j true=false:=by
 simp[mw,eP]
theorem arQ {n i:Nat} {listed:Array Bool} (hi:i∈mw n listed):∃p q,mw n listed=p++i::q∧mw n (listed.setIfInBounds i true)=p++q∧∀j,j∈p→j<i∧listed.getD j true=false:=by
 obtain⟨h1,h2⟩:=Qc.1 hi
 refine⟨(List.range i).filter fun j=>!listed.getD j true,(List.range' (i+1) (n-(i+1))).filter fun j=>!listed.getD j true,?_,?_,fun j hj=>?_⟩
 ·have hr:List.range n=List.range i++i::List.range' (i+1) (n-(i+1)):=by
   rw[zQ,zQ,show n=i+(n-(i+1)+1)by omega,←List.range'_append_1]
   simp[Ct]
   omega
  rw[mw,hr,ni,Ln]
  simp[h2]
 ·have hr:List.range n=List.range i++i::List.range' (i+1) (n-(i+1)):=by
   rw[zQ,zQ,show n=i+(n-(i+1)+1)by omega,←List.range'_append_1]
   simp[Ct]
   omega
  have hs:(listed.setIfInBounds i true).getD i true=true:=by
   by_cases aC:i<listed.size
   ·simp[Array.getD,aC]
   ·simp[Array.getD,aC]
  rw[mw,hr,ni,Ln]
  simp only[hs,jH,eB,dt]
  congr 1
  ·refine Hi fun j hj=>?_
   rw[getD_set_ne true (by have:=pM.1 hj;omega)]
  ·refine Hi fun j hj=>?_
   rw[getD_set_ne true (by have:=List.mem_range'_1.1 hj;omega)]
 ·rw[eP,pM]at hj
  exact⟨hj.1,by simpa using hj.2⟩
theorem NF {all:List Oper} {md:Nat→Md}:∀(l:List Oper) (i:Nat) (al:List bA),oe P all md i l=some al→al.length=l.length∧∀j o,l[j]? =some o→∃ao,al[j]? =some ao∧ao.dst=o.dst∧AI all o.guard=some ao.guard∧gR P (md (i+j)) o.op=some ao.op
 |[],i,al,h=>by
  simp only[oe]at h
  injection h with h
  subst h
  exact⟨rfl,fun j o hj=>by simp at hj⟩
 | o :: r, i, al, h => by
  simp only[oe]at h
  split at h
  ·rename_i g op rest e1 e2 e3
   injection h with h
   subst h
   obtain⟨h1,h2⟩:=NF r (i+1) rest e3
   refine⟨by simp[h1],fun j o' hj=>?_⟩
   cases j with
   |zero=>
    simp only[Hk,fL]at hj
    subst hj
    exact⟨_,rfl,rfl,e1,e2⟩
   |succ j=>
    obtain⟨ao,a1,a2,a3,a4⟩:=h2 j o' (by simpa using hj)
    exact⟨ao,by simpa using a1,a2,a3,by rw[←a4];congr 2;omega⟩
  ·cases h
theorem aeQ {call:aW} (dq:kX P B0 w0 call) (eZ:nY P B0 w0 call) (bf:ij call) {rd:Option Nat} {n:Nat} {all:Array Oper} {md:Nat→Md} {as:List bA} {pre:List Nat} (hc:oe P all.toList md 0 all.toList=some as)
  (si:HE all.toList pre) (bH:tj pre as=true) {f:St} {Q:Exit→Act→World→Prop}:∀(fuel:Nat) (listed:Array Bool) (G:aG) (st:St) (a:Act) (w:World),
  listed.size=all.size→(mw all.size listed).length≤fuel→(∀i j,listed.getD j false=true→before pre i j=true→listed.getD i false=true)→oJ call as (mw all.size listed) st=some f→
  At P B0 w0 G k nl st.sig w→st.sig.loops.length=nl→eC G k nl st.tmps a→(∀o,o∈as→∀t,o.dst=some t→t<a.tmps.size)→(∀a' w',rD P B0 w0 G k nl st.sig a f a' w'→Q .normal a' w')→
  wpAnyIn (iK rd) n P .any all Q fuel listed a w:=by
 have ajm : ∀ (listed : Array Bool), listed.size = all.size → Region.ready .any all listed = [] → mw all.size listed = [] := fun listed bP hr => by
  have key:∀j,j<all.size→listed.getD j true=true:=fun j=>by
   induction j using Nat.strongRecOn with
   | _ j ih =>
    intro hj
    cases hl:listed.getD j true with
    |true=>rfl
    | false =>
     exfalso
     have:j∈Region.ready .any all listed:=by
      rw[mem_ready]
      refine⟨hl,all[j],abg hj,fun e he hb=>?_⟩
      have aC:=si.edge j all[j] (by simp[hj]) e (by simp[rJ,eP];exact⟨he,hb⟩)
      have:=ih e.on aC (by omega)
      have aja:e.on<listed.size:=by omega
      simpa[Array.getD,aja]using this
     rw[hr]at this
     cases this
  rw[mw,abl]
  intro j hj
  rw[key j (pM.1 hj)]
  simp
 have done:∀(listed:Array Bool) (G:aG) (st:St) (a:Act) (w:World),listed.size=all.size→Region.ready .any all listed=[]→oJ call as (mw all.size listed) st=some f→At P B0 w0 G k nl st.sig w→eC G k nl st.tmps a→
   (∀a' w',rD P B0 w0 G k nl st.sig a f a' w'→Q .normal a' w')→Q .normal a w:=fun listed G st a w bP hr db h hR hQ=>by
  rw[ajm listed bP hr]at db
  simp only[oJ]at db
  injection db with db
  subst db
  exact hQ a w ⟨G,h,.refl _ _ _,rfl,hR,rfl,rfl⟩
 intro fuel
 induction fuel with
 | zero =>
  intro listed G st a w bP hlen aP db h aQ hR hd hQ
  have jw:Region.ready .any all listed=[]:=by
   cases hr:Region.ready .any all listed with
   |nil=>rfl
   |cons i r=>
    exfalso
    have hi:i∈Region.ready .any all listed:=by rw[hr];simp
    obtain⟨h1,o,h2,_⟩:=mem_ready.1 hi
    have:i∈mw all.size listed:=Qc.2 ⟨(tZ.1 h2).1,h1⟩
    have h0:mw all.size listed=[]:=uf (by omega)
    rw[h0]at this
    cases this
  exact⟨jw,done listed G st a w bP jw db h hR hQ⟩
 | succ fuel ih =>
  intro listed G st a w bP hlen aP db h aQ hR hd hQ
  refine⟨fun hr=>done listed G st a w bP hr db h hR hQ,fun i hi=>?_⟩
  obtain⟨h1,o,h2,ah5⟩:=mem_ready.1 hi
  have aC:i<all.size:=(tZ.1 h2).1
  have ji:i∈mw all.size listed:=Qc.2 ⟨aC,h1⟩
  obtain⟨p,q,e1,e2,e3⟩:=arQ ji
  have ho:all.toList[i]? =some o:=by simpa using h2
  have Wt:∀j,before pre j i=true→listed.getD j false=true:=fun j hj=>by
   obtain⟨e,c1,c2⟩:=si.why i o ho j hj
   have he:e∈o.after∧Region.binds .any e=true:=by
    simp only[rJ,eP]at c1
    exact⟨by simpa using c1.1,c1.2⟩
   have hl:=ah5 e he.1 he.2
   rcases c2 with c2|c2
   ·rw[←c2];exact hl
   ·exact aP j e.on hl c2
  have WN:oJ call as (i::(p++q)) st=some f:=by
   refine aaD bH p st (fun j hj=>?_) (by rw[←e1];exact db)
   obtain⟨j1,j2⟩:=e3 j hj
   refine⟨by omega,?_,?_⟩
   ·cases hb:before pre i j with
    |false=>rfl
    |true=>have:=si.lt j i hb;omega
   ·cases hb:before pre j i with
    |false=>rfl
    |true=>
     exfalso
     have:=Wt j hb
     have hjs:j<listed.size:=by omega
     simp[Array.getD,hjs]at this j2
     rw[this]at j2
     cases j2
  obtain⟨g1,g2⟩:=NF _ 0 as hc
  obtain⟨ao,a1,a2,a3,a4⟩:=g2 i o ho
  simp only[oJ,a1]at WN
  obtain⟨de,s1,s2⟩:=da.1 WN
  unfold wpOpIn
  simp only[h2]
  have dT:all=all.toList.toArray:=by simp
  have fm:=YS dq eZ bf (rd:=rd) (n:=n) (all:=all.toList) (Q:=Q) h aQ hR a3 a4 a2 (fun t ht=>hd ao (bK a1) t ht) s1 (K:=wpAnyIn (iK rd) n P .any all Q fuel (listed.setIfInBounds i true)) (fun s8 w1 hp=>by
   obtain⟨G1,k1,k2,k3,k4,k5,k6⟩:=hp
   refine ih (listed.setIfInBounds i true) G1 de s8 w1 (by simp[bP]) ?_ ?_ (by rw[e2];exact s2) k1 (k3.trans aQ) k4 (fun o' po t ht=>by rw[k5];exact hd o' po t ht) (fun a' w' u4=>hQ a' w' ?_)
   ·rw[e2]
    rw[e1]at hlen
    simp at hlen⊢
    omega
   ·intro x y hy eH
    by_cases XL:y=i
    ·subst XL
     exact getD_set_true (Wt x eH)
    ·rw[getD_set_ne false (qn XL)]at hy
     exact getD_set_true (aP x y hy eH)
   ·obtain⟨G2,q1,q2,q3,q4,q5,q6⟩:=u4
    rw[k3]at q2 q3
    exact⟨G2,q1,k2.trans q2,q3,q4,q5.trans k5,q6.trans k6⟩)
  simpa using fm
theorem GN {call:aW} (dq:kX P B0 w0 call) (eZ:nY P B0 w0 call) (bf:ij call) (hm:P.follows .mixedOrders=true) {rd:Option Nat} {n id:Nat} {all:Array Oper} {md:Nat→Md} {as:List bA} {pre:List Nat} {st aO:St} {a:Act}
  (si:zD [] all.toList=some pre) (l7:oe P all.toList md 0 all.toList=some as) (bH:tj pre as=true) (h:At P B0 w0 G k nl st.sig w) (aQ:st.sig.loops.length=nl) (hR:eC G k nl st.tmps a) (hd:∀o,o∈as→∀t,o.dst=some t→t<a.tmps.size) (hs:ops call as st=some aO)
  {Q:Exit→Act→World→Prop} (hQ:∀a' w',rD P B0 w0 G k nl st.sig a aO a' w'→Q .normal a' w'):(Code.region id all true).wpIn (iK rd) n P Q a w:=by
 have hlen:=(NF _ 0 _ l7).1
 refine wpIn_region_any hm ?_
 have jf:At P B0 w0 G k nl st.sig w.drew:=⟨h.rel.drew,h.len,h.cur⟩
 have Xm:mw all.size (Array.replicate all.size false)=List.range as.length:=by
  rw[hlen]
  simp only[Rw,mw]
  rw[Lo]
  intro j hj
  have:=pM.1 hj
  simp[Array.getD,this]
 have db:oJ call as (mw all.size (Array.replicate all.size false)) st=some aO:=by
  rw[Xm,ar7]
  exact hs
 refine aeQ dq eZ bf l7 (aq0 si) bH all.size _ G st a _ (by simp) ?_ ?_ db jf aQ hR hd hQ
 ·rw[Xm,hlen];simp
 ·intro i j hj
  by_cases aC:j<all.size
  ·simp[Array.getD,aC]at hj
  ·simp[Array.getD,aC]at hj
theorem Yr {mu:Mu} {pre:List Nat} {l:List Oper} {n0:Nat} {as:List bA} (h:Ja P mu pre l=some (n0,as)):∃md,oe P l md 0 l=some as∧tj pre as=true:=by
 unfold Ja at h
 split at h
 ·rename_i z7 l7
  split at h
  ·rename_i bH
   injection h with h
   injection h with _ h
   subst h
   exact⟨_,l7,bH⟩
  ·cases h
 ·cases h
theorem arO {call : aW} (dq : kX P B0 w0 call) (eZ : nY P B0 w0 call) (bf : ij call) (hm : P.follows .mixedOrders = true) {rd : Option Nat} {n id : Nat} {all : Array Oper} {drawn : Bool} {as : List bA} {n0 : Nat} {st aO : St} {a : Act}
  {mu:Mu} (hc:Jb P mu all.toList drawn=some (n0,as)) (h:At P B0 w0 G k nl st.sig w) (aQ:st.sig.loops.length=nl) (hR:eC G k nl st.tmps a) (hd:∀o,o∈as→∀t,o.dst=some t→t<a.tmps.size) (hs:ops call as st=some aO)
  {Q:Exit→Act→World→Prop} (hQ:∀a' w',rD P B0 w0 G k nl st.sig a aO a' w'→Q .normal a' w'):(Code.region id all drawn).wpIn (iK rd) n P Q a w:=by
 cases drawn with
 |false=>
  simp only[Jb,eB,dt]at hc
  obtain⟨z7,pd,he⟩:=aS.1 hc
  injection he with _ he
  subst he
  refine wpIn_region_list ?_
  have:=YY dq eZ bf (rd:=rd) (n:=n) (Q:=Q) all.toList 0 z7 G st aO a w pd h aQ hR hd hs hQ
  simpa using this
 | true =>
  simp only[Jb,bZ]at hc
  split at hc
  ·cases hc
  rename_i pre si
  split at hc
  ·rename_i z7 l7
   split at hc
   ·rename_i bH
    injection hc with hc
    injection hc with _ hc
    subst hc
    exact GN dq eZ bf hm si l7 bH h aQ hR hd hs hQ
   ·split at hc
    ·rename_i L0 ain
     split at hc
     ·rename_i bH
      injection hc with hc
      injection hc with _ hc
      subst hc
      exact GN dq eZ bf hm si ain bH h aQ hR hd hs hQ
     ·split at hc
      ·split at hc
       ·rename_i as3 aio
        split at hc
        ·rename_i bH
         injection hc with hc
         injection hc with _ hc
         subst hc
         exact GN dq eZ bf hm si aio bH h aQ hR hd hs hQ
        ·obtain⟨_,OC,Pa⟩:=Yr hc
         exact GN dq eZ bf hm si OC Pa h aQ hR hd hs hQ
       ·cases hc
      ·obtain⟨_,OC,Pa⟩:=Yr hc
       exact GN dq eZ bf hm si OC Pa h aQ hR hd hs hQ
    ·cases hc
  ·cases hc
end
end Go.Ax
/-
  Loops over functions: their records.
-/
namespace Go.Ax
open Go.RowKit
section
variable{P:Program} {B0:Nat} {w0:World} {G:aG} {k nl:Nat} {w:World} {s:ae}
theorem Sq (h:cz P B0 w0 G s w) (o:Obj) {b i:Nat} {v:Value} (e:G.I b i=some v):(w.alloc o).cell? ⟨b,i,none⟩=some v:=by
 have aC:=h.sS e
 rw[World.cell?_alloc_lt _ _ _ (by exact aC)]
 exact h.ff b i v e
theorem aoN (h:At P B0 w0 G k nl s w):∃G',At P B0 w0 G' k nl s (w.alloc (.deferred (some [])))∧bB k s.loops.length G G'∧G'.loops=G.loops∧
  ∃gr,G.ag[k]? =some gr∧G'.ag[k]? =some {gr with marks:=gr.marks++[w.heap.size]}:=by
 obtain⟨r,gr,hr,hg⟩:=h.cI (aH k)
 have aJ:=h.rel.cI k r gr hr hg
 have hlen:G.ag.length=k+1:=by rw[h.rel.len,h.len]
 let G':aG:={G with ag:=G.ag.modify k fun q=>{q with marks:=q.marks++[w.heap.size]},own:=fun b=>if b=w.heap.size then some (.mark k gr.marks.length)else G.own b}
 have gE:G'.ag[k]? =some {gr with marks:=gr.marks++[w.heap.size]}:=by
  show(G.ag.modify k _)[k]? =_
  rw[dQ,ak rfl,hg];rfl
 have hold:∀d,d≠k→G'.ag[d]? =G.ag[d]? :=fun d hd=>by
  show(G.ag.modify k _)[d]? =_
  rw[dQ,aq (qn hd)]
 have hle:∀k' gJ,k'≤k→bB k' gJ G G':=fun k' gJ u2=>⟨fun _ _ _ e=>e,fun d q hd e=>by
  by_cases eR:d=k
  ·subst eR
   rw[hg]at e
   injection e with e
   subst e
   exact⟨_,gE,⟨fun _ _ e=>e,fun _ T e=>⟨T,e,.refl T⟩,rfl,fun _ _ e=>e⟩,fun aC=>by omega⟩
  ·exact⟨q,by rw[hold d eR];exact e,.refl q,fun _=>rfl⟩,fun _ _ _ e=>e⟩
 have ow:jI (fun _=>False) G w G' (w.alloc (.deferred (some []))):=fun b o e _=>by
  have aC:=h.rel.eO b o e
  exact⟨by simp only[G'];rw[aq (by omega)];exact e,Below.heap_alloc _ _ _ aC,fun _ e=>e⟩
 have hs:cz P B0 w0 G' s (w.alloc (.deferred (some []))):=by
  refine⟨fun b i v e=>Sq h.rel _ e,by simp[G',h.rel.len],h.rel.jT,fun d q gq h1 h2=>?_,fun l lp q h1 h2=>?_,fun d q h1=>?_,fun d d' q q' hd h1 h2=>?_,h.rel.below.alloc h.rel.low _,by have:=h.rel.low;simp;omega,fun b o e=>?_⟩
  ·have eR:d≤k:=by have:=(aY.1 h1).1;rw[h.len]at this;omega
   by_cases hd:d=k
   ·subst hd
    rw[gE]at h2
    injection h2 with h2
    subst h2
    rw[hr]at h1
    injection h1 with h1
    subst h1
    have nL:=aJ.cJ (hle d gr.nl (aH _)) ow (fun o ho=>ho.elim)
    refine⟨nL.ek,nL.iV,nL.box,nL.full,nL.tok,fun i b e=>?_,nL.mP⟩
    rcases ev e with⟨_,e⟩|⟨hi,rfl⟩
    ·exact nL.mark i b e
    ·subst hi
     exact⟨h.rel.low,by simp[G'],World.alloc_heap_new w _⟩
   ·rw[hold d hd]at h2
    exact(h.rel.cI d q gq h1 h2).cJ (hle d _ eR) ow (fun o ho=>ho.elim)
  ·have hq:=h.rel.loop l lp q h1 h2
   obtain⟨k1,k2,_⟩:=ow _ _ hq.2.1 (fun x=>x)
   exact hq.cJ (fun k' gJ a1 _=>hle k' gJ (by omega)) (by simp[G']) k1 k2
  ·by_cases hd:d=k
   ·subst hd
    rw[gE]at h1
    injection h1 with h1
    subst h1
    exact h.rel.pE d gr hg
   ·rw[hold d hd]at h1
    exact h.rel.pE d q h1
  ·have get:∀(d:Nat) (q:cE),G'.ag[d]? =some q→∃q0,G.ag[d]? =some q0∧q.nl=q0.nl:=fun d q e=>by
    by_cases hd:d=k
    ·subst hd
     rw[gE]at e
     injection e with e
     subst e
     exact⟨gr,hg,rfl⟩
    ·rw[hold d hd]at e
     exact⟨q,e,rfl⟩
   obtain⟨q0,a1,a2⟩:=get d q h1
   obtain⟨q0',s8,CD⟩:=get d' q' h2
   rw[a2,CD]
   exact h.rel.q9 d d' q0 q0' hd a1 s8
  ·simp only[G']at e
   split at e
   ·rename_i hb;subst hb;simp
   ·have:=h.rel.eO b o e;simp;omega
 exact⟨G',h.to hs (hle k nl (aH _)) rfl,hle k _ (aH _),rfl,gr,hg,gE⟩
theorem ae1 (h:At P B0 w0 G k nl s w) (aQ:s.loops.length=nl) {lp:dA} {rc:Loop} (h1:rc.state=.ready∧lp.ready=true∧lp.eI=none∧rc.pending=none) (hp:rc.params.toList=lp.params) {mu:Mu} (ha:comp P mu rc.assign=some lp.assign)
  (hb:comp P mu rc.body=some lp.body) (ta:kf rc.tmps.size lp.assign=true) (tb:kf rc.tmps.size lp.body=true) (tp:∀p,p∈lp.params→p<rc.tmps.size) (hR:∀t,Rel G k nl (lp.tmps t) (rc.tmps.getD t Go.undef)):
  ∃G',At P B0 w0 G' k nl (enterLoop s lp) (w.alloc (.loop rc))∧bB (k+1) nl G G'∧G'.ag=G.ag∧G'.loops=G.loops++[w.heap.size]:=by
 let G':aG:={G with loops:=G.loops++[w.heap.size],own:=fun b=>if b=w.heap.size then some (.loop nl)else G.own b}
 have nI:G.loops.length=nl:=by rw[h.rel.jT,aQ]
 have hle:∀k' gJ,bB k' gJ G G':=fun k' gJ=>⟨fun _ _ _ e=>e,fun d q hd e=>⟨q,e,.refl q,fun _=>rfl⟩,fun l r _ e=>mO e⟩
 have ow:jI (fun _=>False) G w G' (w.alloc (.loop rc)):=fun b o e _=>by
  have aC:=h.rel.eO b o e
  exact⟨by simp only[G'];rw[aq (by omega)];exact e,Below.heap_alloc _ _ _ aC,fun _ e=>e⟩
 have hlen:G.ag.length=k+1:=by rw[h.rel.len,h.len]
 have hs:cz P B0 w0 G' (enterLoop s lp) (w.alloc (.loop rc)):=by
  refine⟨fun b i v e=>Sq h.rel _ e,h.rel.len,by simp[G',enterLoop,h.rel.jT],fun d q gq a1 a2=>?_,fun l q r a1 a2=>?_,fun d q a1=>?_,h.rel.q9,h.rel.below.alloc h.rel.low _,by have:=h.rel.low;simp;omega,fun b o e=>?_⟩
  ·exact(h.rel.cI d q gq a1 a2).cJ (hle d _) ow (fun o ho=>ho.elim)
  ·rcases ev a1 with⟨hl,a1⟩|⟨hl,rfl⟩
   ·rcases ev a2 with⟨_,a2⟩|⟨pn,_⟩
    ·have hq:=h.rel.loop l q r a1 a2
     obtain⟨k1,k2,_⟩:=ow _ _ hq.2.1 (fun x=>x)
     exact hq.cJ (fun k' gJ _ _=>hle k' gJ) (aH _) k1 k2
    ·omega
   ·have hr:r=w.heap.size:=by
     rcases ev a2 with⟨pn,_⟩|⟨_,e⟩
     ·omega
     ·exact e
    subst hr
    have ai6:l=nl:=by omega
    subst ai6
    refine⟨h.rel.low,by simp[G'],rc,World.alloc_heap_new w _,fun _=>⟨h1.1,h1.2.2.1⟩,fun e=>?_,?_,?_,hp,⟨mu,ha,hb⟩,ta,tb,tp,k,l,?_,aH _,fun d gq e aC=>?_,fun t=>(hR t).mono (hle _ _) (aH _) (aH _)⟩
    ·rw[h1.2.1]at e;cases e
    ·rw[h1.2.2.2,h1.2.2.1];rfl
    ·rw[h1.2.2.1];simp
    ·show k+1≤G.ag.length
     omega
    ·have e':G.ag[d]? =some gq:=e
     have:=h.rel.pE d gq e'
     omega
  ·have:=h.rel.pE d q a1
   simp[enterLoop];omega
  ·simp only[G']at e
   split at e
   ·rename_i hb;subst hb;simp
   ·have:=h.rel.eO b o e;simp;omega
 obtain⟨gr,g1,g2⟩:=h.cur
 exact⟨G',⟨hs,h.len,gr,g1,g2⟩,hle _ _,rfl,rfl⟩
theorem asF (h:cz P B0 w0 G s w) {l r:Nat} {lp mV:dA} {rc na:Loop} (hl:s.loops[l]? =some lp) (hr:G.loops[l]? =some r) (kO:w.heap[r]? =some (.loop rc)) {f:dA→dA} (hf:f lp=mV) (ho:pN P G l mV na):
  cz P B0 w0 G (eA s l f) (w.putObj r (.loop na)):=by
 obtain⟨b1,b2,_⟩:=h.loop l lp r hl hr
 have ow:jI (· =.loop l) G w G (w.putObj r (.loop na)):=fun b o e ho=>⟨e,World.putObj_heap_other (fun hb=>ho (by subst hb;rw[b2]at e;injection e with e;exact e.symm)),fun _ e=>e⟩
 have et:r<w.heap.size:=(tZ.1 kO).1
 refine⟨fun b i v e=>?_,h.len,by simp[eA,h.jT],fun d q gq a1 a2=>?_,fun l' q r' a1 a2=>?_,fun d q a1=>?_,h.q9,?_,by rw[World.putObj_size];exact h.low,fun b o e=>by rw[World.putObj_size];exact h.eO b o e⟩
 ·have:=h.ff b i v e
  by_cases hb:b=r
  ·subst hb
   simp only[World.cell?,kO]at this
   cases this
  ·have hh:(w.putObj r (.loop na)).heap[b]? =w.heap[b]? :=World.putObj_heap_other hb
   rw[←this]
   simp only[World.cell?,hh]
 ·exact(h.cI d q gq a1 a2).cJ (bB.refl _ _ _) ow (fun o ho=>by subst ho;exact⟨fun _ e=>(by cases e),fun _ e=>(by cases e),fun _ e=>(by cases e)⟩)
 ·simp only[eA,dQ]at a1
  by_cases aQ:l=l'
  ·subst aQ
   rw[ak rfl,hl]at a1
   simp only[dP,fL]at a1
   rw[hr]at a2
   injection a2 with a2
   subst a2
   rw[hf]at a1
   subst a1
   exact⟨b1,b2,na,World.putObj_heap_same et,ho⟩
  ·rw[aq aQ]at a1
   have hq:=h.loop l' q r' a1 a2
   obtain⟨k1,k2,_⟩:=ow _ _ hq.2.1 (fun e=>aQ (by injection e with e;exact e.symm))
   exact hq.cJ (fun _ _ _ _=>bB.refl _ _ _) (aH _) k1 k2
 ·have:=h.pE d q a1
  simp[eA];omega
 ·exact h.below.trans ⟨rfl,rfl,rfl,by simp,fun c hc=>World.putObj_heap_other (by omega)⟩
theorem aoi (h:At P B0 w0 G k nl s w) (aQ:s.loops.length=nl+1) {r:Nat} {lp:dA} {rc:Loop} {o':Obj} (hl:s.loops[nl]? =some lp) (hr:G.loops[nl]? =some r) (kO:w.heap[r]? =some (.loop rc)):
  ∃G',At P B0 w0 G' k nl {s with loops:=s.loops.take nl} (w.putObj r o')∧bB (k+1) nl G G'∧G'.ag=G.ag:=by
 obtain⟨b1,b2,_⟩:=h.rel.loop nl lp r hl hr
 let G':aG:={G with loops:=G.loops.take nl,own:=fun b=>if b=r then none else G.own b}
 have hle:∀k' gJ,gJ≤nl→bB k' gJ G G':=fun k' gJ hn=>⟨fun _ _ _ e=>e,fun d q hd e=>⟨q,e,.refl q,fun _=>rfl⟩,fun l r aC e=>by
  show(G.loops.take nl)[l]? =_
  rw[xR,ak (by omega)]
  exact e⟩
 have ow:jI (· =.loop nl) G w G' (w.putObj r o'):=fun b o e ho=>by
  have hb:b≠r:=fun hb=>ho (by subst hb;rw[b2]at e;injection e with e;exact e.symm)
  exact⟨by simp only[G'];rw[aq hb];exact e,World.putObj_heap_other hb,fun _ e=>e⟩
 have hlen:G.ag.length=k+1:=by rw[h.rel.len,h.len]
 obtain⟨gk,g1,g2⟩:=h.cur
 have W8:∀(d:Nat) (q:cE),G.ag[d]? =some q→q.nl≤nl:=fun d q e=>by
  have hd:d≤k:=by have:=(aY.1 e).1;omega
  rw[←g2]
  exact h.rel.q9 d k q gk hd e g1
 have hs:cz P B0 w0 G' {s with loops:=s.loops.take nl} (w.putObj r o'):=by
  refine⟨fun b i v e=>?_,h.rel.len,by simp[G',h.rel.jT],fun d q gq a1 a2=>?_,fun l' q r' a1 a2=>?_,fun d q a1=>?_,h.rel.q9,?_,by rw[World.putObj_size];exact h.rel.low,fun b o e=>?_⟩
  ·have:=h.rel.ff b i v e
   by_cases hb:b=r
   ·subst hb
    simp only[World.cell?,kO]at this
    cases this
   ·have hh:(w.putObj r o').heap[b]? =w.heap[b]? :=World.putObj_heap_other hb
    rw[←this]
    simp only[World.cell?,hh]
  ·exact(h.rel.cI d q gq a1 a2).cJ (hle d _ (W8 d gq a2)) ow (fun o ho=>by subst ho;exact⟨fun _ e=>(by cases e),fun _ e=>(by cases e),fun _ e=>(by cases e)⟩)
  ·have s8:(s.loops.take nl)[l']? =some q:=a1
   have CD:(G.loops.take nl)[l']? =some r':=a2
   rw[xR]at s8 CD
   split at s8
   ·rename_i aC
    rw[ak aC]at CD
    have hq:=h.rel.loop l' q r' s8 CD
    obtain⟨k1,k2,_⟩:=ow _ _ hq.2.1 (fun e=>by injection e with e;omega)
    exact hq.cJ (fun k' gJ _ hn=>hle k' gJ (by omega)) (aH _) k1 k2
   ·cases s8
  ·have s8:G.ag[d]? =some q:=a1
   have:=W8 d q s8
   simp;omega
  ·exact h.rel.below.trans ⟨rfl,rfl,rfl,by simp,fun c hc=>World.putObj_heap_other (by omega)⟩
  ·rw[World.putObj_size]
   simp only[G']at e
   split at e
   ·cases e
   ·exact h.rel.eO b o e
 exact⟨G',⟨hs,h.len,gk,g1,g2⟩,hle _ _ (aH _),rfl⟩
end
end Go.Ax
/-
  Code.
-/
namespace Go.Ax
open Go.RowKit
def AT:c8→Exit
 |.normal=>.normal
 |.exit id=>.exit id
 |.ret=>.ret
section
variable{P:Program} {B0:Nat} {w0:World} {G:aG} {k nl:Nat} {w:World} {s:ae} {base:List Nat}
def xX (rd:Option Nat) (G:aG) (nl:Nat):Prop:=∀r,rd=some r→∃l:Nat,l<nl∧G.loops[l]? =some r
def Defs (rd : Option Nat) (base : List Nat) (G : aG) (k : Nat) (a : Act) : Prop := rd = none → ∃ gr new, G.ag[k]? = some gr ∧ gr.marks = base ++ new ∧ a.defers = (new.map fun b => (⟨.collected b, #[]⟩ : Deferred)).reverse
def xN (P:Program) (B0:Nat) (w0:World) (rd:Option Nat) (base:List Nat) (G:aG) (k nl:Nat) (a:Act) (e:c8) (aO:St):Exit→Act→World→Prop:=fun x a' w'=>
 x=AT e∧∃G',At P B0 w0 G' k nl aO.sig w'∧bB k nl G G'∧aO.sig.loops.length=nl∧eC G' k nl aO.tmps a'∧a'.tmps.size=a.tmps.size∧Defs rd base G' k a'
theorem xX.mono {rd:Option Nat} {G':aG} (h:xX rd G nl) (hle:bB k nl G G'):xX rd G' nl:=fun r e=>by
 obtain⟨l,h1,h2⟩:=h r e
 exact⟨l,h1,hle.loops l r h1 h2⟩
theorem Defs.mono {rd:Option Nat} {G':aG} {a a':Act} (h:Defs rd base G k a) (hle:bB (k+1) nl G G') (hd:a'.defers=a.defers):Defs rd base G' k a':=fun e=>by
 obtain⟨gr,new,h1,h2,h3⟩:=h e
 obtain⟨bI,g1,_,g3⟩:=hle.ag k gr (by omega) h1
 exact⟨bI,new,g1,by rw[g3 (by omega),h2],by rw[hd,h3]⟩
theorem ae2 {rd:Option Nat} {a:Act} (h:At P B0 w0 G k nl s w) (aQ:s.loops.length=nl) (iR:xX rd G nl) (iz:Defs rd base G k a) (ps:Array Tmp) (assign body:Code):
  ∃wm Gm mark,At P B0 w0 Gm k nl s wm∧bB k nl G Gm∧Gm.loops=G.loops∧Defs rd base Gm k {a with defers:=mark++a.defers}∧∀fn,∃rc:Loop,(Instr.enterLoop fn a.tmps ps assign body rd).run P w=.ok (wm.heap.size,mark) (wm.alloc (.loop rc))∧
   rc.state=.ready∧rc.pending=none∧rc.tmps=a.tmps∧rc.params=ps∧rc.assign=assign∧rc.body=body:=by
 cases rd with
 | none =>
  obtain⟨Gm,g1,g2,g3,gr,g4,g5⟩:=aoN h
  obtain⟨bI,new,e1,e3,e2⟩:=iz rfl
  rw[g4]at e1
  injection e1 with e1
  subst e1
  refine ⟨_, Gm, [{ target := .collected w.heap.size, args := #[] }], g1, by rw [aQ] at g2; exact g2, g3, fun _ => ⟨_, new ++ [w.heap.size], g5, by simp [e3], ?_⟩, fun fn => ⟨{ state := .ready, pending := none, fn, tmps := a.tmps, params := ps, assign, body, defers := w.heap.size }, ?_, rfl, rfl, rfl, rfl, rfl, rfl⟩⟩
  ·simp[e2]
  ·have:=run_enterLoop_outer (P:=P) (w:=w) fn a.tmps ps assign body
   rw[this]
   simp
 |some r0=>
  obtain⟨l,h1,h2⟩:=iR r0 rfl
  have aC:l<s.loops.length:=by omega
  obtain⟨_,_,rc0,h3,_⟩:=h.rel.loop l _ r0 (cM aC) h2
  refine⟨w,G,[],h,.refl _ _ _,rfl,fun e=>(by cases e),fun fn=>⟨{state:=.ready,pending:=none,fn,tmps:=a.tmps,params:=ps,assign,body,defers:=rc0.defers},?_,rfl,rfl,rfl,rfl,rfl,rfl⟩⟩
  have:=run_getLoop (P:=P) h3
  unfold Instr.enterLoop
  simp only[Sem.run_bind,this,run_newObj_alloc,Result.andThen,Sem.run_pure]
theorem arJ {call:aW} (dq:kX P B0 w0 call) {rd:Option Nat} {n:Nat} {f:Operand} {af:aF} {ps:Array Tmp} {assign body:Code} {zZ ab:au} {st aO:St} {a:Act} {e:c8} {lf:Nat}
  (h:At P B0 w0 G k nl st.sig w) (aQ:st.sig.loops.length=nl) (hR:eC G k nl st.tmps a) (iR:xX rd G nl) (iz:Defs rd base G k a) (cf:dw f=some af) {mu:Mu} (ca:comp P mu assign=some zZ) (cb:comp P mu body=some ab)
  (tp:∀p,p∈ps.toList→p<a.tmps.size) (ta:kf a.tmps.size zZ=true) (tb:kf a.tmps.size ab=true) (he:exec call lf (.rangeFunc af ps.toList zZ ab) st=some (e,aO)):
  (Code.rangeFunc f ps assign body).wpIn (iK rd) n P (xN P B0 w0 rd base G k nl a e aO) a w:=by
 simp only[exec]at he
 split at he
 case h_2=>cases he
 rename_i g first caps uW
 split at he
 case h_2=>cases he
 rename_i res s hc
 split at he
 case h_2=>cases he
 rename_i pe s1 cT
 injection he with he
 injection he with kN jv
 subst kN jv
 rw[aQ]at hc cT
 have p9:=dc cf hR
 rw[uW]at p9
 obtain⟨a1,a2,hfv,l1,l2,r1,r2⟩:=p9.BG
 obtain⟨wm,Gm,mark,m1,m2,m3,m4,m5⟩:=ae2 h aQ iR iz ps assign body
 refine wpIn_rangeFunc fun fn _=>?_
 obtain⟨rc,q1,q2,q3,q4,q5,q6,q7⟩:=m5 fn
 obtain⟨G1,e1,e2,e3,e4⟩:=ae1 (lp:=⟨true,none,st.tmps,ps.toList,zZ,ab⟩) (rc:=rc) m1 aQ ⟨q2,rfl,rfl,q3⟩ (by rw[q5]) (by rw[q6];exact ca) (by rw[q7];exact cb) (by rw[q4];exact ta) (by rw[q4];exact tb) (by rw[q4];exact tp)
  (fun t=>by rw[q4];exact(hR t).mono m2 (aH _) (aH _))
 have Wd:bB k nl G G1:=m2.trans (e2.less (by omega) (aH _))
 have nI:Gm.loops.length=nl:=by rw[m1.rel.jT,aQ]
 have gG:G1.loops[nl]? =some wm.heap.size:=by rw[e4,gM (by omega)];simp[nI]
 have dz := dq.fn G1 k (nl + 1) _ _ g (first ++ .yield nl :: caps) (a1 ++ #[.func (.yield wm.heap.size) #[] #[]] ++ a2) res s e1.rel (by simp [enterLoop, h.len]) (by simp [enterLoop, h.len]) (by simp [enterLoop, aQ]) (by simp [l1, l2]; omega) (fun i hi => by
  rw[A0,A0]
  simp only[ck,dJ]at hi
  by_cases h1:i<first.length
  ·rw[ak (by simp;omega),ak (by omega)]
   have e:(first++AV.yield nl::caps)[i]=first[i]:=ug h1
   rw[e]
   exact .cl ((r1 i h1).mono Wd.I)
  ·by_cases h2:i=first.length
   ·subst h2
    rw[ak (by simp;omega),aq (by omega)]
    have e:(first++AV.yield nl::caps)[first.length]=.yield nl:=by
     rw[uh (aH _)]
     simp
    have e' : (#[Value.func (.yield wm.heap.size) #[] #[]] : Array Value).getD (first.length - a1.size) Go.undef = .func (.yield wm.heap.size) #[] #[] := by rw [l1, HC]; rfl
    rw[e,e']
    exact .yield (by omega) gG
   ·rw[aq (by simp;omega)]
    have e:(first++AV.yield nl::caps)[i]=caps[i-(first.length+1)]'(by omega):=by
     rw[uh (by omega)]
     have:i-first.length=(i-(first.length+1))+1:=by omega
     simp only[this,Hm]
    have e' : (a1 ++ #[Value.func (.yield wm.heap.size) #[] #[]]).size = first.length + 1 := by simp [l1]
    rw[e,e']
    exact(r2 _ _).mono Wd (aH _) (sY _)) hc
 obtain⟨yP,OA⟩:=dz
 have jR : (resolve a.eval (rangeCall f wm.heap.size) 0).run P (wm.alloc (.loop rc)) = .ok { target := .fn (.func g) a2, args := a1 ++ #[.func (.yield wm.heap.size) #[] #[]] } (wm.alloc (.loop rc)) := by
  have O0 : (rangeCall f wm.heap.size).args.map a.eval = #[.func (.yield wm.heap.size) #[] #[]] := by simp [Act.eval]
  simp only[resolve,hfv,O0,KH (P:=P) rfl]
 refine⟨_,mark,_,_,_,g,_,_,by rw[af0];exact q1,jR,fun f' _=>NW rd f',yP.run _ _,(by rw[Jn];intro h;cases h),?_⟩
 refine CallsIn.mono (Jm rd OA) fun en w3 hen=>?_
 obtain⟨z,rfl,G2,c1,c2,c3,c4,c5⟩:=hen
 have r5:At P B0 w0 G2 k nl s w3:=by
  have eN:(enterLoop st.sig ⟨true,none,st.tmps,ps.toList,zZ,ab⟩).loops.length=nl+1:=by simp[enterLoop,aQ]
  exact e1.to c1 (c4.less (by omega) (by omega)) c2
 have pn:s.loops.length=nl+1:=by rw[c3];simp[enterLoop,aQ]
 have eN:(enterLoop st.sig ⟨true,none,st.tmps,ps.toList,zZ,ab⟩).loops.length=nl+1:=by simp[enterLoop,aQ]
 unfold xn at cT
 rw[ak pn]at cT
 split at cT
 case h_2=>cases cT
 rename_i lp sg
 split at cT
 case isFalse=>cases cT
 rename_i Gd
 injection cT with cT
 injection cT with Pz PA
 subst Pz PA
 have xe:G2.loops[nl]? =some wm.heap.size:=c4.loops nl _ (by omega) gG
 obtain⟨b1,b2,ql,b3,b4⟩:=c1.loop nl lp _ sg xe
 obtain⟨o1,o2,o3,o4,_⟩:=b4
 have aik:ql.state≠.busy:=by
  rcases Gd with hr|hr
  ·rw[(o1 hr).1];simp
  ·cases aJ:lp.ready with
   |true=>rw[(o1 aJ).1];simp
   |false=>rw[o2 aJ,ak hr];simp
 have Bk:=run_endLoop (P:=P) b3 aik
 obtain⟨G3,d1,d2,d3⟩:=aoi (o':=.loop {ql with state:=.exhausted}) r5 pn sg xe b3
 have Oi:bB (k+1) nl Gm G2:=e2.trans (c4.less (aH _) (by omega))
 have Wf:bB (k+1) nl Gm G3:=Oi.trans d2
 have Wg:bB k nl G G3:=m2.trans (Wf.less (by omega) (aH _))
 have pq:∀ex,ex=AT (lp.eI.getD .normal)→xN P B0 w0 rd base G k nl a (lp.eI.getD .normal) ⟨st.tmps,{s with loops:=s.loops.take nl}⟩ ex {a with defers:=mark++a.defers} (w3.putObj wm.heap.size (.loop {ql with state:=.exhausted})):=fun ex hex=>
  ⟨hex,G3,d1,Wg,by simp[pn],fun t=>(hR t).mono Wg (aH _) (aH _),rfl,m4.mono Wf rfl⟩
 generalize w3.putObj wm.heap.size (.loop {ql with state:=.exhausted})=w4 at pq Bk
 refine⟨ql.pending,w4,Bk,?_⟩
 rw[o3]
 cases J3:lp.eI with
 |none=>
  rw[J3]at pq
  exact pq _ rfl
 |some pe=>
  rw[J3]at pq
  cases pe with
  |normal=>exact absurd J3 o4
  |exit id=>exact wpIn_exit (pq _ rfl)
  |ret=>exact wpIn_ret (pq _ rfl)
theorem least {p:Nat→Prop} (h:∃m,p m):∃m,p m∧∀j,j<m→¬p j:=by
 obtain⟨m,hm⟩:=h
 induction m using Nat.strongRecOn with
 | _ m ih =>
  by_cases hj:∃j,j<m∧p j
  ·obtain⟨j,h1,h2⟩:=hj
   exact ih j h1 h2
  ·exact⟨m,hm,fun j h1 h2=>hj ⟨j,h1,h2⟩⟩
theorem atL {F:Fence} {n:Nat} {c:Code} {Q:Exit→Act→World→Prop} {a:Act} {w:World} (D:Nat→Act→World→Prop) {m:Nat} (h0:D m a w)
  (hs:∀m a w,D m a w→c.wpIn F n P (Exit.then (fun a' w'=>∃j,j<m∧D j a' w') Q) a w):(Code.loop c).wpIn F n P Q a w:=by
 classical
 refine wpIn_loop (fun a w=>∃m,D m a w) (fun a w=>if h:∃m,D m a w then(least h).choose else 0) ⟨m,h0⟩ fun a w hI=>?_
 have hc:=(least hI).choose_spec
 refine wpIn_mono (hs _ a w hc.1) fun e a' w' hq=>?_
 cases e with
 |normal=>
  obtain⟨j,h1,h2⟩:=hq
  refine⟨⟨j,h2⟩,?_⟩
  rw[Jf hI,Jf ⟨j,h2⟩]
  have pd:=(least (p:=fun m=>D m a' w') ⟨j,h2⟩).choose_spec
  have:¬j<(least (p:=fun m=>D m a' w') ⟨j,h2⟩).choose:=fun aC=>pd.2 j aC h2
  omega
 |_=>exact hq
theorem xN.trans {rd:Option Nat} {G1:aG} {a a1:Act} {e:c8} {aO:St} {x:Exit} {a':Act} {w':World} (hle:bB k nl G G1) (hs:a1.tmps.size=a.tmps.size) (h:xN P B0 w0 rd base G1 k nl a1 e aO x a' w'):
  xN P B0 w0 rd base G k nl a e aO x a' w':=by
 obtain⟨h1,G',h2,h3,h4,h5,h6,h7⟩:=h
 exact⟨h1,G',h2,hle.trans h3,h4,h5,h6.trans hs,h7⟩
theorem Jj {call:aW} (dq:kX P B0 w0 call) (eZ:nY P B0 w0 call) (bf:ij call) (hm:P.follows .mixedOrders=true) {rd:Option Nat} {n lf:Nat} {mu:Mu}:∀(c:Code) (ac:au) (G:aG) (st aO:St) (a:Act) (w:World) (e:c8),comp P mu c=some ac→
  At P B0 w0 G k nl st.sig w→st.sig.loops.length=nl→eC G k nl st.tmps a→kf a.tmps.size ac=true→xX rd G nl→Defs rd base G k a→exec call lf ac st=some (e,aO)→
  c.wpIn (iK rd) n P (xN P B0 w0 rd base G k nl a e aO) a w:=by
 intro c
 induction c with
 |skip=>
  intro ac G st aO a w e hc h aQ hR ht iR iz he
  simp only[comp]at hc
  injection hc with hc
  subst hc
  simp only[exec]at he
  injection he with he
  injection he with h1 h2
  subst h1 h2
  exact wpIn_skip ⟨rfl,G,h,.refl _ _ _,aQ,hR,rfl,iz⟩
 | region id l drawn =>
  intro ac G st aO a w e hc h aQ hR ht iR iz he
  simp only[comp]at hc
  obtain⟨⟨n0,as⟩,has,rfl⟩:=aS.1 hc
  have key:∀(G:aG) (st:St),At P B0 w0 G k nl st.sig w→st.sig.loops.length=nl→eC G k nl st.tmps a→kf a.tmps.size (.region drawn as)=true→Defs rd base G k a→exec call lf (.region drawn as) st=some (e,aO)→
    (Code.region id l drawn).wpIn (iK rd) n P (xN P B0 w0 rd base G k nl a e aO) a w:=fun G st h aQ hR ht iz he=>by
   simp only[exec]at he
   obtain⟨de,hs,he⟩:=aS.1 he
   injection he with h1 h2
   subst h1 h2
   simp only[kf]at ht
   refine arO dq eZ bf hm has h aQ hR (fun o ho t hd=>?_) hs fun a' w' hp=>?_
   ·have:=jJ.1 ht o ho
    rw[hd]at this
    simpa using this
   ·obtain⟨G',g1,g2,g3,g4,g5,g6⟩:=hp
    rw[aQ]at g2 g3
    exact⟨rfl,G',g1,g2.less (by omega) (aH _),g3,g4,g5,iz.mono g2 g6⟩
  cases n0 with
  |zero=>exact key G st h aQ hR ht iz he
  | succ n0 =>
   obtain⟨G1,r1,r2,r3,_⟩:=arU h (n0+1)
   simp only[QK,kf,dI]at ht
   have kz:exec call lf (.region drawn as) ⟨st.tmps,st.sig.lO (n0+1)⟩=some (e,aO):=by
    simpa[QK,exec,ops,kG,aM,kF]using he
   rw[aQ]at r2 r3
   have hle:bB k nl G G1:=r2.less (by omega) (aH _)
   refine wpIn_mono (key G1 ⟨st.tmps,st.sig.lO (n0+1)⟩ r1 r3 (fun t=>(hR t).mono hle (aH _) (aH _)) ht.2 (iz.mono r2 rfl) kz) fun x a' w' hp=>?_
   obtain⟨h1,G',h2,h3,h4,h5,h6,h7⟩:=hp
   exact⟨h1,G',h2,hle.trans h3,h4,h5,h6,h7⟩
 | seq x y Gp Ko =>
  intro ac G st aO a w e hc h aQ hR ht iR iz he
  simp only[comp]at hc
  split at hc
  case h_2=>cases hc
  rename_i ax ay e1 e2
  injection hc with hc
  subst hc
  simp only[kf,dI]at ht
  simp only[exec]at he
  split at he
  ·rename_i de hx
   refine wpIn_seq (wpIn_mono (Gp ax G st de a w .normal e1 h aQ hR ht.1 iR iz hx) fun ex a1 w1 hp=>?_)
   obtain⟨rfl,G1,g1,g2,g3,g4,g5,g6⟩:=hp
   exact wpIn_mono (Ko ay G1 de aO a1 w1 e e2 g1 g3 g4 (by rw[g5];exact ht.2) (iR.mono g2) g6 he) fun ex a2 w2 hq=>hq.trans g2 g5
  ·rename_i aB
   refine wpIn_seq (wpIn_mono (Gp ax G st aO a w e e1 h aQ hR ht.1 iR iz he) fun ex a1 w1 hp=>?_)
   have hx:=hp.1
   subst hx
   cases e with
   |normal=>exact absurd he (aB _)
   |exit id=>exact hp
   |ret=>exact hp
 |cond cc x y Gp Ko=>
  intro ac G st aO a w e hc h aQ hR ht iR iz he
  simp only[comp]at hc
  split at hc
  case h_2=>cases hc
  rename_i z ax ay e0 e1 e2
  injection hc with hc
  subst hc
  simp only[kf,dI]at ht
  simp only[exec]at he
  split at he
  case h_2=>cases he
  rename_i t hz
  have hv:=dc e0 hR
  rw[hz]at hv
  refine wpIn_cond hv.gu ?_
  cases t with
  |true=>exact Gp ax G st aO a w e e1 h aQ hR ht.1 iR iz (by simpa using he)
  |false=>exact Ko ay G st aO a w e e2 h aQ hR ht.2 iR iz (by simpa using he)
 | block id x ih =>
  intro ac G st aO a w e hc h aQ hR ht iR iz he
  simp only[comp]at hc
  obtain⟨ax,e1,rfl⟩:=aS.1 hc
  simp only[kf]at ht
  simp only[exec]at he
  split at he
  ·rename_i j de hx
   refine wpIn_block (wpIn_mono (ih ax G st de a w (.exit j) e1 h aQ hR ht iR iz hx) fun ex a1 w1 hp=>?_)
   obtain⟨rfl,hp⟩:=hp
   simp only[AT,Exit.inBlock]
   split at he
   ·rename_i hj
    injection he with he
    injection he with h1 h2
    subst h1 h2
    rw[ak hj]
    exact⟨rfl,hp⟩
   ·rename_i hj
    injection he with he
    injection he with h1 h2
    subst h1 h2
    rw[aq hj]
    exact⟨rfl,hp⟩
  ·rename_i aB
   refine wpIn_block (wpIn_mono (ih ax G st aO a w e e1 h aQ hR ht iR iz he) fun ex a1 w1 hp=>?_)
   have hx:=hp.1
   subst hx
   cases e with
   |exit j=>exact absurd he (aB _ _)
   |normal=>exact hp
   |ret=>exact hp
 | loop x ih =>
  intro ac G st aO a w e hc h aQ hR ht iR iz he
  simp only[comp]at hc
  obtain⟨ax,e1,rfl⟩:=aS.1 hc
  simp only[kf]at ht
  simp only[exec]at he
  refine atL (fun m a1 w1=>∃G1 de,At P B0 w0 G1 k nl de.sig w1∧bB k nl G G1∧de.sig.loops.length=nl∧eC G1 k nl de.tmps a1∧a1.tmps.size=a.tmps.size∧Defs rd base G1 k a1∧lI (exec call lf ax) m de=some (e,aO))
   (m:=lf) ⟨G,st,h,.refl _ _ _,aQ,hR,rfl,iz,he⟩ fun m a1 w1 hD=>?_
  obtain⟨G1,de,g1,g2,g3,g4,g5,g6,hl⟩:=hD
  cases m with
  |zero=>simp[lI]at hl
  | succ m =>
   simp only[lI]at hl
   split at hl
   ·rename_i vx hx
    refine wpIn_mono (ih ax G1 de vx a1 w1 .normal e1 g1 g3 g4 (by rw[g5];exact ht) (iR.mono g2) g6 hx) fun ex a2 w2 hp=>?_
    obtain⟨rfl,G2,q1,q2,q3,q4,q5,q6⟩:=hp
    exact⟨m,by omega,G2,vx,q1,g2.trans q2,q3,q4,q5.trans g5,q6,hl⟩
   ·rename_i aB
    refine wpIn_mono (ih ax G1 de aO a1 w1 e e1 g1 g3 g4 (by rw[g5];exact ht) (iR.mono g2) g6 hl) fun ex a2 w2 hp=>?_
    have hx:=hp.1
    subst hx
    cases e with
    |normal=>exact absurd hl (aB _)
    |exit j=>exact hp.trans g2 g5
    |ret=>exact hp.trans g2 g5
 |rangeFunc f ps x y Gp Ko=>
  intro ac G st aO a w e hc h aQ hR ht iR iz he
  simp only[comp]at hc
  split at hc
  case h_2=>cases hc
  rename_i z ax ay e0 e1 e2
  injection hc with hc
  subst hc
  simp only[kf,dI]at ht
  exact arJ dq h aQ hR iR iz e0 e1 e2 (fun p hp=>by simpa using jJ.1 ht.1.1 p hp) ht.1.2 ht.2 he
 |exit id=>
  intro ac G st aO a w e hc h aQ hR ht iR iz he
  simp only[comp]at hc
  injection hc with hc
  subst hc
  simp only[exec]at he
  injection he with he
  injection he with h1 h2
  subst h1 h2
  exact wpIn_exit ⟨rfl,G,h,.refl _ _ _,aQ,hR,rfl,iz⟩
 |ret=>
  intro ac G st aO a w e hc h aQ hR ht iR iz he
  simp only[comp]at hc
  injection hc with hc
  subst hc
  simp only[exec]at he
  injection he with he
  injection he with h1 h2
  subst h1 h2
  exact wpIn_ret ⟨rfl,G,h,.refl _ _ _,aQ,hR,rfl,iz⟩
 |_=>
  intro ac G st aO a w e hc
  simp[comp]at hc
end
end Go.Ax
/-
  What an execution may not write to.
-/
namespace Go.Ax
open Go.RowKit
theorem Fr.refl (s:ae):Fr s s:=⟨rfl,rfl,rfl,rfl,fun _ _=>rfl,fun _ _=>rfl⟩
theorem Fr.trans {a b c:ae} (h:Fr a b) (k:Fr b c):Fr a c:=
 ⟨k.xZ.trans h.xZ,k.jT.trans h.jT,k.ro.trans h.ro,k.bg.trans h.bg,fun d hd=>(k.ag d (by rw[h.ro];exact hd)).trans (h.ag d hd),fun l hl=>(k.loops l (by rw[h.bg];exact hl)).trans (h.loops l hl)⟩
theorem Fr.br (s:ae) {d:Nat} (hd:s.ro≤d) (f:Rec→Rec):Fr s (s.br d f):=
 ⟨by simp[ae.br],rfl,rfl,rfl,fun d' h=>by simp only[ae.br,dQ];rw[aq (by omega)],fun _ _=>rfl⟩
theorem Fr.fit {m m':ae} {d:Nat} {x y:AV} (hd:m.ro≤d) (hc:m.ro≤m.cur) (h:m.fit d x=some (y,m')):Fr m m':=by
 unfold ae.fit at h
 split at h
 ·split at h
  ·injection h with h;injection h with _ h;subst h;exact .refl _
  ·split at h
   ·rename_i d' g es xs _ bn
    injection h with h
    injection h with _ h
    subst h
    have h1:Fr m (m.mz d' g none):=Fr.br m (by rw[bn.1];exact hc) _
    exact h1.trans (Fr.br _ (by rw[h1.ro];exact hd) _)
   ·injection h with h;injection h with _ h;subst h;exact .refl _
 ·split at h
  ·injection h with h;injection h with _ h;subst h;exact .refl _
  ·cases h
 ·split at h
  ·injection h with h;injection h with _ h;subst h;exact .refl _
  ·cases h
 ·obtain⟨z,_,h⟩:=aS.1 h
  injection h with _ h
  subst h
  exact .refl _
theorem Fr.cur {m m':ae} (h:Fr m m'):m'.cur=m.cur:=by simp[ae.cur,h.xZ]
theorem Fr.fitAll {d:Nat}:∀{xs ys:List AV} {m m':ae},m.ro≤d→m.ro≤m.cur→m.fitAll d xs=some (ys,m')→Fr m m'
 |[],ys,m,m',_,_,h=>by
  simp only[ae.fitAll]at h
  injection h with h
  injection h with _ h
  subst h
  exact .refl _
 | x :: r, ys, m, m', hd, hc, h => by
  simp only[ae.fitAll]at h
  split at h
  ·cases h
  ·rename_i y m1 h1
   have f1:=Fr.fit hd hc h1
   split at h
   ·cases h
   ·rename_i s m2 h2
    injection h with h
    injection h with _ h
    subst h
    exact f1.trans (Fr.fitAll (by rw[f1.ro];exact hd) (by rw[f1.ro,f1.cur];exact hc) h2)
theorem Fr.store {m m':ae} {n:Nat} {x y:AV} (hc:m.ro≤m.cur) (h:m.store n x y=some m'):Fr m m':=by
 unfold ae.store at h
 split at h
 ·split at h
  ·rename_i bn
   split at h
   ·cases h
   ·rename_i cs m1 h1
    have f1:Fr m m1:=by
     split at h1
     ·injection h1 with h1;injection h1 with _ h1;subst h1;exact .refl _
     ·exact Fr.fitAll bn.1 hc h1
    split at h
    ·cases h
    ·split at h
     ·injection h with h
      subst h
      exact f1.trans (Fr.br _ (by rw[f1.ro];exact bn.1) _)
     ·cases h
  ·cases h
 ·cases h
theorem Fr.dF {m:ae} (hc:m.ro≤m.cur) (cs:List AV):Fr m (m.dF cs).2:=Fr.br m hc _
theorem Fr.append {m m':ae} {es:Nat} {x y v:AV} (hc:m.ro≤m.cur) (h:ej m es x y=some (v,m')):Fr m m':=by
 unfold ej at h
 split at h
 ·split at h
  ·injection h with h;injection h with _ h;subst h;exact .refl _
  ·split at h
   ·split at h
    ·injection h with h;injection h with _ h;subst h;exact Fr.br m hc _
    ·injection h with h;injection h with _ h;subst h;exact Fr.br m hc _
    ·split at h
     ·rename_i bn
      injection h with h;injection h with _ h;subst h;exact Fr.br m bn.1 _
     ·cases h
    ·cases h
   ·cases h
 ·cases h
theorem Fr.vY {m m':ae} {es:Nat} {x y v:AV} (hc:m.ro≤m.cur) (h:vZ m es x y=some (v,m')):Fr m m':=by
 unfold vZ at h
 split at h
 ·split at h
  ·split at h
   ·injection h with h;injection h with _ h;subst h;exact .refl _
   ·injection h with h;injection h with _ h;subst h;exact .refl _
   ·cases h
  ·split at h
   ·split at h
    ·split at h
     ·injection h with h;injection h with _ h;subst h;exact Fr.dF hc _
     ·cases h
    ·split at h
     ·split at h
      ·split at h
       ·injection h with h;injection h with _ h;subst h;exact Fr.br m hc _
       ·cases h
      ·cases h
     ·cases h
    ·cases h
   ·cases h
 ·cases h
theorem Fr.vX {m m':ae} {es:Nat} {x y v:AV} (hc:m.ro≤m.cur) (h:x4 m es x y=some (v,m')):Fr m m':=by
 unfold x4 at h
 split at h
 ·split at h
  ·cases h
  ·split at h
   ·injection h with h;injection h with _ h;subst h;exact Fr.dF hc _
   ·exact Fr.vY hc h
 ·cases h
theorem Fr.copy {m m':ae} {x y v:AV} (hc:m.ro≤m.cur) (h:AN m x y=some (v,m')):Fr m m':=by
 unfold AN at h
 split at h
 ·obtain⟨_,_,h⟩:=aS.1 h
  injection h with _ h
  subst h
  exact .refl _
 ·split at h
  ·obtain⟨_,_,h⟩:=da.1 h
   split at h
   ·injection h with h;injection h with _ h;subst h;exact .refl _
   ·obtain⟨_,hs,h⟩:=aS.1 h
    injection h with _ h
    subst h
    exact Fr.store hc hs
  ·cases h
 ·cases h
theorem Fr.freeze {m m':ae} {x v:AV} (hc:m.ro≤m.cur) (h:AY m x=some (v,m')):Fr m m':=by
 unfold AY at h
 split at h
 ·split at h
  ·obtain⟨_,_,h⟩:=da.1 h
   split at h
   ·cases h
   ·split at h
    ·obtain⟨_,_,h⟩:=aS.1 h
     injection h with _ h
     subst h
     exact Fr.br m hc _
    ·cases h
  ·cases h
 ·injection h with h;injection h with _ h;subst h;exact .refl _
 ·cases h
theorem Fr.yg {m m':ae} {es:Nat} {row:List AV} {x v:AV} (hc:m.ro≤m.cur) (h:yh m es row x=some (v,m')):Fr m m':=by
 unfold yh at h
 obtain⟨p,h1,h⟩:=da.1 h
 obtain⟨_,_,h⟩:=aS.1 h
 injection h with _ h
 subst h
 exact Fr.freeze hc h1
theorem Fr.rG {m m':ae} {es:Nat} {x y h0 v:AV} (h:qq m es x y h0=some (v,m')):Fr m m':=by
 unfold qq at h
 split at h
 ·obtain⟨p,_,h⟩:=da.1 h
  split at h
  ·split at h
   ·injection h with h;injection h with _ h;subst h;exact .refl _
   ·injection h with h;injection h with _ h;subst h;exact .refl _
   ·cases h
  ·split at h
   ·rename_i bn
    split at h
    ·split at h
     ·injection h with h;injection h with _ h;subst h;exact Fr.br m bn.1 _
     ·cases h
    ·split at h
     ·split at h
      ·split at h
       ·injection h with h;injection h with _ h;subst h;exact Fr.br m bn.1 _
       ·cases h
      ·cases h
     ·cases h
    ·cases h
   ·cases h
 ·cases h
theorem Fr.sL {m m':ae} {es:Nat} {y v:AV} (hc:m.ro≤m.cur) (h:ri m es y=some (v,m')):Fr m m':=by
 unfold ri at h
 split at h
 ·injection h with h;injection h with _ h;subst h;exact Fr.dF hc _
 ·cases h
theorem Fr.clear {m m':ae} {zs:List AV} {y v:AV} (hc:m.ro≤m.cur) (h:wz m zs y=some (v,m')):Fr m m':=by
 unfold wz at h
 split at h
 ·split at h
  ·injection h with h;injection h with _ h;subst h;exact .refl _
  ·cases h
 ·split at h
  ·injection h with h;injection h with _ h;subst h;exact .refl _
  ·split at h
   ·obtain⟨_,hs,h⟩:=aS.1 h
    injection h with _ h
    subst h
    exact Fr.store hc hs
   ·cases h
 ·cases h
theorem Fr.dK {call:aW} (bf:ij call) {ro:Bool} {m m':ae} {t:Target} {args:List AV} {v:AV} (h1:m.ro≤m.ag.length) (h2:m.bg≤m.loops.length) (h:dK call ro m t args=some (v,m')):Fr m m':=by
 unfold Ax.dK at h
 split at h
 ·obtain⟨p,_,h⟩:=aS.1 h
  injection h with _ h
  subst h
  exact .refl _
 ·exact bf _ _ _ _ _ h1 h2 h
theorem Fr.aM {call:aW} (bf:ij call) {ρ:aF→AV} {m m':ae} {op:cj} {v:AV} (h0:0<m.ag.length) (hc:m.ro≤m.cur) (h2:m.bg≤m.loops.length) (h:aM call ρ m op=some (v,m')):Fr m m':=by
 have h1:m.ro≤m.ag.length:=by unfold ae.cur at hc;omega
 have mp:∀{o:Option AV},o.map (·,m)=some (v,m')→Fr m m':=fun e=>by
  obtain⟨_,q⟩:=kU e
  simp only at q
  subst q
  exact .refl _
 cases op<;>simp only[Ax.aM]at h<;>first
  |exact mp h
  |(injection h with h;injection h with _ h;subst h;first|exact .refl _|exact Fr.dF hc _;done)
  |exact Fr.dK bf h1 h2 h
  |exact Fr.append hc h
  |exact Fr.vY hc h
  |exact Fr.vX hc h
  |exact Fr.copy hc h
  |exact Fr.yg hc h
  |exact Fr.rG h
  |exact Fr.sL hc h
  |exact Fr.clear hc h
  |skip
 case box n x=>
  unfold yf at h
  split at h
  ·injection h with h
   have:=Fr.dF hc (ρ x).cells
   rw[h]at this
   exact this
  ·cases h
 case build=>obtain⟨_,_,h⟩:=aS.1 h;injection h with _ h;subst h;exact .refl _
 case buildSlice=>obtain⟨_,_,h⟩:=aS.1 h;injection h with _ h;subst h;exact .refl _
 case store=>
  obtain⟨_,hs,h⟩:=aS.1 h
  injection h with _ h
  subst h
  exact Fr.store hc hs
 case eqv=>obtain⟨_,_,h⟩:=aS.1 h;injection h with _ h;subst h;exact .refl _
 case oG=>
  split at h
  ·injection h with h;injection h with _ h;subst h;exact .refl _
  ·cases h
 case BT=>
  unfold GC at h
  obtain⟨_,_,h⟩:=da.1 h
  obtain⟨_,_,h⟩:=da.1 h
  split at h
  ·cases h
  ·injection h with h;injection h with _ h;subst h;exact Fr.dF hc _
 case mkSlice=>
  unfold BS at h
  obtain⟨_,_,h⟩:=da.1 h
  obtain⟨_,_,h⟩:=aS.1 h
  split at h
  ·injection h with _ h
   subst h
   exact .refl _
  ·injection h with _ h
   subst h
   exact Fr.dF hc _
 case alloc zs=>
  split at h
  ·cases h
  ·injection h with h
   have:=Fr.dF hc zs
   rw[h]at this
   exact this
 case lO n=>
  injection h with h
  injection h with _ h
  subst h
  exact Fr.br m hc _
 case fill=>
  obtain⟨_,hs,h⟩:=aS.1 h
  injection h with _ h
  subst h
  unfold yC at hs
  split at hs
  ·split at hs
   ·exact Fr.store hc hs
   ·cases hs
  ·cases hs
 case slot back zs=>
  obtain⟨_,_,_,rfl⟩:=GZ h
  exact Fr.br m hc _
 case rQ=>exact Fr.dK bf h1 h2 (NV h)
 case rM=>
  unfold kL at h
  split at h
  ·split at h
   ·rename_i bn
    injection h with h
    injection h with _ h
    subst h
    exact Fr.br m hc _
   ·injection h with h
    injection h with _ h
    subst h
    exact .refl _
  ·cases h
  ·exact mp h
  ·cases h
 case td=>
  unfold lU at h
  split at h
  ·split at h
   ·obtain⟨_,_,h⟩:=da.1 h
    split at h
    ·obtain⟨_,_,h⟩:=aS.1 h
     injection h with _ h
     subst h
     exact Fr.dF hc _
    ·cases h
   ·exact mp h
  ·cases h
  ·exact mp h
  ·cases h
 case qt=>
  have:=Un h
  exact Fr.dK bf h1 h2 this
 case ko=>
  unfold lV at h
  split at h
  ·exact Fr.dK bf h1 h2 h
  ·exact Fr.dK bf h1 h2 h
  ·cases h
structure Open (s:ae):Prop where
 pos:0<s.ag.length
 cur:s.ro≤s.cur
 loops:s.bg≤s.loops.length
theorem Open.fr {s s':ae} (h:Open s) (f:Fr s s'):Open s':=⟨by rw[f.xZ];exact h.pos,by rw[f.ro,f.cur];exact h.cur,by rw[f.bg,f.jT];exact h.loops⟩
theorem Fr.ops {call:aW} (bf:ij call):∀{l:List bA} {st aO:St},Open st.sig→ops call l st=some aO→Fr st.sig aO.sig
 |[],st,aO,_,h=>by
  simp only[Ax.ops]at h
  injection h with h
  subst h
  exact .refl _
 | o :: r, st, aO, cp, h => by
  rw[Qm]at h
  obtain⟨de,h1,h2⟩:=da.1 h
  have f1:Fr st.sig de.sig:=by
   unfold rn at h1
   split at h1
   ·split at h1
    ·rename_i hv
     injection h1 with h1
     subst h1
     exact Fr.aM bf cp.pos cp.cur cp.loops hv
    ·cases h1
   ·injection h1 with h1
    subst h1
    exact .refl _
  exact f1.trans (Fr.ops bf (cp.fr f1) h2)
theorem Fr.lI {f:St→Option (c8×St)} (hf:∀st e aO,Open st.sig→f st=some (e,aO)→Fr st.sig aO.sig):∀{m:Nat} {st:St} {e:c8} {aO:St},Open st.sig→lI f m st=some (e,aO)→Fr st.sig aO.sig
 |0,_,_,_,_,h=>by simp[Ax.lI]at h
 | m + 1, st, e, aO, cp, h => by
  simp only[Ax.lI]at h
  split at h
  ·rename_i de h1
   have f1:=hf _ _ _ cp h1
   exact f1.trans (Fr.lI hf (cp.fr f1) h)
  ·exact hf _ _ _ cp h
theorem Fr.exec {call:aW} (bf:ij call) {lf:Nat}:∀{c:au} {st:St} {e:c8} {aO:St},Open st.sig→exec call lf c st=some (e,aO)→Fr st.sig aO.sig:=by
 intro c
 induction c with
 |skip=>intro st e aO _ h;simp only[Ax.exec]at h;injection h with h;injection h with _ h;subst h;exact .refl _
 |exit=>intro st e aO _ h;simp only[Ax.exec]at h;injection h with h;injection h with _ h;subst h;exact .refl _
 |ret=>intro st e aO _ h;simp only[Ax.exec]at h;injection h with h;injection h with _ h;subst h;exact .refl _
 |region d l=>
  intro st e aO cp h
  simp only[Ax.exec]at h
  obtain⟨de,h1,h⟩:=aS.1 h
  injection h with _ h
  subst h
  exact Fr.ops bf cp h1
 | seq a b vh zk =>
  intro st e aO cp h
  simp only[Ax.exec]at h
  split at h
  ·rename_i de h1
   have f1:=vh cp h1
   exact f1.trans (zk (cp.fr f1) h)
  ·exact vh cp h
 | cond c a b vh zk =>
  intro st e aO cp h
  simp only[Ax.exec]at h
  split at h
  ·split at h
   ·exact vh cp h
   ·exact zk cp h
  ·cases h
 | block id a ih =>
  intro st e aO cp h
  simp only[Ax.exec]at h
  split at h
  ·rename_i j de h1
   have f1:=ih cp h1
   split at h
   ·injection h with h;injection h with _ h;subst h;exact f1
   ·injection h with h;injection h with _ h;subst h;exact f1
  ·exact ih cp h
 |loop a ih=>
  intro st e aO cp h
  simp only[Ax.exec]at h
  exact Fr.lI (fun st e aO h1 h2=>ih h1 h2) cp h
 | rangeFunc f ps a b _ _ =>
  intro st e aO cp h
  simp only[Ax.exec]at h
  split at h
  case h_2=>cases h
  split at h
  case h_2=>cases h
  rename_i res s hc
  split at h
  case h_2=>cases h
  rename_i pe s1 cT
  injection h with h
  injection h with _ h
  subst h
  have f1:=bf _ _ _ _ _ (by have:=cp.cur;unfold ae.cur at this;have:=cp.pos;simp[enterLoop];omega) (by have:=cp.loops;simp[enterLoop];omega) hc
  unfold xn at cT
  split at cT
  ·rename_i hlen
   split at cT
   ·split at cT
    ·injection cT with cT
     injection cT with _ cT
     subst cT
     refine⟨f1.xZ,by simp[hlen],f1.ro,f1.bg,fun d hd=>f1.ag d hd,fun l hl=>?_⟩
     have:=f1.loops l hl
     have pn:l<st.sig.loops.length:=by have:=cp.loops;omega
     simp only[enterLoop]at this
     rw[dB pn]at this
     show(s.loops.take st.sig.loops.length)[l]? =_
     rw[xR,ak pn]
     exact this
    ·cases cT
   ·cases cT
  ·cases cT
theorem Fr.finish {rs:List iE} {own:Bool} {s0:ae} {r0:Rec} {st:St} {x:AV} {s':ae} (h0:s0.ro≤s0.ag.length) (f:Fr (s0.push r0) st.sig) (h:finish rs own st=some (x,s')):Fr s0 s':=by
 have hlen:st.sig.ag.length=s0.ag.length+1:=by rw[f.xZ];simp[ae.push]
 have hp:Fr s0 st.sig.pop:=by
  refine⟨by simp[ae.pop,hlen],f.jT,f.ro,f.bg,fun d hd=>?_,f.loops⟩
  have tC:d<s0.ag.length:=by omega
  simp only[ae.pop,wF hlen]
  rw[ak tC,f.ag d hd]
  simp only[ae.push]
  exact dB tC
 unfold Ax.finish at h
 split at h
 ·split at h
  ·obtain⟨x0,_,h⟩:=da.1 h
   unfold kD at h
   split at h
   ·split at h
    ·rename_i bn
     injection h with h
     injection h with _ h
     subst h
     refine hp.trans (Fr.br _ ?_ _)
     rw[hp.ro]
     have:=bn.2.2.1
     rw[f.ro]at this
     simp only[ae.push]at this
     omega
    ·injection h with h;injection h with _ h;subst h;exact hp
   ·split at h
    ·rename_i bn
     obtain⟨cs,_,h⟩:=da.1 h
     split at h
     case isFalse=>cases h
     obtain⟨y,_,h⟩:=aS.1 h
     injection h with _ h
     subst h
     refine hp.trans (Fr.br _ ?_ _)
     rw[hp.ro]
     have:=bn.2.2.1
     rw[f.ro]at this
     simp only[ae.push]at this
     omega
    ·obtain⟨y,_,h⟩:=aS.1 h
     injection h with _ h
     subst h
     exact hp
   ·obtain⟨y,_,h⟩:=aS.1 h
    injection h with _ h
    subst h
    exact hp
  ·cases h
 ·obtain⟨l,_,h⟩:=aS.1 h
  injection h with _ h
  subst h
  exact hp
theorem Open.push {s:ae} (h1:s.ro≤s.ag.length) (h2:s.bg≤s.loops.length) (r:Rec):Open (s.push r):=
 ⟨by simp[ae.push],by simp[ae.push,ae.cur];exact h1,h2⟩
theorem Fr.eA (s:ae) {l:Nat} (hl:s.bg≤l) (f:dA→dA):Fr s (eA s l f):=
 ⟨rfl,by simp[Ax.eA],rfl,rfl,fun _ _=>rfl,fun l' h=>by simp only[Ax.eA,dQ];rw[aq (by omega)]⟩
theorem Fr.Zq {s0 s:ae} {r0:Rec} (h0:s0.ro≤s0.ag.length) (f:Fr (s0.push r0) s):Fr s0 s.pop:=by
 have hlen:s.ag.length=s0.ag.length+1:=by rw[f.xZ];simp[ae.push]
 refine⟨by simp[ae.pop,hlen],f.jT,f.ro,f.bg,fun d hd=>?_,f.loops⟩
 have tC:d<s0.ag.length:=by omega
 simp only[ae.pop,wF hlen]
 rw[ak tC,f.ag d hd]
 simp only[ae.push]
 exact dB tC
theorem ij.step {AP:FuncId→Option aI} {call:aW} (bf:ij call) (lf:Nat):ij (ja AP call lf):=by
 intro t args s x s' h1 h2 h
 unfold ja at h
 cases t with
 | fn f =>
  simp only at h
  split at h
  ·split at h
   ·split at h
    ·rename_i st he
     exact Fr.finish h1 (Fr.exec bf (Open.push h1 h2 _) he) h
    ·rename_i st he
     exact Fr.finish h1 (Fr.exec bf (Open.push h1 h2 _) he) h
    ·cases h
   ·cases h
  ·obtain⟨as,_,h⟩:=da.1 h
   obtain⟨z,_,h⟩:=aS.1 h
   injection h with _ h
   subst h
   exact .refl _
  ·cases h
 | inl f =>
  simp only at h
  split at h
  ·split at h
   ·rename_i bn
    have ho:Open s:=⟨by omega,by have:=bn.2;unfold ae.cur;omega,h2⟩
    split at h
    ·rename_i st he
     obtain⟨l,_,h⟩:=aS.1 h
     injection h with _ h
     subst h
     exact Fr.exec bf ho he
    ·rename_i st he
     obtain⟨l,_,h⟩:=aS.1 h
     injection h with _ h
     subst h
     exact Fr.exec bf ho he
    ·cases h
   ·cases h
  ·cases h
 | nat f =>
  simp only at h
  split at h
  ·obtain⟨as,_,h⟩:=da.1 h
   obtain⟨z,_,h⟩:=aS.1 h
   injection h with _ h
   subst h
   exact .refl _
  ·cases h
 | yield l =>
  simp only at h
  split at h
  case h_2=>cases h
  split at h
  case isFalse=>cases h
  rename_i bn
  split at h
  case h_2=>cases h
  rename_i st he
  have f1:=Fr.exec bf (Open.push h1 h2 _) he
  have hl:st.sig.bg≤l:=by rw[f1.bg];exact bn.2.1
  have f2:=f1.trans (Fr.eA st.sig hl fun p=>{p with ready:=false})
  have YR:=(Open.push h1 h2 ⟨[],[]⟩).fr f2
  split at h
  case isFalse=>cases h
  split at h
  ·rename_i aO hb
   injection h with h
   injection h with _ h
   subst h
   have f3:=f2.trans (Fr.exec bf YR hb)
   exact Fr.Zq h1 (f3.trans (Fr.eA _ (by rw[f3.bg];exact bn.2.1) _))
  ·rename_i e aO _ hb
   injection h with h
   injection h with _ h
   subst h
   have f3:=f2.trans (Fr.exec bf YR hb)
   exact Fr.Zq h1 (f3.trans (Fr.eA _ (by rw[f3.bg];exact bn.2.1) _))
  ·cases h
end Go.Ax
/-
  Calls.
-/
namespace Go.Ax
open Go.RowKit
def HF (P:Program) (K:World→Prop) (f:FuncId) (F:List AV→Option AV):Prop:=
 ∀ (I : gg) (w : World) (as : List AV) (xs : Array Value) (r : AV), K w → (∀ b i v, I b i = some v → w.cell? ⟨b, i, none⟩ = some v) → xs.size = as.length → (∀ i (hi : i < as.length), bL I as[i] (xs.getD i Go.undef)) → F as = some r →
  Calls P f xs w fun e w'=>∃z I',e=.returned z∧(∀b i v,I b i=some v→I' b i=some v)∧(∀b i v,I' b i=some v→I b i=some v∨w.heap.size≤b)∧(∀b i v,I' b i=some v→w'.cell? ⟨b,i,none⟩=some v)∧
   Below w.heap.size w w'∧zW I' r z
def Sg (P:Program) (f:FuncId) (F:List AV→Option AV):Prop:=
 ∀(I:gg) (w:World) (as:List AV) (xs:Array Value) (r:AV),xs.size=as.length→(∀i (hi:i<as.length),bL I as[i] (xs.getD i Go.undef))→F as=some r→
  ∃z,(callFunc f xs).run P w=.ok (.value z) w∧zW I r z
structure s7 (P:Program) (AP:FuncId→Option aI) (K:World→Prop):Prop where
 mixed:P.follows .mixedOrders=true
 code:∀f np nt b rs own,AP f=some (.code np nt b rs own)→∃fn mu,P.funcs[f]? =some fn∧aT P own mu fn=some (.code np nt b rs own)
 rh:∀f F,AP f=some (.rh F)→rA P f∧HF P K f F
 nat:∀f F,AP f=some (.nat F)→Sg P f F
theorem UI {P:Program} {own own':Bool} {mu:Mu} {fn:Func} {np nt:Nat} {b:au} {rs:List iE} (h:aT P own mu fn=some (.code np nt b rs own')):
  ∃c,fn.body=some c∧(fn.name== "runtime.NumGoroutine")=false∧comp P mu c=some b∧fH (wC P) fn.results.toList=some rs∧np≤fn.ntmps∧kf fn.ntmps b=true∧own'=own:=by
 unfold aT at h
 split at h
 ·cases h
 ·rename_i F2
  split at h
  ·cases h
  ·rename_i c hb
   split at h
   ·rename_i b' QW e1 e2
    split at h
    ·rename_i bn
     injection h with h
     injection h with h1 h2 h3 h4 h5
     subst h1 h2 h3 h4 h5
     exact⟨c,hb,by simpa using F2,e1,e2,bn.1,bn.2,rfl⟩
    ·cases h
   ·cases h
section
variable{P:Program} {B0:Nat} {w0:World} {G:aG} {k nl:Nat} {w:World} {s:ae}
theorem P3 {G:aG} {n:Nat} {fn:Func} {tmps:Array Value} {R:Ending→World→Prop}:∀(bs:List Nat) (w:World),At P B0 w0 G k nl s w→(∀b,b∈bs→B0≤b∧G.own b=none∧w.heap[b]? =some (.deferred (some [])))→bs.Nodup→
  (∀ w', At P B0 w0 G k nl s w' → ∃ v, (results fn tmps).run P w' = .ok v w' ∧ R (.returned v) w') → LeavesInM Fence.wide n P fn tmps R (bs.map fun b => (⟨.collected b, #[]⟩ : Deferred)) .returning w
 |[],w,h,_,_,hR=>hR w h
 |b::r,w,h,hb,hn,hR=>by
  obtain⟨h1,h2,h3⟩:=hb b (by simp)
  have jj:=List.nodup_cons.1 hn
  refine⟨by simp,.inl ⟨b,w.putObj b (.deferred none),rfl,run_takeDeferred h3,?_⟩⟩
  refine P3 r _ (arb h h1 h2 h3 (fun a t f e=>by cases e)) (fun c hc=>?_) jj.2 hR
  obtain⟨c1,c2,c3⟩:=hb c (by simp[hc])
  refine⟨c1,c2,?_⟩
  rw[World.putObj_heap_other (fun e=>jj.1 (by rw[←e];exact hc))]
  exact c3
theorem Yt (h:cz P B0 w0 G s w) {r:Rec} {gr:cE} {d:Nat} (hr:s.ag[d]? =some r) (hg:G.ag[d]? =some gr):gr.marks.Nodup:=by
 rw[List.nodup_iff_pairwise_ne,Cs]
 intro i j hi hj aC e
 have h1:=((h.cI d r gr hr hg).mark i _ (cM hi)).2.1
 have h2:=((h.cI d r gr hr hg).mark j _ (cM hj)).2.1
 rw[e,h2]at h1
 injection h1 with h1
 injection h1 with _ h1
 omega
theorem LZ:∀(args:List AV) (t:Nat),jM args t=if h:t<args.length then args[t]else AV.undef
 |[],t=>by simp[jM]
 |x::r,0=>by simp[jM]
 |x::r,t+1=>by
  simp only[jM,LZ r t,dJ,Hm]
  split<;>split<;>first|rfl|omega
theorem Ul (h:cz P B0 w0 G s w) {kc nlc:Nat} {G1 G2:aG} {s':ae} {w':World} {x:AV} {z:Value} (hk:s.ag.length≤kc+1) (h1:bB s.ag.length s.loops.length (G.kE s.loops.length) G1) (h2:cz P B0 w0 G2 s' w') (h3:s'.ag.length=s.ag.length)
  (h4:s'.loops.length=s.loops.length) (h5:∀b i v,G1.I b i=some v→G2.I b i=some v) (h6:∀d gr,d<s.ag.length→G1.ag[d]? =some gr→∃bI,G2.ag[d]? =some bI∧iZ gr bI∧bI.marks=gr.marks)
  (h7:∀l r:Nat,G1.loops[l]? =some r→G2.loops[l]? =some r) (h8:Rel G2 kc nlc x z):nW P B0 w0 G kc nlc s s' w' x z:=by
 refine⟨G2,h2,h3,h4,⟨fun b i v e=>h5 b i v (h1.I b i v e),fun d gr hd e=>?_,fun l r hl e=>h7 l r (h1.loops l r hl e)⟩,h8⟩
 have aC:d<s.ag.length:=by have:=(aY.1 e).1;rw[h.len]at this;exact this
 obtain⟨g1,a1,a2,a3⟩:=h1.ag d gr (by omega) (mO e)
 obtain⟨g2,b1,b2,b3⟩:=h6 d g1 aC a1
 exact⟨g2,b1,a2.trans b2,fun _=>b3.trans (a3 aC)⟩
theorem UG {AP:FuncId→Option aI} {K:World→Prop} (hp:s7 P AP K) {call:aW} (dq:kX P B0 w0 call) (eZ:nY P B0 w0 call) (bf:ij call) {lf:Nat} {kc nlc:Nat} {f:FuncId} {np nt:Nat} {b:au} {rs:List iE} {own:Bool} {args:List AV} {xs:Array Value} {x:AV} {s':ae}
  (ku:AP f=some (.code np nt b rs own)) (h:cz P B0 w0 G s w) (nK:s.ag.length≤kc+1) (iP:kc≤s.ag.length) (lE:nlc≤s.loops.length) (hl:xs.size=args.length) (hR:∀i (hi:i<args.length),Rel G kc nlc args[i] (xs.getD i Go.undef))
  {e:c8} {st:St} (hlen:args.length=np) (he:exec call lf b ⟨jM args,s.push ⟨[],[]⟩⟩=some (e,st)) (hn:e=.normal∨e=.ret) (hf:finish rs own st=some (x,s')):
  rA P f∧Calls P f xs w fun e w'=>∃z,e=.returned z∧nW P B0 w0 G kc nlc s s' w' x z:=by
 obtain⟨fn,mu,uW,ew⟩:=hp.code f np nt b rs own ku
 obtain⟨c,hb,F2,OD,jR,hnp,Pw,_⟩:=UI ew
 refine⟨⟨fn,c,uW,hb,F2⟩,?_⟩
 refine(callsIn_wide (n:=0)).1 ?_
 have jf:=Qz h
 have JB:=G.KS s.loops.length
 have bP:(xs++Array.replicate (fn.ntmps-xs.size) Go.undef).size=fn.ntmps:=by simp;omega
 refine callsIn_of_wp_marks uW hb trivial (wpIn_mono (Jj (rd:=none) (n:=0) (lf:=lf) (base:=[]) dq eZ bf hp.mixed c b (G.kE s.loops.length) ⟨jM args,s.push ⟨[],[]⟩⟩ st ⟨xs++Array.replicate (fn.ntmps-xs.size) Go.undef,[]⟩ w e OD jf rfl (fun t=>?_) (by rw[bP];exact Pw)
  (fun r e=>by cases e) (fun _=>⟨⟨[],[],s.loops.length,[],fun _=>none⟩,[],by simp[aG.kE,←h.len],rfl,rfl⟩) he) fun ex a' w' pq=>?_)
 ·show Rel _ _ _ (jM args t) ((xs++Array.replicate (fn.ntmps-xs.size) Go.undef).getD t Go.undef)
  rw[LZ,A0]
  split
  ·rename_i ht
   rw[ak (by omega)]
   exact(hR t ht).mono (JB _ _) iP lE
  ·rename_i ht
   rw[aq (by omega)]
   have:(Array.replicate (fn.ntmps-xs.size) Go.undef).getD (t-xs.size) Go.undef=Go.undef:=by
    by_cases hq:t-xs.size<fn.ntmps-xs.size
    ·simp[Array.getD,hq]
    ·simp[Array.getD,hq]
   rw[this]
   exact .undef
 ·obtain⟨hex,G1,g1,g2,g3,g4,g5,g6⟩:=pq
  have OM:ex=.normal∨ex=.ret:=by rcases hn with rfl|rfl<;>simp[hex,AT]
  obtain⟨r,gr,hr,hg⟩:=g1.cI (aH _)
  obtain⟨bI,new,e1,e3,e2⟩:=g6 rfl
  rw[hg]at e1
  injection e1 with e1
  subst e1
  rw[kh]at e3
  rw[←e3]at e2
  have FY:LeavesInM Fence.wide 0 P fn a'.tmps (fun e w'=>∃z,e=.returned z∧nW P B0 w0 G kc nlc s s' w' x z) a'.defers .returning w':=by
   rw[e2,←List.map_reverse]
   refine P3 (G:=G1.lk s.ag.length 0) gr.marks.reverse w' (U4 g1 0) (fun m hm=>?_) ((List.reverse_perm _).nodup_iff.2 (Yt g1.rel hr hg)) (fun w'' r5=>?_)
   ·obtain⟨i,hi,rfl⟩:=n6 (List.mem_reverse.1 hm)
    have yY:=(g1.rel.cI _ r gr hr hg).mark i _ (cM hi)
    refine⟨yY.1,?_,yY.2.2⟩
    simp[aG.lk,yY.2.1]
   ·have FK:=G1.AS s.ag.length s.loops.length 0 (aH _)
    obtain⟨z,G2,q1,q2,q3,q4,q5,q6,q7,q8⟩:=agi r5 (a:=a') (g4.mono FK) g3 jR (kc:=kc) (nlc:=nlc) nK hf
    refine⟨z,q1,z,rfl,Ul h nK (g2.trans FK) q2 q3 (by rw[q4];exact g3) q5 q6 q7 q8⟩
  rcases OM with rfl|rfl
  ·exact FY
  ·exact FY
theorem ZG {st:St} {a:Act} (h:At P B0 w0 G k nl st.sig w) (hR:eC G k nl st.tmps a):∀{rs:List ResultVar} {qs:List iE} {l:List AV},
  fH (wC P) rs=some qs→tQ st qs=some l→∃vs:List Value,(rs.mapM (B3 a.tmps)).run P w=.ok vs w∧vs.length=l.length∧∀i (hi:i<l.length) (hj:i<vs.length),Rel G k nl l[i] vs[i]
 |[],qs,l,hm,hr=>by
  simp only[fH]at hm
  injection hm with hm
  subst hm
  simp only[tQ]at hr
  injection hr with hr
  subst hr
  exact⟨[],by simp,rfl,fun i hi=>absurd hi (dk _)⟩
 | r :: rs, qs, l, hm, hr => by
  simp only[fH]at hm
  split at hm
  ·rename_i ar SL e1 e2
   injection hm with hm
   subst hm
   simp only[tQ]at hr
   split at hr
   ·rename_i x l' f1 f2
    injection hr with hr
    subst hr
    obtain⟨z,r1,r2⟩:=QL h hR e1 f1
    obtain⟨vs,v1,v2,v3⟩:=ZG h hR e2 f2
    refine⟨z::vs,?_,by simp[v2],fun i hi hj=>?_⟩
    ·simp only[RR,Sem.run_bind,r1,Result.andThen_ok,v1,Sem.run_pure]
    ·cases i with
     |zero=>exact r2
     |succ i=>exact v3 i (by simpa using hi) (by simpa using hj)
   ·cases hr
  ·cases hm
theorem XT {AP:FuncId→Option aI} {K:World→Prop} (hp:s7 P AP K) {call:aW} (dq:kX P B0 w0 call) (eZ:nY P B0 w0 call) (bf:ij call) {lf:Nat} {f:FuncId} {np nt:Nat} {b:au} {rs:List iE} {own:Bool} {args:List AV} {xs:Array Value}
  (ku:AP f=some (.code np nt b rs own)) (h:At P B0 w0 G k nl s w) (aQ:s.loops.length=nl) (hl:xs.size=args.length) (hR:∀i (hi:i<args.length),Rel G k nl args[i] (xs.getD i Go.undef))
  {e:c8} {st:St} (hlen:args.length=np) (he:exec call lf b ⟨jM args,s⟩=some (e,st)) (hn:e=.normal∨e=.ret) {l:List AV} (hr:tQ st rs=some l):
  rA P f∧Calls P f xs w fun e w'=>∃z,e=.returned z∧nW P B0 w0 G k nl s st.sig w' (packed l) z:=by
 obtain⟨fn,mu,uW,ew⟩:=hp.code f np nt b rs own ku
 obtain⟨c,hb,F2,OD,jR,hnp,Pw,_⟩:=UI ew
 refine⟨⟨fn,c,uW,hb,F2⟩,?_⟩
 refine(callsIn_wide (n:=0)).1 ?_
 have bP:(xs++Array.replicate (fn.ntmps-xs.size) Go.undef).size=fn.ntmps:=by simp;omega
 obtain⟨iL,sb,avF⟩:=h.cur
 refine callsIn_of_wp_marks uW hb trivial (wpIn_mono (Jj (rd:=none) (n:=0) (lf:=lf) (base:=iL.marks) dq eZ bf hp.mixed c b G ⟨jM args,s⟩ st ⟨xs++Array.replicate (fn.ntmps-xs.size) Go.undef,[]⟩ w e OD h aQ (fun t=>?_) (by rw[bP];exact Pw)
  (fun r e=>by cases e) (fun _=>⟨iL,[],sb,by simp,rfl⟩) he) fun ex a' w' pq=>?_)
 ·show Rel _ _ _ (jM args t) ((xs++Array.replicate (fn.ntmps-xs.size) Go.undef).getD t Go.undef)
  rw[LZ,A0]
  split
  ·rename_i ht
   rw[ak (by omega)]
   exact hR t ht
  ·rename_i ht
   rw[aq (by omega)]
   have:(Array.replicate (fn.ntmps-xs.size) Go.undef).getD (t-xs.size) Go.undef=Go.undef:=by
    by_cases hq:t-xs.size<fn.ntmps-xs.size
    ·simp[Array.getD,hq]
    ·simp[Array.getD,hq]
   rw[this]
   exact .undef
 ·obtain⟨hex,G1,g1,g2,g3,g4,g5,g6⟩:=pq
  have OM:ex=.normal∨ex=.ret:=by rcases hn with rfl|rfl<;>simp[hex,AT]
  obtain⟨r,gr,gH,hg⟩:=g1.cI (aH _)
  obtain⟨bI,new,e1,e3,e2⟩:=g6 rfl
  rw[hg]at e1
  injection e1 with e1
  subst e1
  have FK:=fun{k'} (hk:k'≤k)=>G1.AS k nl iL.marks.length hk
  have hle:bB (k+1) s.loops.length G (G1.lk k iL.marks.length):=by
   refine⟨fun b i v e=>g2.I b i v e,fun d gq hd e=>?_,fun l r hl e=>g2.loops l r (by omega) e⟩
   have eR:d<k+1:=by
    have:=(aY.1 e).1
    rw[h.rel.len,h.len]at this;exact this
   obtain⟨g1',c1,c2,c3⟩:=g2.ag d gq (by omega) e
   by_cases aiu:d=k
   ·subst aiu
    rw[hg]at c1
    injection c1 with c1
    subst c1
    rw[sb]at e
    injection e with e
    subst e
    refine⟨{gr with marks:=gr.marks.take iL.marks.length},by simp[aG.lk,hg],⟨c2.bl,c2.tk,c2.nl,c2.gs⟩,fun _=>?_⟩
    simp[e3]
   ·obtain⟨g2',c4,c5,c6⟩:=(FK (aH _)).ag d g1' (by omega) c1
    exact⟨g2',c4,c2.trans c5,fun _=>(c6 (by omega)).trans (c3 (by omega))⟩
  have FY:LeavesInM Fence.wide 0 P fn a'.tmps (fun e w'=>∃z,e=.returned z∧nW P B0 w0 G k nl s st.sig w' (packed l) z) a'.defers .returning w':=by
   rw[e2,←List.map_reverse]
   refine P3 (G:=G1.lk k iL.marks.length) new.reverse w' (U4 g1 iL.marks.length) (fun m hm=>?_) ((List.reverse_perm _).nodup_iff.2 ?_) (fun w'' r5=>?_)
   ·obtain⟨i,hi,rfl⟩:=n6 (List.mem_reverse.1 hm)
    have yY:=(g1.rel.cI _ r gr gH hg).mark (iL.marks.length+i) new[i] (by rw[e3,gM (by omega)];simp)
    refine⟨yY.1,?_,yY.2.2⟩
    simp[aG.lk,yY.2.1]
   ·have:=Yt g1.rel gH hg
    rw[e3]at this
    exact(List.nodup_append.1 this).2.1
   ·obtain⟨vs,v1,v2,v3⟩:=ZG r5 (a:=a') (g4.mono (FK (aH _))) jR hr
    exact⟨_,QM v1,_,rfl,_,r5.rel,r5.len.trans h.len.symm,g3.trans aQ.symm,hle,Zf v2 v3⟩
  rcases OM with rfl|rfl
  ·exact FY
  ·exact FY
theorem aq3 {AP:FuncId→Option aI} {K:World→Prop} (hp:s7 P AP K) (hK:∀w,Below B0 w0 w→K w) {kc nlc:Nat} {f:FuncId} {F:List AV→Option AV} {args:List AV} {xs:Array Value} {x:AV} {s':ae}
  (ku:AP f=some (.rh F)) (h:cz P B0 w0 G s w) (hl:xs.size=args.length) (hR:∀i (hi:i<args.length),Rel G kc nlc args[i] (xs.getD i Go.undef)) (hc:((closeAll args).bind fun as=>(F as).map (·,s))=some (x,s')):
  rA P f∧Calls P f xs w fun e w'=>∃z,e=.returned z∧nW P B0 w0 G kc nlc s s' w' x z:=by
 obtain⟨hb,ajF⟩:=hp.rh f F ku
 refine⟨hb,?_⟩
 obtain⟨as,has,hc⟩:=da.1 hc
 obtain⟨y,hy,hc⟩:=aS.1 hc
 injection hc with h1 h2
 subst h1 h2
 obtain⟨c1,c2⟩:=I6 has
 refine Calls.mono (ajF G.I w as xs y (hK w h.below) h.ff (by rw[hl,c1]) (fun i hi=>(hR i (by omega)).close (c2 i (by omega) hi)) hy) fun e w' hq=>?_
 obtain⟨z,I',rfl,i1,i2,i3,i4,i5⟩:=hq
 refine⟨z,rfl,{G with I:=I'},?_,rfl,rfl,⟨i1,fun d gr _ e=>⟨gr,e,.refl gr,fun _=>rfl⟩,fun _ _ _ e=>e⟩,i5.rel⟩
 refine h.cJ i1 rfl rfl (fun b o e _=>⟨e,i4.block b (h.eO b o e),fun i hi=>?_⟩) i3 (i4.mono h.low) (fun b o e=>nk (h.eO b o e) i4.size)
 show I' b i=none
 cases hv:I' b i with
 |none=>rfl
 |some v=>
  rcases i2 b i v hv with nO|nO
  ·rw[hi]at nO;cases nO
  ·have:=h.eO b o e;omega
theorem aaf:∀(ps:List Nat) (args:List AV) (vs:List Value) (ρ:Nat→AV) (t:Array Value),args.length=ps.length→vs.length=ps.length→(∀p,p∈ps→p<t.size)→(∀i (hi:i<args.length) (hj:i<vs.length),Rel G k nl args[i] vs[i])→
  (∀u,Rel G k nl (ρ u) (t.getD u Go.undef))→(∀u,Rel G k nl (tT ρ ps args u) (((ps.zip vs).foldl (fun(t:Array Value) (q:Nat×Value)=>t.setIfInBounds q.1 q.2) t).getD u Go.undef))∧((ps.zip vs).foldl (fun(t:Array Value) (q:Nat×Value)=>t.setIfInBounds q.1 q.2) t).size=t.size
 |[],args,vs,ρ,t,h1,h2,hp,hR,ht=>by
  cases args with
  |nil=>exact⟨by simpa[tT]using ht,by simp⟩
  |cons=>simp at h1
 |p::ps,[],vs,ρ,t,h1,h2,hp,hR,ht=>by simp at h1
 |p::ps,a::args,[],ρ,t,h1,h2,hp,hR,ht=>by simp at h2
 | p :: ps, a :: args, v :: vs, ρ, t, h1, h2, hp, hR, ht => by
  have h0:Rel G k nl a v:=hR 0 (by simp) (by simp)
  have Pe:∀u,Rel G k nl (put p a ρ u) ((t.setIfInBounds p v).getD u Go.undef):=by
   have:=eC.put (a:=⟨t,[]⟩) (dst:=some p) (fun u=>ht u) (fun q e=>by injection e with e;subst e;exact hp p (by simp)) h0
   exact fun u=>this u
  obtain⟨i1,i2⟩:=aaf ps args vs (put p a ρ) (t.setIfInBounds p v) (by simpa using h1) (by simpa using h2) (fun q hq=>by simp;exact hp q (by simp[hq])) (fun i hi hj=>hR (i+1) (by simpa using hi) (by simpa using hj)) Pe
  exact⟨i1,by rw[List.zip_cons_cons,sV,i2];simp⟩
theorem pN.Ld {l:Nat} {lp mV:dA} {rc na:Loop} (h:pN P G l lp rc) (h1:na.params=rc.params) (h2:na.assign=rc.assign) (h3:na.body=rc.body) (h4:na.tmps=rc.tmps) (g1:mV.params=lp.params) (g2:mV.assign=lp.assign) (g3:mV.body=lp.body)
  (g4:mV.tmps=lp.tmps) (a1:mV.ready=true→na.state=.ready∧mV.eI=none) (a2:mV.ready=false→na.state=(if mV.eI.isSome then .done else .busy)) (a3:na.pending=mV.eI.bind exitCode) (a4:mV.eI≠some .normal):pN P G l mV na:=by
 obtain⟨_,_,_,_,b5,⟨mu,b6,b7⟩,b8,b9,b10,k,nl,b11,b12,b14,b13⟩:=h
 exact⟨a1,a2,a3,a4,by rw[h1,g1];exact b5,⟨mu,by rw[h2,g2];exact b6,by rw[h3,g3];exact b7⟩,by rw[h4,g2];exact b8,by rw[h4,g3];exact b9,by rw[h4,g1];exact b10,k,nl,b11,b12,b14,by rw[h4,g4];exact b13⟩
theorem At.Yp (h:At P B0 w0 G k nl s w) (aQ:s.loops.length=nl) {l r:Nat} (hl:l<nl) (hr:G.loops[l]? =some r):∃lp rc,s.loops[l]? =some lp∧w.heap[r]? =some (.loop rc)∧pN P G l lp rc:=by
 have aC:l<s.loops.length:=by omega
 obtain⟨_,_,rc,h3,h4⟩:=h.rel.loop l _ r (cM aC) hr
 exact⟨_,rc,cM aC,h3,h4⟩
theorem At.aaJ (h:At P B0 w0 G k nl s w) {l r:Nat} {lp mV:dA} {rc na:Loop} (hl:s.loops[l]? =some lp) (hr:G.loops[l]? =some r) (kO:w.heap[r]? =some (.loop rc)) {f:dA→dA} (hf:f lp=mV) (ho:pN P G l mV na):
  At P B0 w0 G k nl (eA s l f) (w.putObj r (.loop na)):=
 ⟨asF h.rel hl hr kO hf ho,h.len,h.cur⟩
theorem atN {AP : FuncId → Option aI} {K : World → Prop} (hp : s7 P AP K) {call : aW} (dq : kX P B0 w0 call) (eZ : nY P B0 w0 call) (bf : ij call) {lf : Nat} {kc nlc l r : Nat} {args : List AV} {xs : Array Value} {x : AV} {s' : ae}
    (h:cz P B0 w0 G s w) (nK:s.ag.length≤kc+1) (iP:kc≤s.ag.length) (lE:nlc≤s.loops.length) (aC:l<nlc) (nI:G.loops[l]? =some r) (hl:xs.size=args.length) (hR:∀i (hi:i<args.length),Rel G kc nlc args[i] (xs.getD i Go.undef))
    (hc:ja AP call lf (.yield l) args s=some (x,s')):
    ∃ rc : Loop, w.heap[r]? = some (.loop rc) ∧ xs.size = rc.params.size ∧ ∀ n, RoundIn Fence.wide n P r rc.fn ((rc.params.zip xs).foldl (fun tmps (t, a) => tmps.setIfInBounds t a) rc.tmps) rc.assign rc.body w
      fun e w'=>∃z,e=.returned z∧nW P B0 w0 G kc nlc s s' w' x z:=by
  unfold ja at hc
  simp only at hc
  split at hc
  case h_2=>cases hc
  rename_i lp sg
  split at hc
  case isFalse=>cases hc
  rename_i bn
  obtain⟨Gd,_,pZ⟩:=bn
  split at hc
  case h_2=>cases hc
  rename_i st aic
  split at hc
  case isFalse=>cases hc
  rename_i ajJ
  obtain⟨_,_,rc,kO,ajp⟩:=h.loop l lp r sg nI
  obtain⟨o1,o2,o3,o4,o5,⟨mu,o6,o7⟩,o8,o9,o10,k',gJ,o11,o12,o14,o13⟩:=ajp
  have cD:rc.params.size=lp.params.length:=by rw[←o5];simp
  refine⟨rc,kO,by rw[hl,pZ,cD],fun n=>?_⟩
  have jf:=Qz h
  have JB:=G.KS s.loops.length
  have FZ:l<s.loops.length:=by omega
  have WR:(G.kE s.loops.length).loops[l]? =some r:=nI
  have J9:xX (some r) (G.kE s.loops.length) s.loops.length:=fun r' e=>by injection e with e;subst e;exact⟨l,FZ,WR⟩
  have aiF:(rc.params.zip xs).foldl (fun(tmps:Array Value) (x:Tmp×Value)=>match x with|(t,a)=>tmps.setIfInBounds t a) rc.tmps=(lp.params.zip xs.toList).foldl (fun(t:Array Value) (q:Nat×Value)=>t.setIfInBounds q.1 q.2) rc.tmps:=by
    rw[←Array.foldl_toList,Array.toList_zip,o5]
  rw[aiF]
  obtain⟨p1,p2⟩:=aaf (G:=G.kE s.loops.length) (k:=s.ag.length) (nl:=s.loops.length) lp.params args xs.toList lp.tmps rc.tmps pZ (by simp[hl,pZ]) o10
    (fun i hi hj=>by
      have:=(hR i hi).mono (JB kc nlc) iP lE
      have e:xs.getD i Go.undef=xs.toList[i]:=by
        have:i<xs.size:=by simpa using hj
        simp[Array.getD,this]
      rw[←e]
      exact this)
    (fun u=>(o13 u).mono (JB k' gJ) (by have:=h.len;omega) (by omega))
  have hF:Fence.wide.fn rc.fn:=trivial
  refine roundIn_of_wpIn hF (wpIn_mono (Jj (k:=s.ag.length) (nl:=s.loops.length) (rd:=some r) (n:=n) (lf:=lf) (base:=[]) dq eZ bf hp.mixed rc.assign lp.assign (G.kE s.loops.length) ⟨tT lp.tmps lp.params args,s.push ⟨[],[]⟩⟩ st ⟨_,[]⟩ w .normal o6 jf rfl p1 (by rw[p2];exact o8) J9 (fun e=>by cases e) aic) fun ex a1 w1 pq=>?_)
  obtain⟨rfl,G1,g1,g2,g3,g4,g5,_⟩:=pq
  have gH:G1.loops[l]? =some r:=g2.loops l r FZ WR
  obtain⟨Ys,QG,q1,q2,q3⟩:=g1.Yp g3 FZ gH
  have ajK:Ys.ready=true:=by simpa[BO,q1]using ajJ
  obtain⟨s1,s2⟩:=q3.1 ajK
  have ajA:QG.pending=none:=by rw[q3.2.2.1,s2];rfl
  show∃w₂,(Instr.beginRound r).run P w1=.ok () w₂∧_
  refine⟨_,run_beginRound q2 s1,?_⟩
  have ajq:pN P G1 l {Ys with ready:=false} {QG with state:=.busy}:=q3.Ld rfl rfl rfl rfl rfl rfl rfl rfl (fun e=>by cases e) (fun _=>by simp[s2]) (by simp[ajA,s2]) (by simp[s2])
  have Bf:=g1.aaJ q1 gH q2 (f:=fun p=>{p with ready:=false}) rfl ajq
  have ai5:(eA st.sig l fun p=>{p with ready:=false}).loops.length=s.loops.length:=by simp[eA,g3]
  have body:∀(e:c8) (aO:St),exec call lf lp.body ⟨st.tmps,eA st.sig l fun p=>{p with ready:=false}⟩=some (e,aO)→(∀(ex:Exit) (a':Act) (w2:World) (G2:aG),ex=AT e→At P B0 w0 G2 s.ag.length s.loops.length aO.sig w2→bB s.ag.length s.loops.length (G.kE s.loops.length) G2→
      aO.sig.loops.length=s.loops.length→G2.loops[l]? =some r→roundPost P r (fun e w'=>∃z,e=.returned z∧nW P B0 w0 G kc nlc s s' w' x z) ex a' w2)→
      rc.body.wpIn (Fence.wide.inRound r) n P (roundPost P r (fun e w'=>∃z,e=.returned z∧nW P B0 w0 G kc nlc s s' w' x z)) a1 (w1.putObj r (.loop {QG with state:=.busy})):=fun e aO yP hq=>by
    refine wpIn_mono (Jj (k:=s.ag.length) (nl:=s.loops.length) (rd:=some r) (n:=n) (lf:=lf) (base:=[]) dq eZ bf hp.mixed rc.body lp.body G1 ⟨st.tmps,eA st.sig l fun p=>{p with ready:=false}⟩ aO a1 _ e o7 Bf ai5 g4 (by rw[g5];rw[p2];exact o9) (J9.mono g2) (fun e=>by cases e) yP) fun ex a2 w2 pq=>?_
    obtain⟨hex,G2,k1,k2,k3,k4,k5,_⟩:=pq
    exact hq ex a2 w2 G2 hex k1 (g2.trans k2) k3 (k2.loops l r FZ gH)
  have fin:∀(G2:aG) (aO:St) (w2:World) (jump:Option Code) (f:dA→dA) (b:Bool),At P B0 w0 G2 s.ag.length s.loops.length aO.sig w2→bB s.ag.length s.loops.length (G.kE s.loops.length) G2→aO.sig.loops.length=s.loops.length→G2.loops[l]? =some r→
      (∀zr ql,pN P G2 l zr ql→pN P G2 l (f zr) {ql with state:=if jump.isNone then .ready else .done,pending:=jump})→jump.isNone=b→x=.v (.bool b)→s'=(eA aO.sig l f).pop→
      ∃v w',(Instr.endRound r jump).run P w2=.ok v w'∧∃z,(Ending.returned v)=.returned z∧nW P B0 w0 G kc nlc s s' w' x z:=fun G2 aO w2 jump f b k1 k2 k3 k4 hf hb hx hs=>by
    obtain⟨zr,ql,m1,m2,m3⟩:=k1.Yp k3 FZ k4
    have r5:=k1.aaJ m1 k4 m2 (f:=f) rfl (hf zr ql m3)
    have WZ:(eA aO.sig l f).loops.length=s.loops.length:=by simp[eA,k3]
    obtain⟨gr,hg,_⟩:=r5.cur
    obtain⟨t1,t2,t3,t4⟩:=vt r5 WZ hg
    refine⟨_,_,run_endRound jump m2,_,rfl,?_⟩
    subst hs hx hb
    exact Ul h nK k2 t1 (by simp[ae.pop,r5.len]) WZ t2 (fun d q hd e=>⟨q,by rw[t4 d hd];exact e,.refl q,rfl⟩) (fun _ _ e=>e) (.val _ rfl)
  split at hc
  · rename_i aO yP
    injection hc with hc
    injection hc with hx hs
    refine body .normal aO yP fun ex a' w2 G2 hex k1 k2 k3 k4=>?_
    subst hex
    exact fin G2 aO w2 none (fun p=>{p with ready:=true,eI:=none}) true k1 k2 k3 k4 (fun zr ql m=>m.Ld rfl rfl rfl rfl rfl rfl rfl rfl (fun _=>⟨rfl,rfl⟩) (fun e=>by cases e) rfl (by simp)) rfl hx.symm hs.symm
  · rename_i e aO aB yP
    injection hc with hc
    injection hc with hx hs
    refine body e aO yP fun ex a' w2 G2 hex k1 k2 k3 k4=>?_
    subst hex
    cases e with
    |normal=>exact absurd rfl aB
    |exit id=>exact fin G2 aO w2 (some (.exit id)) (fun p=>{p with ready:=false,eI:=some (.exit id)}) false k1 k2 k3 k4 (fun zr ql m=>m.Ld rfl rfl rfl rfl rfl rfl rfl rfl (fun e=>by cases e) (fun _=>rfl) rfl (by simp)) rfl hx.symm hs.symm
    |ret=>exact fin G2 aO w2 (some .ret) (fun p=>{p with ready:=false,eI:=some .ret}) false k1 k2 k3 k4 (fun zr ql m=>m.Ld rfl rfl rfl rfl rfl rfl rfl rfl (fun e=>by cases e) (fun _=>rfl) rfl (by simp)) rfl hx.symm hs.symm
  · cases hc
theorem ady {AP:FuncId→Option aI} {K:World→Prop} (hp:s7 P AP K) (hK:∀w,Below B0 w0 w→K w) {call:aW} (dq:kX P B0 w0 call) (eZ:nY P B0 w0 call) (bf:ij call) (lf:Nat):kX P B0 w0 (ja AP call lf):=by
 refine⟨fun G k nl s w f args xs res s' h nK iP lE hl hR hc=>?_,fun G k nl s w l r args xs res s' h nK iP lE aC nI hl hR hc=>atN hp dq eZ bf h nK iP lE aC nI hl hR hc⟩
 unfold ja at hc
 simp only at hc
 split at hc
 ·rename_i np nt b rs own ku
  split at hc
  ·rename_i hlen
   split at hc
   ·rename_i st he
    exact UG hp dq eZ bf ku h nK iP lE hl hR hlen he (.inl rfl) hc
   ·rename_i st he
    exact UG hp dq eZ bf ku h nK iP lE hl hR hlen he (.inr rfl) hc
   ·cases hc
  ·cases hc
 ·rename_i F ku
  exact aq3 hp hK ku h hl hR hc
 ·cases hc
theorem adw {AP:FuncId→Option aI} {K:World→Prop} (hp:s7 P AP K) {call:aW} (dq:kX P B0 w0 call) (eZ:nY P B0 w0 call) (bf:ij call) (lf:Nat):nY P B0 w0 (ja AP call lf):=by
 refine⟨fun G k nl s w f args xs res s' h aQ hl hR hc=>?_,fun I s w f args xs res s' hl hR hc=>?_⟩
 ·unfold ja at hc
  simp only at hc
  split at hc
  ·rename_i np nt b rs own ku
   split at hc
   ·rename_i hlen
    split at hc
    ·rename_i st he
     obtain⟨l,hr,hc⟩:=aS.1 hc
     injection hc with h1 h2
     subst h1 h2
     exact XT hp dq eZ bf ku h aQ hl hR hlen.1 he (.inl rfl) hr
    ·rename_i st he
     obtain⟨l,hr,hc⟩:=aS.1 hc
     injection hc with h1 h2
     subst h1 h2
     exact XT hp dq eZ bf ku h aQ hl hR hlen.1 he (.inr rfl) hr
    ·cases hc
   ·cases hc
  ·cases hc
 ·unfold ja at hc
  simp only at hc
  split at hc
  ·rename_i F ku
   obtain⟨as,has,hc⟩:=da.1 hc
   obtain⟨y,hy,hc⟩:=aS.1 hc
   injection hc with h1 h2
   subst h1 h2
   obtain⟨c1,c2⟩:=I6 has
   refine⟨rfl,hp.nat f F ku I w as xs y (by rw[hl,c1]) (fun i hi=>hR i (by omega) _ (c2 i (by omega) hi)) hy⟩
  ·cases hc
theorem Uj {AP:FuncId→Option aI} {K:World→Prop} (hp:s7 P AP K) (hK:∀w,Below B0 w0 w→K w):∀n,kX P B0 w0 (eV AP n)∧nY P B0 w0 (eV AP n)∧ij (eV AP n)
 |0=>⟨⟨fun _ _ _ _ _ _ _ _ _ _ _ _ _ _ _ _ h=>by simp[eV]at h,fun _ _ _ _ _ _ _ _ _ _ _ _ _ _ _ _ _ _ _ h=>by simp[eV]at h⟩,⟨fun _ _ _ _ _ _ _ _ _ _ _ _ _ _ h=>by simp[eV]at h,fun _ _ _ _ _ _ _ _ _ _ h=>by simp[eV]at h⟩,fun _ _ _ _ _ _ _ h=>by simp[eV]at h⟩
 |n+1=>
  have h:=Uj hp hK n
  ⟨ady hp hK h.1 h.2.1 h.2.2 n,adw hp h.1 h.2.1 h.2.2 n,ij.step h.2.2 n⟩
end
end Go.Ax
/-
  From the executor's answer to the call of the model.
-/
namespace Go.Ax
open Go.RowKit
def K2 (w:World):aG:={I:=fun b i=>w.cell? ⟨b,i,none⟩,ag:=[],loops:=[],own:=fun _=>none}
def Ce:ae:=⟨[],[],0,0⟩
theorem as8 (P:Program) (w:World):cz P w.heap.size w (K2 w) Ce w:=
 ⟨fun _ _ _ e=>e,rfl,rfl,fun d r gr e=>by simp[Ce]at e,fun l lp r e=>by simp[Ce]at e,fun d gr e=>by simp[K2]at e,fun d d' gr bI _ e=>by simp[K2]at e,Below.refl _ _,aH _,fun b o e=>by cases e⟩
abbrev Reads (w:World):AV→Value→Prop:=bL fun b i=>w.cell? ⟨b,i,none⟩
theorem asi {P:Program} {AP:FuncId→Option aI} {K:World→Prop} (hp:s7 P AP K) {n:Nat} {f:FuncId} {args:List AV} {xs:Array Value} {w:World} {b:Bool} {s':ae} (hK:∀w',Below w.heap.size w w'→K w') (hl:xs.size=args.length) (hR:∀i (hi:i<args.length),Reads w args[i] (xs.getD i Go.undef))
  (hc:eV AP n (.fn f) args Ce=some (.v (.bool b),s')):Calls P f xs w fun e w'=>e=.returned (.bool b)∧Below w.heap.size w w':=by
 have:=((Uj (P:=P) (B0:=w.heap.size) (w0:=w) hp hK n).1.fn (K2 w) 0 0 Ce w f args xs _ s' (as8 P w) (bh _) (aH _) (aH _) hl (fun i hi=>.cl (hR i hi)) hc).2
 refine Calls.mono this fun e w' he=>?_
 obtain⟨z,rfl,G',h1,_,_,_,h5⟩:=he
 rw[h5.gu]
 exact⟨rfl,h1.below⟩
end Go.Ax
