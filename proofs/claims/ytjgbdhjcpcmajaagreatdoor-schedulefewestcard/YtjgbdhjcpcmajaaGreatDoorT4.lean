/-
  A region in its own order, and one whose order is drawn.
-/
import Derived.Test.YtjgbdhjcpcmajaaGreatDoorT3
import Derived.TacticsIn
import Derived.OrdersIn
set_option linter.unusedSimpArgs false
set_option linter.unusedVariables false
set_option maxRecDepth 100000
namespace Go.Ax
open Go.RowKit
section
variable{P:Program} {B0:Nat} {w0:World} {G:aG} {k nl:Nat} {w:World} {s:ae}
theorem rB.trans {a a1 a2:Act} {c9 vB:St} {w1 w2:World} (h:rB P B0 w0 G k nl s a c9 a1 w1)
  (h':∀G',At P B0 w0 G' k nl c9.sig w1→eu G' k nl c9.tmps a1→rB P B0 w0 G' k nl c9.sig a1 vB a2 w2):rB P B0 w0 G k nl s a vB a2 w2:=by
 obtain⟨G1,h1,h2,h3,h4,h5,h6⟩:=h
 obtain⟨G2,g1,g2,g3,g4,g5,g6⟩:=h' G1 h1 h4
 rw[h3]at g2 g3
 exact⟨G2,g1,h2.trans g2,g3,g4,g5.trans h5,g6.trans h6⟩
theorem Zj {call:aZ} (dj:kM P B0 w0 call) (eY:nK P B0 w0 call) (bh:gX call) {rd:Option Nat} {n:Nat} {all:List Oper} {md:Nat→Md} {Q:Exit→Act→World→Prop}:∀(l:List Oper) (i:Nat) (al:List bz) (G:aG) (st aQ:St) (a:Act) (w:World),
  nS P all md i l=some al→At P B0 w0 G k nl st.sig w→st.sig.loops.length=nl→eu G k nl st.tmps a→(∀o,o∈al→∀t,o.dst=some t→t<a.tmps.size)→ops call al st=some aQ→
  (∀a' w',rB P B0 w0 G k nl st.sig a aQ a' w'→Q .normal a' w')→wpListIn (iz rd) n P all.toArray Q l a w
 |[],i,al,G,st,aQ,a,w,hc,h,aR,hR,hd,hs,hQ=>by
  simp only[nS]at hc
  injection hc with hc
  subst hc
  simp only[ops]at hs
  injection hs with hs
  subst hs
  exact hQ a w ⟨G,h,.refl _ _ _,rfl,hR,rfl,rfl⟩
 | o :: r, i, al, G, st, aQ, a, w, hc, h, aR, hR, hd, hs, hQ => by
  simp only[nS]at hc
  split at hc
  ·rename_i g op rest e1 e2 e3
   injection hc with hc
   subst hc
   rw[QB]at hs
   obtain⟨c9,qO,xg⟩:=cX.1 hs
   unfold wpListIn
   refine Zd dj eY bh h aR hR (ao:=⟨o.dst,g,op⟩) e1 e2 rfl (fun t ht=>hd _ (by simp) t ht) qO fun a1 w1 hp=>?_
   obtain⟨G1,g1,g2,g3,g4,g5,g6⟩:=hp
   refine Zj dj eY bh r (i+1) rest G1 c9 aQ a1 w1 e3 g1 (g3.trans aR) g4 (fun o' ho t ht=>by rw[g5];exact hd o' (by simp[ho]) t ht) xg fun a' w' u6=>hQ a' w' ?_
   obtain⟨G2,q1,q2,q3,q4,q5,q6⟩:=u6
   rw[g3]at q2 q3
   exact⟨G2,q1,g2.trans q2,q3,q4,q5.trans g5,q6.trans g6⟩
  ·cases hc
def uv (m m':ae):Prop:=∀d b,m'.box d b=m.box d b
theorem uv.load {m m':ae} (h:uv m m') (agg:Bool) (n:Nat) (x:AV):m'.load agg n x=m.load agg n x:=by
 have:m'.row x=m.row x:=by cases x<;>simp[ae.row,h _ _]
 simp[ae.load,this]
def pH (l:List Nat) (ρ ρ':Nat→AV):Prop:=∀t,t∈l→ρ t=ρ' t
theorem oM {x:aF} {ρ ρ':Nat→AV} (h:pH (js x) ρ ρ'):aE ρ x=aE ρ' x:=by
 cases x with
 |tmp t=>exact h t (by simp[js])
 |const c=>rfl
theorem mm {l l':List Nat} {ρ ρ':Nat→AV} (h:pH (l++l') ρ ρ'):pH l ρ ρ':=fun t ht=>h t (pF _ ht)
theorem pI {l l':List Nat} {ρ ρ':Nat→AV} (h:pH (l++l') ρ ρ'):pH l' ρ ρ':=fun t ht=>h t (Hw _ ht)
theorem CG {xs:List aF} {ρ ρ':Nat→AV} (h:pH (xs.flatMap js) ρ ρ'):xs.map (aE ρ)=xs.map (aE ρ'):=by
 induction xs with
 |nil=>rfl
 |cons x r ih=>
  simp only[Hq]at h
  simp only[iM]
  rw[oM (mm h),ih (pI h)]
theorem LW {x:Option aF} {ρ ρ':Nat→AV} (h:pH (K1 x) ρ ρ'):qt (aE ρ) x=qt (aE ρ') x:=by
 cases x with
 |none=>rfl
 |some x=>simp only[qt];rw[oM h]
theorem ab6 {ps:List (Nat×Nat×aF)} {ρ ρ':Nat→AV} (h:pH (ps.flatMap fun p=>js p.2.2) ρ ρ') (cs:List AV):nb cs (aE ρ) ps=nb cs (aE ρ') ps:=by
 induction ps generalizing cs with
 |nil=>rfl
 |cons p r ih=>
  obtain⟨o,z,x⟩:=p
  simp only[Hq]at h
  simp only[nb]
  rw[oM (mm h)]
  split
  ·exact ih (pI h) _
  ·rfl
theorem ab7 {ps:List (Nat×aF)} {ρ ρ':Nat→AV} (h:pH (ps.flatMap fun p=>js p.2) ρ ρ') (rs:List (List AV)):mo rs (aE ρ) ps=mo rs (aE ρ') ps:=by
 induction ps generalizing rs with
 |nil=>rfl
 | cons p r ih =>
  obtain⟨o,x⟩:=p
  simp only[Hq]at h
  simp only[mo]
  rw[oM (mm h)]
  split
  ·split
   ·exact ih (pI h) _
   ·rfl
  ·rfl
theorem apt {call:aZ} {op:bX} {ρ ρ':Nat→AV} (h:pH (K0 op) ρ ρ') (m:ae):aN call (aE ρ) m op=aN call (aE ρ') m op:=by
 cases op<;>simp only[K0]at h<;>simp only[aN]<;>first
  |rfl
  |(rw[oM h];done)
  |(exact hU (yj m _ _) (oM (x:=.tmp _) h))
  |(rw[oM (mm h),oM (pI h)];done)
  |(rw[oM (mm (mm h)),oM (pI (mm h)),oM (pI h)];done)
  |(rw[ab6 h];done)
  |(rw[ab7 h];done)
  |(rw[CG h];done)
  |(rw[CG (mm h),CG (pI h)];done)
  |(rename_i f as ws;rw[CG (mm h)];exact hU (oF call m _ _) (zP fun q hq=>by have:=oM (x:=.tmp q.2.2) (fun t ht=>pI h t (by rw[eJ.1 ht];exact cC.2 ⟨q,hq,rfl⟩));rw[this]))
  |(rw[oM (mm h),CG (pI h)];done)
  |(rw[oM (mm (mm (mm h))),LW (pI (mm (mm h))),LW (pI (mm h)),LW (pI h)];done)
theorem ap9 {call:aZ} {op:bX} (h:cN op=.pure):∃f:(aF→AV)→Option AV,∀ρ m,aN call ρ m op=(f ρ).map (·,m):=by
 cases op<;>simp only[cN]at h<;>first
  |(cases h;done)
  |(split at h<;>cases h;done)
  |exact⟨_,fun ρ m=>rfl⟩
  |skip
 case move x=>exact⟨fun ρ=>some (ρ x),fun _ _=>rfl⟩
 case build zs ps=>exact⟨fun ρ=>(nb zs ρ ps).map .agg,fun ρ m=>by simp only[aN,LN];rfl⟩
 case buildSlice es rs ps=>exact⟨fun ρ=>(mo rs ρ ps).map (.slice .full es),fun ρ m=>by simp only[aN,LN];rfl⟩
 case eqv neg kd x y=>exact⟨fun ρ=>(oK kd (ρ x) (ρ y)).map fun t=>.v (.bool (if neg then !t else t)),fun ρ m=>by simp only[aN,LN];rfl⟩
 case om f a b=>exact⟨fun ρ=>if(a.map ρ).all AV.vm then some (.fn f (a.map ρ) (b.map ρ))else none,fun ρ m=>by simp only[aN];split<;>rfl⟩
 case BG n=>exact⟨fun _=>some (AV.int n),fun _ _=>rfl⟩
theorem I3 {m:ae} {d:Nat} {f:Rec→Rec} (hf:∀r,(f r).boxes=r.boxes):uv m (m.bp d f):=fun d' b=>by
 simp only[ae.box,ae.bp,dM]
 by_cases h:d=d'
 ·subst h
  rw[ak rfl]
  cases m.ag[d]? with
  |none=>rfl
  |some r=>simp[hf]
 ·rw[aq h]
theorem aqd {call:aZ} {op:bX} (h:cN op=.soft) {ρ:aF→AV} {m m':ae} {x:AV} (ho:aN call ρ m op=some (x,m')):uv m m':=by
 cases op<;>simp only[cN]at h<;>first|(cases h;done)|skip
 case call ro f as=>
  cases ro
  ·cases h
  ·simp only[aN,dF,bB]at ho
   obtain⟨p,_,ho⟩:=aU.1 ho
   injection ho with _ ho
   subst ho
   exact fun _ _=>rfl
 case wz f as=>
  simp only[aN,dF,bB]at ho
  obtain⟨p,_,ho⟩:=aU.1 ho
  injection ho with _ ho
  subst ho
  exact fun _ _=>rfl
 case jZ ro f as=>
  cases ro
  ·cases h
  ·simp only[aN,lL]at ho
   split at ho
   ·simp only[dF,bB]at ho
    obtain⟨p,_,ho⟩:=aU.1 ho
    injection ho with _ ho
    subst ho
    exact fun _ _=>rfl
   ·simp only[dF,bB]at ho
    obtain⟨p,_,ho⟩:=aU.1 ho
    injection ho with _ ho
    subst ho
    exact fun _ _=>rfl
   ·cases ho
 case th f as=>
  simp only[aN,ng]at ho
  split at ho
  ·split at ho
   ·injection ho with ho
    injection ho with _ ho
    subst ho
    exact I3 fun r=>rfl
   ·injection ho with ho
    injection ho with _ ho
    subst ho
    exact fun _ _=>rfl
  ·cases ho
  ·obtain⟨_,_,ho⟩:=aU.1 ho
   injection ho with _ ho
   subst ho
   exact fun _ _=>rfl
  ·cases ho
 case append es a b =>
  simp only[aN,eD]at ho
  split at ho
  ·split at ho
   ·injection ho with ho
    injection ho with _ ho
    subst ho
    exact fun _ _=>rfl
   ·split at ho
    ·split at ho
     ·injection ho with ho
      injection ho with _ ho
      subst ho
      exact I3 fun r=>rfl
     ·injection ho with ho
      injection ho with _ ho
      subst ho
      exact I3 fun r=>rfl
     ·split at ho
      ·injection ho with ho
       injection ho with _ ho
       subst ho
       exact I3 fun r=>rfl
      ·cases ho
     ·cases ho
    ·cases ho
  ·cases ho
theorem QE {call:aZ} {op:bX} (h:cN op=.load) {ρ:aF→AV} {m m':ae} (hs:uv m m'):∃r:Option AV,aN call ρ m op=r.map (·,m)∧aN call ρ m' op=r.map (·,m'):=by
 cases op<;>simp only[cN]at h<;>first|(cases h;done)|(split at h<;>cases h;done)|skip
 case load agg n x=>exact⟨m.load agg n (ρ x),rfl,by simp only[aN];rw[hs.load]⟩
def uj (m m':ae):Prop:=∀d b cs,m.box d b=some cs→∃cs',m'.box d b=some cs'∧(cs'=cs∨cs=[])
theorem uj.dz (m:ae) (cs:List AV):uj m (m.dz cs).2:=fun d b ds h=>by
 refine⟨ds,?_,.inl rfl⟩
 simp only[ae.box,ae.dz,ae.jj,ae.bp,dM]at h⊢
 by_cases hd:m.cur=d
 ·subst hd
  rw[ak rfl]
  cases hr:m.ag[m.cur]? with
  |none=>rw[hr]at h;cases h
  |some r=>
   rw[hr]at h
   exact my h
 ·rw[aq hd]
  exact h
theorem AL (m:ae) (d b:Nat) (cs:List AV):(m.dA d b cs).cur=m.cur:=by simp[ae.cur,ae.dA,ae.bp]
theorem I1 (m:ae) (d b:Nat) (cs:List AV) (d' b':Nat):(m.dA d b cs).box d' b'=if d=d'∧b=b' then(m.box d' b').map fun _=>cs else m.box d' b':=by
 simp only[ae.box,ae.dA,ae.bp,dM]
 by_cases hd:d=d'
 ·subst hd
  rw[ak rfl]
  cases m.ag[d]? with
  |none=>simp
  | some r =>
   simp only[dK,eK,sW]
   by_cases hb:b=b'
   ·subst hb
    simp only[K9,ak]
    by_cases aC:b<r.boxes.length
    ·simp[aC]
    ·simp[aC,nL (LG aC)]
   ·simp[hb]
 ·simp[hd]
theorem KG (m:ae) (d b:Nat) (cs:List AV) (d':Nat):(m.dA d b cs).bL d'=m.bL d':=by
 simp only[ae.bL,ae.dA,ae.bp,dM]
 by_cases hd:d=d'
 ·subst hd
  rw[ak rfl]
  cases m.ag[d]? <;>simp
 ·simp[hd]
theorem asu (m:ae) (d b:Nat) (cs:List AV) (b':Nat) (cs':List AV) (hb:b≠b'):(m.dA d b cs).dA d b' cs'=(m.dA d b' cs').dA d b cs:=by
 simp only[ae.dA,ae.bp]
 congr 1
 refine pD fun i=>?_
 simp only[dM]
 by_cases hd:d=i
 ·subst hd
  simp only[ak]
  cases m.ag[d]? with
  |none=>rfl
  |some r=>
   simp only[dK,fl]
   congr 1
   exact List.set_comm _ _ hb
 ·simp[hd]
theorem G7 {m m':ae} {back:Nat} {zs:List AV} {v:AV} (h:mg m back zs=some (v,m')):
  m.box m.cur (m.bL m.cur-back)=some []∧(zs.isEmpty=false∧m.lB m.cur=false)∧v=.ptr m.cur (m.bL m.cur-back) 0∧m'=m.dA m.cur (m.bL m.cur-back) zs:=by
 unfold mg at h
 split at h
 ·rename_i hb
  split at h
  ·cases h
  ·rename_i hz
   injection h with h
   injection h with h1 h2
   refine⟨hb,⟨?_,by cases e:m.lB m.cur with|true=>exact absurd (.inr e) hz|false=>rfl⟩,h1.symm,h2.symm⟩
   cases he:zs.isEmpty with
   |false=>rfl
   |true=>exact absurd (.inl he) hz
 ·cases h
theorem Rv {m:ae} {back:Nat} {zs:List AV} (h1:m.box m.cur (m.bL m.cur-back)=some []) (h2:zs.isEmpty=false∧m.lB m.cur=false):
  mg m back zs=some (.ptr m.cur (m.bL m.cur-back) 0,m.dA m.cur (m.bL m.cur-back) zs):=by
 unfold mg
 rw[h1]
 simp[h2.1,h2.2]
theorem Y5 (m:ae) (d b:Nat) (cs:List AV) (d':Nat):(m.dA d b cs).lB d'=m.lB d':=by
 simp only[ae.lB,ae.dA,ae.bp,vN]
 by_cases h:d=d'
 ·subst h
  cases m.ag[d]? <;>simp
 ·simp[h]
theorem asS {m m1 m2:ae} {b1 b2:Nat} {z1 z2:List AV} {v u:AV} (h1:mg m b1 z1=some (v,m1)) (h2:mg m1 b2 z2=some (u,m2)):
  ∃dJ,mg m b2 z2=some (u,dJ)∧mg dJ b1 z1=some (v,m2):=by
 obtain⟨a1,a2,rfl,rfl⟩:=G7 h1
 obtain⟨c1,c2,rfl,rfl⟩:=G7 h2
 simp only[AL,KG]at c1⊢
 rw[AL,Y5]at c2
 have aB:m.bL m.cur-b1≠m.bL m.cur-b2:=fun e=>by
  rw[I1,ak ⟨rfl,e⟩,←e,a1]at c1
  simp only[dK,fl]at c1
  rw[c1]at a2
  exact absurd a2.1 (by decide)
 have Am:m.box m.cur (m.bL m.cur-b2)=some []:=by
  rw[I1,aq (fun e=>aB e.2)]at c1
  exact c1
 refine⟨_,Rv Am c2,?_⟩
 have:=Rv (m:=m.dA m.cur (m.bL m.cur-b2) z2) (back:=b1) (zs:=z1) (by
  simp only[AL,KG]
  rw[I1,aq (fun e=>aB e.2.symm)]
  exact a1) (by rw[AL,Y5];exact a2)
 rw[this]
 simp only[AL,KG]
 rw[asu _ _ _ _ _ _ (qi aB)]
def rp (m m':ae):Prop:=m'=m∨∃cs,cs≠[]∧m'=(m.dz cs).2
theorem Zl {call:aZ} {op:bX} (h:cN op=.fresh) {ρ:aF→AV} {m m':ae} {x:AV} (ho:aN call ρ m op=some (x,m')):rp m m':=by
 cases op<;>simp only[cN]at h<;>first|(cases h;done)|(split at h<;>cases h;done)|skip
 case alloc zs=>
  simp only[aN]at ho
  split at ho
  ·cases ho
  rename_i hz
  simp only[fl]at ho
  exact .inr ⟨zs,fun e=>hz (by rw[e];rfl),by rw[ho]⟩
 case box n y=>
  simp only[aN,yh]at ho
  split at ho
  ·rename_i hc
   injection ho with ho
   exact .inr ⟨(ρ y).cells,fun e=>by have h1:=hc.1;have h2:=hc.2.2;rw[e]at h1;simp at h1;omega,by rw[ho]⟩
  ·cases ho
 case sM es y=>
  simp only[aN,rf]at ho
  split at ho
  ·rename_i hc
   injection ho with ho
   exact .inr ⟨(ρ y).cells,fun e=>by have h1:=hc.1;have h2:=hc.2.2;rw[e]at h1;simp at h1;omega,(hU Prod.snd ho).symm⟩
  ·cases ho
 case tf f as=>
  simp only[aN,lK]at ho
  split at ho
  ·split at ho
   ·obtain⟨cs,_,ho⟩:=cX.1 ho
    split at ho
    case isFalse=>cases ho
    rename_i dw
    obtain⟨cs',eV,ho⟩:=aU.1 ho
    injection ho with _ ho
    refine .inr ⟨cs',fun e=>?_,ho.symm⟩
    subst e
    cases cs with
    |nil=>exact absurd dw.1 (by decide)
    |cons q r=>
     simp only[closeAll]at eV
     split at eV<;>cases eV
   ·obtain⟨_,_,ho⟩:=aU.1 ho
    injection ho with _ ho
    exact .inl ho.symm
  ·cases ho
  ·obtain⟨_,_,ho⟩:=aU.1 ho
   injection ho with _ ho
   exact .inl ho.symm
  ·cases ho
 case mkSlice es zs l c=>
  simp only[aN,BN]at ho
  obtain⟨_,_,ho⟩:=cX.1 ho
  obtain⟨_,_,ho⟩:=aU.1 ho
  split at ho
  ·injection ho with _ ho
   exact .inl ho.symm
  ·rename_i hz
   injection ho with _ ho
   exact .inr ⟨_,fun e=>hz (by rw[e];rfl),ho.symm⟩
 case vZ es a b =>
  simp only[aN,x6]at ho
  split at ho
  ·rename_i o e1 xs o2 e2 ys ns kC
   split at ho
   ·cases ho
   rename_i hz
   split at ho
   ·rename_i bn
    obtain⟨rfl,_,_,_,Xm,_⟩:=bn
    injection ho with ho
    injection ho with _ ho
    exact .inr ⟨_,fun e=>hz ⟨by rw[Sb,kN,e];rfl,by cases ys with
     |nil=>simp at Xm
     |cons=>rfl⟩,ho.symm⟩
   rw[ns,kC]at ho
   simp only[v8]at ho
   split at ho
   ·simp only[fl,Cu]at ho
    exact .inl ho.2.symm
   ·rename_i hy
    split at ho
    ·split at ho
     ·injection ho with ho
      injection ho with _ ho
      exact .inr ⟨_,fun e=>hz ⟨by rw[e];rfl,by simpa using hy⟩,ho.symm⟩
     ·cases ho
    ·cases ho
  ·cases ho
theorem apU {call:aZ} {op:bX} (h:cN op=.fresh) {ρ:aF→AV} {m m':ae} {x:AV} (ho:aN call ρ m op=some (x,m')):uj m m':=by
 rcases Zl h ho with rfl|⟨cs,_,rfl⟩
 ·exact fun d b cs e=>⟨cs,e,.inl rfl⟩
 ·exact uj.dz m cs
theorem rp.dead {m m':ae} (h:rp m m') {b:Nat}:m'.yx b=m.yx b∧m'.cur=m.cur:=by
 rcases h with rfl|⟨cs,hc,rfl⟩
 ·exact⟨rfl,rfl⟩
 have gQ:(m.dz cs).2.cur=m.cur:=by simp[ae.cur,ae.dz,ae.jj,ae.bp]
 refine⟨?_,gQ⟩
 unfold ae.yx
 rw[gQ]
 simp only[ae.dz,ae.jj,ae.bp,dM,bB]
 cases m.ag[m.cur]? with
 |none=>rfl
 | some r =>
  simp only[dK,List.drop_append,vL]
  have:((List.drop (b+1-r.boxes.length) [cs]).any List.isEmpty)=false:=by
   cases b+1-r.boxes.length with
   |zero=>cases cs with
    |nil=>exact absurd rfl hc
    |cons=>rfl
   |succ k=>simp
  rw[this,Cg]
theorem rp.box {m m':ae} (h:rp m m') {d b:Nat} (hb:d=m.cur→m.yx b=true):m'.box d b=m.box d b:=by
 rcases h with rfl|⟨cs,hc,rfl⟩
 ·rfl
 simp only[ae.box,ae.dz,ae.jj,ae.bp,dM]
 by_cases hd:m.cur=d
 ·rw[ak hd]
  have hb:=hb hd.symm
  unfold ae.yx at hb
  rw[hd]at hb
  cases hq:m.ag[d]? with
  |none=>rfl
  | some r =>
   rw[hq]at hb
   simp only[dK,eK]
   have aC:b<r.boxes.length:=by
    simp only[fK]at hb
    obtain⟨x,hx,_⟩:=hb
    have:=List.length_pos_of_mem hx
    rw[sX]at this
    omega
   exact dC aC
 ·rw[aq hd]
theorem rp.jH {m m':ae} (h:rp m m') (agg:Bool) (n:Nat) (x:AV):zr m' agg n x=zr m agg n x:=by
 unfold zr
 split
 ·rename_i d b off
  obtain⟨h1,h2⟩:=h.dead (b:=b)
  rw[h1,h2]
  split
  ·rfl
  ·rename_i hn
   simp only[ae.load,ae.row]
   rw[h.box (fun e=>by cases hq:m.yx b with|true=>rfl|false=>exact absurd ⟨e,hq⟩ hn)]
 ·rename_i hx
  simp only[ae.load]
  cases x<;>first|rfl|exact(hx _ _ _ rfl).elim
theorem QF {call:aZ} {op:bX} (h:cN op=.jH) {ρ:aF→AV} {m m':ae} (hs:rp m m'):∃r:Option AV,aN call ρ m op=r.map (·,m)∧aN call ρ m' op=r.map (·,m'):=by
 cases op<;>simp only[cN]at h<;>first|(cases h;done)|(split at h<;>cases h;done)|skip
 case jH agg n x=>exact⟨zr m agg n (ρ x),rfl,by simp only[aN];rw[hs.jH]⟩
theorem QG {call:aZ} {op:bX} {back:Nat} (h:cN op=.slot back):∃zs,∀ρ m,aN call ρ m op=mg m back zs:=by
 cases op<;>simp only[cN]at h<;>first|(cases h;done)|(split at h<;>cases h;done)|skip
 case slot back zs=>injection h with h;subst h;exact⟨zs,fun _ _=>rfl⟩
theorem QD {call:aZ} {op:bX} {back:Nat} (h:cN op=.fill back) {ρ:aF→AV} {m m':ae} {v:AV} (ho:aN call ρ m op=some (v,m')):∃cs,m'=m.dA m.cur (m.bL m.cur-back) cs:=by
 cases op<;>simp only[cN]at h<;>first|(cases h;done)|(split at h<;>cases h;done)|skip
 case fill b n x y =>
  injection h with h
  subst h
  simp only[aN]at ho
  obtain⟨m1,hm,ho⟩:=aU.1 ho
  injection ho with _ ho
  subst ho
  unfold yD at hm
  split at hm
  ·split at hm
   ·rename_i hc
    unfold ae.store at hm
    simp only[hc.1,bB]at hm
    split at hm
    ·split at hm
     ·cases hm
     ·split at hm
      ·injection hm with hm
       rw[hc.2.1]at hm
       exact⟨_,hm.symm⟩
      ·cases hm
    ·cases hm
   ·cases hm
  ·cases hm
theorem KP {call:aZ} {op:bX} {res back:Nat} (h:cN op=.fS res) (hb:back≤res) {ρ:aF→AV} {m:ae} (cs:List AV):
  ∃r:Option AV,aN call ρ m op=r.map (·,m)∧aN call ρ (m.dA m.cur (m.bL m.cur-back) cs) op=r.map (·,m.dA m.cur (m.bL m.cur-back) cs):=by
 cases op<;>simp only[cN]at h<;>first|(cases h;done)|(split at h<;>cases h;done)|skip
 case fS arJ agg n x=>
  injection h with h
  subst h
  refine⟨xq m arJ agg n (ρ x),rfl,?_⟩
  simp only[aN]
  congr 1
  unfold xq
  split
  ·rename_i d b off
   simp only[AL,KG]
   split
   ·rfl
   ·rename_i hn
    simp only[ae.load,ae.row]
    rw[I1,aq (fun e=>hn ⟨e.1.symm,by have:=e.2;omega⟩)]
  ·rename_i hx
   simp only[ae.load]
   congr 1
   generalize ρ x=q at hx
   cases q<;>first|rfl|exact(hx _ _ _ rfl).elim
theorem aqt {agg:Bool} {n:Nat} {cs cs':List AV} {off:Nat} {v:AV} (hc:cs'=cs∨cs=[]) (h:part agg n cs off=some v):part agg n cs' off=some v:=by
 rcases hc with rfl|rfl
 ·exact h
 ·unfold part at h⊢
  split at h
  ·rename_i ha
   split at h
   ·rename_i hle
    simp only[iK]at hle
    have h0:off=0:=by omega
    have h1:n=0:=by omega
    subst h0 h1
    rw[ak ha,ak (by omega)]
    simpa using h
   ·cases h
  ·simp at h
theorem uj.load {m m':ae} (h:uj m m') {agg:Bool} {n:Nat} {x v:AV} (hl:m.load agg n x=some v):m'.load agg n x=some v:=by
  unfold ae.load at hl⊢
  obtain⟨p,hp,hl⟩:=cX.1 hl
  have : ∃ cs', m'.row x = some (cs', p.2) ∧ (cs' = p.1 ∨ p.1 = []) := by
    cases x<;>first
      |exact⟨p.1,hp,.inl rfl⟩
      | (simp only [ae.row] at hp ⊢
         obtain⟨cs,dw,rfl⟩:=aU.1 hp
         obtain⟨cs',e1,e2⟩:=h _ _ _ dw
         exact⟨cs',by rw[e1];rfl,e2⟩)
  obtain⟨cs',e1,e2⟩:=this
  rw[e1]
  exact aqt e2 hl
theorem ap0 {call:aZ} {op:bX} (h:cN op=.load) {ρ:aF→AV} {m m1:ae} {v:AV} (ho:aN call ρ m op=some (v,m1)):m1=m∧∀m',uj m m'→aN call ρ m' op=some (v,m'):=by
 cases op<;>simp only[cN]at h<;>first|(cases h;done)|(split at h<;>cases h;done)|skip
 case load agg n x=>
  simp only[aN]at ho⊢
  obtain⟨q1,q2⟩:=kI ho
  simp only at q1 q2
  exact⟨by first|exact q2|exact q2.symm,fun m' hg=>by rw[hg.load q1];rfl⟩
end
end Go.Ax
/-
  A region whose order is drawn: every order gives the same.
-/
namespace Go.Ax
open Go.RowKit
section
variable{P:Program} {B0:Nat} {w0:World} {G:aG} {k nl:Nat} {w:World} {s:ae}
noncomputable def bC (call:aZ) (o:bz) (ρ:Nat→AV) (m:ae):Option (AV×ae):=
 if kj ρ o.guard then aN call (aE ρ) m o.op else some (AV.undef,m)
theorem K8 (call:aZ) (o:bz) (st:St):rk call o st=(bC call o st.tmps st.sig).map fun p=>⟨ki st.tmps o.dst p.1,p.2⟩:=by
 unfold rk bC
 split
 ·split
  ·rename_i h;simp[h]
  ·rename_i h;simp[h]
 ·rfl
theorem U8 {call:aZ} {o:bz} {ρ ρ':Nat→AV} (h:pH (vy o) ρ ρ') (m:ae):bC call o ρ m=bC call o ρ' m:=by
 have h1:pH (K0 o.op) ρ ρ':=mm h
 have h2:kj ρ o.guard=kj ρ' o.guard:=by
  have h2:=pI h
  cases hg:o.guard with
  |none=>rfl
  |some p=>
   obtain⟨t,b⟩:=p
   rw[hg]at h2
   simp only[kj]
   rw[h2 t (by simp)]
 simp only[bC,h2,apt h1]
def vr (a b:SH):Bool:=
 match a,b with
 |.pure,_|_,.pure|.load,.load|.load,.soft|.soft,.load|.load,.fresh|.jH,.jH|.jH,.fresh|.fresh,.jH|.fS _,.fS _|.slot _,.slot _=>true
 |.fS r,.slot b|.slot b,.fS r|.fS r,.fill b|.fill b,.fS r=>decide (b≤r)
 |_,_=>false
theorem Vd {call:aZ} {o:bz} (h:cN o.op=.pure) (ρ:Nat→AV):∃r:Option AV,∀m,bC call o ρ m=r.map (·,m):=by
 obtain⟨f,hf⟩:=ap9 (call:=call) h
 by_cases hw:kj ρ o.guard=true
 ·exact⟨f (aE ρ),fun m=>by simp only[bC,ak hw,hf]⟩
 ·exact⟨some AV.undef,fun m=>by simp only[bC,aq hw];rfl⟩
theorem NK {call:aZ} {o:bz} (h:cN o.op=.load) (ρ:Nat→AV) {m m':ae} (hs:uv m m'):∃r:Option AV,bC call o ρ m=r.map (·,m)∧bC call o ρ m'=r.map (·,m'):=by
 by_cases hw:kj ρ o.guard=true
 ·obtain⟨r,h1,h2⟩:=QE (call:=call) h (ρ:=aE ρ) hs
  exact⟨r,by simp only[bC,ak hw,h1],by simp only[bC,ak hw,h2]⟩
 ·exact⟨some AV.undef,by simp only[bC,aq hw];rfl,by simp only[bC,aq hw];rfl⟩
theorem Jg {call:aZ} {o:bz} (h:cN o.op=.jH) (ρ:Nat→AV) {m m':ae} (hs:rp m m'):∃r:Option AV,bC call o ρ m=r.map (·,m)∧bC call o ρ m'=r.map (·,m'):=by
 by_cases hw:kj ρ o.guard=true
 ·obtain⟨r,h1,h2⟩:=QF (call:=call) h (ρ:=aE ρ) hs
  exact⟨r,by simp only[bC,ak hw,h1],by simp only[bC,ak hw,h2]⟩
 ·exact⟨some AV.undef,by simp only[bC,aq hw];rfl,by simp only[bC,aq hw];rfl⟩
theorem Va {call:aZ} {o:bz} (h:cN o.op=.fresh) {ρ:Nat→AV} {m m':ae} {x:AV} (ho:bC call o ρ m=some (x,m')):rp m m':=by
 unfold bC at ho
 split at ho
 ·exact Zl h ho
 ·injection ho with ho
  injection ho with _ ho
  exact .inl ho.symm
theorem Vb {call:aZ} {x y:bz} (hx:cN x.op=.jH) (hy:cN y.op=.fresh∨cN y.op=.jH) {ρ:Nat→AV} {m m1 m2:ae} {u v:AV} (h1:bC call x ρ m=some (v,m1)) (h2:bC call y ρ m1=some (u,m2)):
  ∃dJ,bC call y ρ m=some (u,dJ)∧bC call x ρ dJ=some (v,m2):=by
 obtain⟨r0,a1,_⟩:=Jg (call:=call) hx ρ (m:=m) (m':=m) (.inl rfl)
 rw[a1]at h1
 obtain⟨q1,q2⟩:=kI h1
 simp only at q1 q2
 subst q2
 have hf:∃f:rp m1 m2,True:=by
  rcases hy with hy|hy
  ·exact⟨Va hy h2,trivial⟩
  ·obtain⟨r,b1,_⟩:=Jg (call:=call) hy ρ (m:=m1) (m':=m1) (.inl rfl)
   rw[b1]at h2
   obtain⟨_,q⟩:=kI h2
   exact⟨.inl (by first|exact q|exact q.symm),trivial⟩
 obtain⟨hf,_⟩:=hf
 obtain⟨r,c1,c2⟩:=Jg (call:=call) hx ρ hf
 refine⟨m2,h2,?_⟩
 rw[c2]
 have e:=c1.symm.trans a1
 have:r=r0:=by cases r<;>cases r0<;>simp_all
 rw[this,q1]
 rfl
theorem aeG {call:aZ} {x y:bz} (hx:cN x.op=.fresh) (hy:cN y.op=.jH) {ρ:Nat→AV} {m m1 m2:ae} {u v:AV} (h1:bC call x ρ m=some (v,m1)) (h2:bC call y ρ m1=some (u,m2)):
  ∃dJ,bC call y ρ m=some (u,dJ)∧bC call x ρ dJ=some (v,m2):=by
 obtain⟨r,c1,c2⟩:=Jg (call:=call) hy ρ (Va hx h1)
 rw[c2]at h2
 obtain⟨q1,q2⟩:=kI h2
 simp only at q1 q2
 subst q2
 exact⟨m,by rw[c1,q1];rfl,h1⟩
theorem Vf {call:aZ} {o:bz} (h:cN o.op=.soft) {ρ:Nat→AV} {m m':ae} {x:AV} (ho:bC call o ρ m=some (x,m')):uv m m':=by
 unfold bC at ho
 split at ho
 ·exact aqd h ho
 ·injection ho with ho
  injection ho with _ ho
  subst ho
  exact fun _ _=>rfl
theorem aeI {call:aZ} {o:bz} (h:cN o.op=.fresh) {ρ:Nat→AV} {m m':ae} {x:AV} (ho:bC call o ρ m=some (x,m')):uj m m':=by
 unfold bC at ho
 split at ho
 ·exact apU h ho
 ·injection ho with ho
  injection ho with _ ho
  subst ho
  exact fun _ _ cs e=>⟨cs,e,.inl rfl⟩
theorem NM {call:aZ} {o:bz} {back:Nat} (h:cN o.op=.slot back) (ρ:Nat→AV):(∃zs,∀m,bC call o ρ m=mg m back zs)∨∀m,bC call o ρ m=some (AV.undef,m):=by
 obtain⟨zs,hb⟩:=QG (call:=call) h
 by_cases hw:kj ρ o.guard=true
 ·exact .inl ⟨zs,fun m=>by simp only[bC,ak hw,hb]⟩
 ·exact .inr fun m=>by simp[bC,aq hw]
theorem aeK {call:aZ} {x y:bz} {b1 b2:Nat} (hx:cN x.op=.slot b1) (hy:cN y.op=.slot b2) {ρ:Nat→AV} {m m1 m2:ae} {u v:AV} (h1:bC call x ρ m=some (v,m1)) (h2:bC call y ρ m1=some (u,m2)):
  ∃dJ,bC call y ρ m=some (u,dJ)∧bC call x ρ dJ=some (v,m2):=by
 rcases NM (call:=call) hx ρ with⟨z1,e1⟩|e1
 ·rcases NM (call:=call) hy ρ with⟨z2,e2⟩|e2
  ·rw[e1]at h1
   rw[e2]at h2
   obtain⟨dJ,c1,c2⟩:=asS h1 h2
   exact⟨dJ,(e2 m).trans c1,(e1 dJ).trans c2⟩
  ·rw[e2]at h2
   injection h2 with h2
   injection h2 with h3 h4
   subst h3 h4
   exact⟨m,e2 m,h1⟩
 ·rw[e1]at h1
  injection h1 with h1
  injection h1 with h3 h4
  subst h3 h4
  exact⟨m2,h2,e1 m2⟩
def Cx (back:Nat) (m m':ae):Prop:=m'=m∨∃cs,m'=m.dA m.cur (m.bL m.cur-back) cs
theorem Ve {call:aZ} {o:bz} {back:Nat} (h:cN o.op=.slot back) {ρ:Nat→AV} {m m':ae} {x:AV} (ho:bC call o ρ m=some (x,m')):Cx back m m':=by
 rcases NM (call:=call) h ρ with⟨zs,e⟩|e
 ·rw[e]at ho
  exact .inr ⟨_,(G7 ho).2.2.2⟩
 ·rw[e]at ho
  injection ho with ho
  injection ho with _ ho
  exact .inl ho.symm
theorem U9 {call:aZ} {o:bz} {back:Nat} (h:cN o.op=.fill back) {ρ:Nat→AV} {m m':ae} {x:AV} (ho:bC call o ρ m=some (x,m')):Cx back m m':=by
 unfold bC at ho
 split at ho
 ·exact .inr (QD h ho)
 ·injection ho with ho
  injection ho with _ ho
  exact .inl ho.symm
theorem Jh {call:aZ} {o:bz} {res back:Nat} (h:cN o.op=.fS res) (hb:back≤res) (ρ:Nat→AV) {m m':ae} (hw:Cx back m m'):∃r:Option AV,bC call o ρ m=r.map (·,m)∧bC call o ρ m'=r.map (·,m'):=by
 rcases hw with rfl|⟨cs,rfl⟩
 ·by_cases hw:kj ρ o.guard=true
  ·obtain⟨r,h1,_⟩:=KP (call:=call) h (bg _) (ρ:=aE ρ) (m:=m') []
   exact⟨r,by simp only[bC,ak hw,h1],by simp only[bC,ak hw,h1]⟩
  ·exact⟨some AV.undef,by simp only[bC,aq hw];rfl,by simp only[bC,aq hw];rfl⟩
 ·by_cases hw:kj ρ o.guard=true
  ·obtain⟨r,h1,h2⟩:=KP (call:=call) h hb (ρ:=aE ρ) (m:=m) cs
   exact⟨r,by simp only[bC,ak hw,h1],by simp only[bC,ak hw,h2]⟩
  ·exact⟨some AV.undef,by simp only[bC,aq hw];rfl,by simp only[bC,aq hw];rfl⟩
theorem Vc {call:aZ} {x y:bz} {res back:Nat} (hx:cN x.op=.fS res) (hb:back≤res) {ρ:Nat→AV} {m m1 m2:ae} {u v:AV} (hw:Cx back m1 m2) (h1:bC call x ρ m=some (v,m1)) (h2:bC call y ρ m1=some (u,m2)):
  ∃dJ,bC call y ρ m=some (u,dJ)∧bC call x ρ dJ=some (v,m2):=by
 obtain⟨r0,a1,_⟩:=Jh (call:=call) hx hb ρ (m:=m) (m':=m) (.inl rfl)
 rw[a1]at h1
 obtain⟨q1,q2⟩:=kI h1
 simp only at q1 q2
 subst q2
 obtain⟨r,c1,c2⟩:=Jh (call:=call) hx hb ρ hw
 refine⟨m2,h2,?_⟩
 rw[c2]
 have e:=c1.symm.trans a1
 have:r=r0:=by cases r<;>cases r0<;>simp_all
 rw[this,q1]
 rfl
theorem NN {call:aZ} {x y:bz} {res back:Nat} (hy:cN y.op=.fS res) (hb:back≤res) {ρ:Nat→AV} {m m1 m2:ae} {u v:AV} (hw:Cx back m m1) (h1:bC call x ρ m=some (v,m1)) (h2:bC call y ρ m1=some (u,m2)):
  ∃dJ,bC call y ρ m=some (u,dJ)∧bC call x ρ dJ=some (v,m2):=by
 obtain⟨r,c1,c2⟩:=Jh (call:=call) hy hb ρ hw
 rw[c2]at h2
 obtain⟨q1,q2⟩:=kI h2
 simp only at q1 q2
 subst q2
 exact⟨m,by rw[c1,q1];rfl,h1⟩
theorem aeJ {call:aZ} {o:bz} (h:cN o.op=.load) {ρ:Nat→AV} {m m1:ae} {v:AV} (ho:bC call o ρ m=some (v,m1)):m1=m∧∀m',uj m m'→bC call o ρ m'=some (v,m'):=by
 unfold bC at ho⊢
 split at ho
 ·rename_i hw
  obtain⟨h1,h2⟩:=ap0 h ho
  exact⟨h1,fun m' hg=>by rw[ak hw];exact h2 m' hg⟩
 ·rename_i hw
  injection ho with ho
  injection ho with h1 h2
  subst h1 h2
  exact⟨rfl,fun m' _=>by rw[aq hw]⟩
theorem aeL {call:aZ} {x y:bz} (h:vr (cN x.op) (cN y.op)=true) {ρ:Nat→AV} {m m1 m2:ae} {u v:AV} (h1:bC call x ρ m=some (v,m1)) (h2:bC call y ρ m1=some (u,m2)):
  ∃dJ,bC call y ρ m=some (u,dJ)∧bC call x ρ dJ=some (v,m2):=by
 have xp:cN x.op=.pure→∃dJ,bC call y ρ m=some (u,dJ)∧bC call x ρ dJ=some (v,m2):=fun hx=>by
  obtain⟨r,hr⟩:=Vd (call:=call) hx ρ
  rw[hr]at h1
  obtain⟨q1,q2⟩:=kI h1
  simp only at q1 q2
  subst q2
  exact⟨m2,h2,by rw[hr,q1];rfl⟩
 have yp:cN y.op=.pure→∃dJ,bC call y ρ m=some (u,dJ)∧bC call x ρ dJ=some (v,m2):=fun hy=>by
  obtain⟨r,hr⟩:=Vd (call:=call) hy ρ
  rw[hr]at h2
  obtain⟨q1,q2⟩:=kI h2
  simp only at q1 q2
  subst q2
  exact⟨m,by rw[hr,q1];rfl,h1⟩
 have ly:cN y.op=.load→uv m m1→∃dJ,bC call y ρ m=some (u,dJ)∧bC call x ρ dJ=some (v,m2):=fun hy hs=>by
  obtain⟨r,r1,r2⟩:=NK (call:=call) hy ρ hs
  rw[r2]at h2
  obtain⟨q1,q2⟩:=kI h2
  simp only at q1 q2
  subst q2
  exact⟨m,by rw[r1,q1];rfl,h1⟩
 have lx:cN x.op=.load→m1=m∧(uv m m2→∃dJ,bC call y ρ m=some (u,dJ)∧bC call x ρ dJ=some (v,m2)):=fun hx=>by
  obtain⟨r,r1,_⟩:=NK (call:=call) (m':=m) hx ρ (fun _ _=>rfl)
  rw[r1]at h1
  obtain⟨q1,q2⟩:=kI h1
  simp only at q1 q2
  subst q2
  refine⟨rfl,fun hs=>?_⟩
  obtain⟨r',QU,r2'⟩:=NK (call:=call) hx ρ hs
  refine⟨m2,h2,?_⟩
  rw[r2']
  rw[QU]at r1
  have:r'=r:=by
   cases r<;>cases r'<;>simp_all
  rw[this,q1]
  rfl
 cases hx:cN x.op<;>cases hy:cN y.op<;>rw[hx,hy]at h<;>first
  |exact xp hx
  |exact yp hy
  |(simp[vr]at h;done)
  |skip
 ·exact ly hy (by rw[(lx hx).1];exact fun _ _=>rfl)
 ·have:=lx hx
  obtain⟨rfl,f⟩:=this
  exact f (Vf hy h2)
 ·obtain⟨rfl,f⟩:=aeJ hx h1
  exact⟨m2,h2,f _ (aeI hy h2)⟩
 ·exact ly hy (Vf hx h1)
 ·exact aeG hx hy h1 h2
 ·exact aeK hx hy h1 h2
 ·exact NN hy (by simpa[vr]using h) (Ve hx h1) h1 h2
 ·exact Vc hx (by simpa[vr]using h) (Ve hy h2) h1 h2
 ·exact NN hy (bg _) (by
   obtain⟨r,a1,_⟩:=Jh (call:=call) hx (bg _) ρ (m:=m) (m':=m) (.inl rfl)
   rw[a1]at h1
   obtain⟨_,q2⟩:=kI h1
   exact .inl (by first|exact q2|exact q2.symm)) h1 h2
 ·exact Vc hx (by simpa[vr]using h) (U9 hy h2) h1 h2
 ·exact NN hy (by simpa[vr]using h) (U9 hx h1) h1 h2
 ·exact Vb hx (.inl hy) h1 h2
 ·exact Vb hx (.inr hy) h1 h2
theorem atJ {x:AV} {y:AV} {k:ZK} (h:Li x=some k) (h':Li y=some k):x=y:=by
 unfold Li at h h'
 split at h<;>first|(cases h;done)|skip
 all_goals(injection h with h;subst h;split at h'<;>first|(cases h';done)|(injection h' with h';injection h' with e1 e2;subst e1 e2;rfl)|(injection h' with h';injection h' with e1;subst e1;rfl)|rfl)
theorem abo:∀{a b:List AV} {p:List ZK},xF a=some p→xF b=some p→a=b
 |[],[],_,_,_=>rfl
 |[],y::r,p,h,h'=>by
  injection h with h
  subst h
  simp only[xF]at h'
  split at h'<;>cases h'
 |x::r,[],p,h,h'=>by
  injection h' with h'
  subst h'
  simp only[xF]at h
  split at h<;>cases h
 | x :: r, y :: q, p, h, h' => by
  simp only[xF]at h h'
  split at h
  ·rename_i k1 s1 e1 e2
   injection h with h
   subst h
   split at h'
   ·rename_i k2 s2 e3 e4
    injection h' with h'
    injection h' with q1 q2
    subst q1 q2
    rw[atJ e1 e3,abo e2 e4]
   ·cases h'
  ·cases h
theorem asp {a b:List AV} (h:Ro a b=true):a=b:=by
 unfold Ro at h
 split at h
 ·rename_i p q h1 h2
  rw[dY]at h
  subst h
  exact abo h1 h2
 ·cases h
theorem Qr:∀{zss bx:List (List AV)},bx∈qu zss↔bx.length=zss.length∧∀i (h1:i<bx.length) (h2:i<zss.length),bx[i]=[]∨bx[i]=zss[i]
 |[],bx=>by
  simp only[qu,eJ,iK]
  constructor
  ·rintro rfl;exact⟨rfl,fun i h=>absurd h (da _)⟩
  ·rintro⟨h,_⟩;exact sU h
 |z::r,[]=>by simp[qu]
 | z :: r, b :: bx => by
  have ih:=Qr (zss:=r) (bx:=bx)
  simp only[qu,dD,cC,vM,dO]
  constructor
  ·rintro(⟨x,hx,rfl,rfl⟩|⟨x,hx,rfl,rfl⟩)
   ·obtain⟨h1,h2⟩:=ih.1 hx
    refine⟨by omega,fun i q1 q2=>?_⟩
    cases i with
    |zero=>exact .inl rfl
    |succ i=>exact h2 i (by simpa using q1) (by simpa using q2)
   ·obtain⟨h1,h2⟩:=ih.1 hx
    refine⟨by omega,fun i q1 q2=>?_⟩
    cases i with
    |zero=>exact .inr rfl
    |succ i=>exact h2 i (by simpa using q1) (by simpa using q2)
  ·rintro⟨h1,h2⟩
   have hm:bx∈qu r:=ih.2 ⟨by omega,fun i q1 q2=>h2 (i+1) (by omega) (by omega)⟩
   rcases h2 0 (by omega) (by omega)with e|e
   ·exact .inl ⟨bx,hm,by simpa using e.symm,rfl⟩
   ·exact .inr ⟨bx,hm,by simpa using e.symm,rfl⟩
section
variable{m:ae} {r:Nat} {a b:List (List AV)}
theorem Ha (h:0<r) (hr:r≤m.bL m.cur):∃q,m.ag[m.cur]? =some q∧r≤q.boxes.length∧m.bL m.cur=q.boxes.length∧m.tail r=q.boxes.drop (q.boxes.length-r):=by
 unfold ae.bL at hr
 split at hr
 ·rename_i q hq
  exact⟨q,hq,hr,by simp[ae.bL,hq],by simp[ae.tail,hq]⟩
 ·omega
theorem NQ:(m.iZ r a).cur=m.cur:=by simp[ae.cur,ae.iZ,ae.bp]
theorem SO:(m.iZ r a).ag.length=m.ag.length:=by simp[ae.iZ,ae.bp]
theorem Wi:(m.iZ r a).ag[m.cur]? =(m.ag[m.cur]?).map fun q=>{q with boxes:=q.boxes.take (q.boxes.length-r)++a}:=by
 simp only[ae.iZ,ae.bp,dM,bB]
theorem RC (h:0<r) (hr:r≤m.bL m.cur) (ha:a.length=r):(m.iZ r a).tail r=a:=by
 obtain⟨q,hq,hl,_,_⟩:=Ha h hr
 unfold ae.tail
 rw[NQ,Wi,hq]
 simp only[dK,cj,fV,ha]
 rw[R4 (by rw[fV];omega)]
 rw[R5 (by rw[fV];omega)];rfl
theorem YW (h:0<r) (hr:r≤m.bL m.cur) (ha:a.length=r):(m.iZ r a).bL m.cur=m.bL m.cur:=by
 obtain⟨q,hq,hl,hn,_⟩:=Ha h hr
 rw[hn]
 unfold ae.bL
 rw[Wi,hq]
 simp only[dK,cj,fV,ha];omega
theorem apb {d:Nat}:(m.iZ r a).lB d=m.lB d:=by
 simp only[ae.lB,ae.iZ,ae.bp,vN]
 by_cases h:m.cur=d
 ·cases m.ag[d]? <;>simp[h]
 ·cases m.ag[d]? <;>simp[h]
theorem aaw (h:0<r) (hr:r≤m.bL m.cur) (ha:a.length=r):(m.iZ r a).iZ r b=m.iZ r b:=by
 obtain⟨q,hq,hl,_,_⟩:=Ha h hr
 have hc:(m.iZ r a).cur=m.cur:=NQ
 show(m.iZ r a).bp (m.iZ r a).cur _=_
 rw[hc]
 simp only[ae.iZ,ae.bp]
 congr 1
 apply pD
 intro i
 simp only[dM]
 by_cases hi:m.cur=i
 ·subst hi
  rw[ak rfl,ak rfl,ak rfl,hq]
  simp only[dK,cj,fV,ha]
  congr 2
  rw[So (by rw[fV];omega),List.take_take]
  congr 1
  congr 1
  omega
 ·rw[aq hi,aq hi,aq hi]
theorem aar {zs:List AV} {k:Nat} (hk:0<k) (hkr:k≤r) (hr:r≤m.bL m.cur):m.dA m.cur (m.bL m.cur-k) zs=m.iZ r ((m.tail r).set (r-k) zs):=by
 obtain⟨q,hq,hl,hn,ht⟩:=Ha (by omega) hr
 rw[hn,ht]
 simp only[ae.dA,ae.iZ,ae.bp]
 congr 1
 apply pD
 intro i
 simp only[dM]
 by_cases hi:m.cur=i
 ·subst hi
  rw[ak rfl,ak rfl,hq]
  simp only[dK]
  congr 2
  have e:q.boxes=q.boxes.take (q.boxes.length-r)++q.boxes.drop (q.boxes.length-r):=(HB _ _).symm
  conv=>lhs;rw[e]
  rw[Hz _ _ (by rw[fV];simp;omega)]
  congr 2
  rw[fV];simp;omega
 ·rw[aq hi,aq hi]
theorem Ur {k:Nat} (hk:0<k) (hkr:k≤r) (hr:r≤m.bL m.cur):m.box m.cur (m.bL m.cur-k)=(m.tail r)[r-k]? :=by
 obtain⟨q,hq,hl,hn,ht⟩:=Ha (by omega) hr
 rw[hn,ht]
 simp only[ae.box,hq,eK,List.getElem?_drop]
 congr 1;omega
end
theorem af4 {call:aZ} {ro:Bool} {m m1 m2:ae} {zss:List (List AV)} {k:Nat} {zs:List AV} {t:Target} {args:List AV} {u v:AV} (hk:0<k) (tF:k≤zss.length) (hz:zss[zss.length-k]? =some zs)
  (h1:nh call ro m zss t args=some (v,m1)) (h2:mg m1 k zs=some (u,m2)):
  ∃dJ,mg m k zs=some (u,dJ)∧nh call ro dJ zss t args=some (v,m2):=by
 have hd:=NZ h1
 unfold nh at h1
 rw[hd]at h1
 simp only at h1
 split at h1
 ·rename_i hc
  obtain⟨c0,c1,c3,c4,c5,c6,c7⟩:=hc
  have jl:0<zss.length:=by omega
  obtain⟨hT,hTi⟩:=Qr.1 c0
  have hr:zss.length≤m.bL m.cur:=by
   unfold ae.tail at hT
   split at hT
   ·rename_i q hq
    have:m.bL m.cur=q.boxes.length:=by unfold ae.bL;rw[hq]
    rw[sX]at hT
    rw[this]
    omega
   ·simp at hT;omega
  have gQ:m1.cur=m.cur:=by unfold ae.cur;rw[c3]
  have fG:zss.length≤m1.bL m1.cur:=by rw[gQ,c4];exact hr
  obtain⟨b1,b2,rfl,rfl⟩:=G7 h2
  rw[Ur hk tF fG,c5,←Ur hk tF hr]at b1
  rw[gQ]at b2
  have ss:=aar (m:=m) (zs:=zs) hk tF hr
  have XG:=aar (m:=m1) (zs:=zs) hk tF fG
  rw[c5]at XG
  rw[XG]
  have uU:((m.tail zss.length).set (zss.length-k) zs).length=zss.length:=by rw[zO];exact hT
  have iU:(m.tail zss.length).set (zss.length-k) zs∈qu zss:=by
   refine Qr.2 ⟨uU,fun i q1 q2=>?_⟩
   rw[Sf]
   split
   ·rename_i e
    subst e
    right
    have:=(bd.1 hz).2
    exact this.symm
   ·rw[zO]at q1
    exact hTi i q1 q2
  refine⟨m.iZ zss.length ((m.tail zss.length).set (zss.length-k) zs),?_,?_⟩
  ·rw[Rv b1 ⟨b2.1,c7 b2.2⟩,ss,gQ,c4]
  ·unfold nh
   rw[c1 _ iU]
   simp only
   rw[ak]
   have r7:(m.iZ zss.length ((m.tail zss.length).set (zss.length-k) zs)).cur=m.cur:=NQ
   have zh:zss.length≤m1.bL m1.cur:=fG
   refine⟨by rw[RC jl hr uU];exact iU,fun bx di=>by rw[aaw jl hr uU,aaw jl fG uU];exact c1 bx di,by rw[SO,SO];exact c3,?_,by rw[RC jl hr uU,RC jl fG uU],fun h=>by rw[c6 h],fun h=>?_⟩
   ·rw[r7,YW jl hr uU]
    have:=YW (m:=m1) jl fG uU
    rw[gQ]at this
    rw[this];exact c4
   ·rw[r7,apb]at h⊢
    exact c7 h
 ·cases h1
theorem UH {call:aZ} {f:FuncId} {as:List aF} {ws:List (Bool×Nat×Nat)} {ρ:aF→AV} {m m':ae} {v:AV} (h:aN call ρ m (.qn f as ws)=some (v,m')) {q:Bool×Nat×Nat} (hq:q∈ws):
  m'.load q.1 q.2.1 (ρ (.tmp q.2.2))=m.load q.1 q.2.1 (ρ (.tmp q.2.2)):=by
 simp only[aN,oF]at h
 split at h
 ·split at h
  ·rename_i fm
   injection h with h
   injection h with _ h
   subst h
   exact fm _ (cC.2 ⟨q,hq,rfl⟩)
  ·cases h
 ·cases h
theorem aeH {call:aZ} {x y:bz} (h:AX x.op y.op=true) {ρ:Nat→AV} {m m1 m2:ae} {u v:AV} (h1:bC call x ρ m=some (v,m1)) (h2:bC call y ρ m1=some (u,m2)):
  ∃dJ,bC call y ρ m=some (u,dJ)∧bC call x ρ dJ=some (v,m2):=by
 by_cases hx:kj ρ x.guard=true
 ·by_cases hy:kj ρ y.guard=true
  ·simp only[bC,ak hx]at h1⊢
   simp only[bC,ak hy]at h2⊢
   unfold AX at h
   split at h
   ·rename_i ro zss f as b zs' ex ey
    rw[dB,dY]at h
    obtain⟨hb,hz⟩:=h
    split at hz
    ·rename_i z hzs
     have hz:=asp hz
     subst hz
     rw[ex]at h1⊢
     rw[ey]at h2⊢
     exact af4 hb.1 hb.2 hzs h1 h2
    ·cases hz
   ·rename_i ro zs f as r g n a ex ey
    subst h
    rw[ex]at h1⊢
    rw[ey]at h2⊢
    have hm:m1=m:=by
     simp only[aN,nh]at h1
     split at h1
     ·split at h1
      ·rename_i hc
       injection h1 with h1
       injection h1 with _ h1
       rw[←h1]
       exact hc.2.2.2.2.2.1 rfl
      ·cases h1
     ·cases h1
    subst hm
    have gS:m2=m1:=by
     simp only[aN]at h2
     obtain⟨_,_,h2⟩:=aU.1 h2
     injection h2 with _ h2
     exact h2.symm
    subst gS
    exact⟨m2,h2,h1⟩
   ·rename_i r g n a ro zs f as ex ey
    subst h
    rw[ex]at h1⊢
    rw[ey]at h2⊢
    have hm:m1=m:=by
     simp only[aN]at h1
     obtain⟨_,_,h1⟩:=aU.1 h1
     injection h1 with _ h1
     exact h1.symm
    subst hm
    have gS:m2=m1:=by
     simp only[aN,nh]at h2
     split at h2
     ·split at h2
      ·rename_i hc
       injection h2 with h2
       injection h2 with _ h2
       rw[←h2]
       exact hc.2.2.2.2.2.1 rfl
      ·cases h2
     ·cases h2
    subst gS
    exact⟨m2,h2,h1⟩
   ·rename_i f as ws g n t ex ey
    rw[ex]at h1⊢
    rw[ey]at h2⊢
    obtain⟨q,hq,mK⟩:=fK.1 h
    simp only[dB,Nq]at mK
    obtain⟨⟨rfl,rfl⟩,rfl⟩:=mK
    have hl:=UH (call:=call) (f:=f) h1 hq
    simp only[aN]at h2⊢
    rw[hl]at h2
    obtain⟨u',hu,h2⟩:=aU.1 h2
    injection h2 with h2 h3
    subst h2 h3
    exact⟨m,by rw[hu];rfl,h1⟩
   ·rename_i g n t f as ws ex ey
    rw[ex]at h1⊢
    rw[ey]at h2⊢
    obtain⟨q,hq,mK⟩:=fK.1 h
    simp only[dB,Nq]at mK
    obtain⟨⟨rfl,rfl⟩,rfl⟩:=mK
    simp only[aN]at h1
    obtain⟨u',hu,h1⟩:=aU.1 h1
    injection h1 with h1 h3
    subst h1 h3
    have hl:=UH (call:=call) (f:=f) h2 hq
    refine⟨m2,h2,?_⟩
    simp only[aN]
    rw[hl,hu]
    rfl
   ·cases h
  ·simp only[bC,aq hy]at h2⊢
   injection h2 with h2
   injection h2 with h2 h3
   subst h2 h3
   exact⟨m,rfl,h1⟩
 ·simp only[bC,aq hx]at h1⊢
  injection h1 with h1
  injection h1 with h1 h3
  subst h1 h3
  exact⟨m2,h2,rfl⟩
theorem asY {call:aZ} {x y:bz} (h:vr (cN x.op) (cN y.op)=true∨AX x.op y.op=true) (hd:∀t,x.dst=some t→y.dst≠some t) (hx:∀t,x.dst=some t→t∉vy y) (hy:∀t,y.dst=some t→t∉vy x)
  {st c9 vB:St} (h1:rk call x st=some c9) (h2:rk call y c9=some vB):∃Rz,rk call y st=some Rz∧rk call x Rz=some vB:=by
 rw[K8]at h1
 obtain⟨⟨v,m1⟩,c1,h1⟩:=aU.1 h1
 subst h1
 rw[K8]at h2
 obtain⟨⟨u,m2⟩,c2,h2⟩:=aU.1 h2
 subst h2
 simp only at c2
 have ZP:∀(o o':bz) (ρ:Nat→AV) (z:AV),(∀t,o.dst=some t→t∉vy o')→pH (vy o') (ki ρ o.dst z) ρ:=fun o o' ρ z ho t ht=>by
  cases hdo:o.dst with
  |none=>rfl
  |some d=>
   simp only[ki,put]
   rw[aq (fun e=>ho d hdo (by rw[←e];exact ht))]
 rw[U8 (ZP x y st.tmps v hx)]at c2
 obtain⟨dJ,c3,c4⟩:∃dJ,bC call y st.tmps st.sig=some (u,dJ)∧bC call x st.tmps dJ=some (v,m2):=by
  rcases h with h|h
  ·exact aeL h c1 c2
  ·exact aeH h c1 c2
 refine⟨⟨ki st.tmps y.dst u,dJ⟩,by rw[K8,c3];rfl,?_⟩
 rw[K8]
 simp only
 rw[U8 (ZP y x st.tmps u hy),c4]
 simp only[dK,fl,St.mk.injEq,and_true]
 cases hdx:x.dst with
 |none=>rfl
 | some d =>
  cases hdy:y.dst with
  |none=>rfl
  | some d' =>
   have aB:d'≠d:=fun e=>hd d hdx (by rw[hdy,e])
   funext t
   simp only[ki,put]
   by_cases h1:t=d
   ·subst h1
    rw[ak rfl,aq (qi aB),ak rfl]
   ·rw[aq h1]
    split<;>rfl
noncomputable def ou (call:aZ) (as:List bz):List Nat→St→Option St
 |[],st=>some st
 |i::r,st=>match as[i]? with
  |some o=>(rk call o st).bind (ou call as r)
  |none=>none
theorem aag (call:aZ) (as:List bz):∀(l:List bz) (i:Nat),(∀j,l[j]? =as[i+j]?)→∀st,ou call as (List.range' i l.length) st=ops call l st
 |[],i,_,st=>rfl
 |o::r,i,h,st=>by
  have h0:as[i]? =some o:=by simpa using(h 0).symm
  simp only[dO,Co,ou,h0,QB]
  congr 1
  funext c9
  exact aag call as r (i+1) (fun j=>by have:=h (j+1);simpa[vP,LD 1 j]using this) c9
theorem arX (call:aZ) (as:List bz) (st:St):ou call as (List.range as.length) st=ops call as st:=by
 rw[zR]
 exact aag call as as 0 (by simp) st
def unordered (pre:List Nat) (i j:Nat):Prop:=before pre i j=false∧before pre j i=false
theorem aeX {pre:List Nat} {l:List bz} (h:tm pre l=true) {i j:Nat} {x y:bz} (hx:l[i]? =some x) (hy:l[j]? =some y) (aC:i<j) (hu:unordered pre i j):
  (vr (cN x.op) (cN y.op)=true∨AX x.op y.op=true)∧(∀t,x.dst=some t→y.dst≠some t)∧(∀t,y.dst=some t→t∉vy x)∧(∀t,x.dst=some t→t∉vy y):=by
 have aB:i≠j:=by omega
 unfold tm at h
 rw[dB]at h
 have h1:=h.1
 unfold Zy at h1
 have mem:∀{i:Nat} {x:bz},l[i]? =some x→(x,i)∈l.zipIdx:=fun e=>by
  rw[List.mem_zipIdx_iff_getElem?]
  exact e
 have h2:=jw.1 h1 _ (mem hx)
 have h3:=jw.1 h2 _ (mem hy)
 have h4:=jw.1 (jw.1 h1 _ (mem hy)) _ (mem hx)
 have Pb:(i==j)=false:=by simpa using aB
 have ajm:(j==i)=false:=by simpa using qi aB
 have Xg:decide (j<i)=false:=by simp;omega
 obtain⟨XL,XM⟩:=hu
 simp only[Pb,mV,dB,XL,XM,Cg]at h3
 simp only[ajm,mV,dB,XL,XM,Cg]at h4
 obtain⟨⟨a1,a2⟩,a3⟩:=h3
 obtain⟨⟨_,a4⟩,_⟩:=h4
 refine⟨?_,fun t ht e=>?_,fun t ht hm=>?_,fun t ht hm=>?_⟩
 ·cases mG:cN x.op<;>cases Bi:cN y.op<;>rw[mG,Bi]at a3<;>first|exact .inl rfl|(simp[Xg]at a3;done)|(simp[Xg,aC]at a3;exact .inr a3)|(refine .inl ?_;simpa[vr]using a3)
 ·rw[ht,e]at a1
  simp at a1
 ·rw[ht]at a2
  simp at a2
  exact a2 hm
 ·rw[ht]at a4
  simp at a4
  exact a4 hm
theorem unordered.symm {pre:List Nat} {i j:Nat} (h:unordered pre i j):unordered pre j i:=⟨h.2,h.1⟩
theorem aa0 {call:aZ} {pre:List Nat} {as:List bz} (h:tm pre as=true) {i:Nat} {q:List Nat} {f:St}:∀(p:List Nat) (st:St),(∀j,j∈p→j<i∧unordered pre i j)→ou call as (p++i::q) st=some f→
  ou call as (i::(p++q)) st=some f
 |[],st,_,hr=>hr
 | j :: p, st, hp, hr => by
  simp only[kq,ou]at hr
  split at hr
  ·rename_i y hy
   obtain⟨c9,s1,hr⟩:=cX.1 hr
   have nB:=aa0 h p c9 (fun j' dH=>hp j' (by simp[dH])) hr
   simp only[ou]at nB
   split at nB
   ·rename_i x hx
    obtain⟨vB,s2,nB⟩:=cX.1 nB
    obtain⟨aC,hu⟩:=hp j (by simp)
    obtain⟨d1,d2,d3,d6⟩:=aeX h hy hx aC hu.symm
    obtain⟨Rz,t1,t2⟩:=asY d1 d2 d6 d3 s1 s2
    simp only[ou,kq,hx,hy,t1,eK,t2]
    exact nB
   ·cases nB
  ·cases hr
def rE (o:Oper):List Edge:=o.after.toList.filter (Region.binds .any)
theorem Wd {acc:List Nat} {i:Nat}:∀(es:List Edge) (m:Nat),(es.foldl (fun m e=>m|||1<<<e.on|||acc.getD e.on 0) m).testBit i=true→m.testBit i=true∨∃e,e∈es∧(e.on=i∨(acc.getD e.on 0).testBit i=true)
 |[],m,h=>.inl h
 | e :: r, m, h => by
  simp only[xO]at h
  rcases Wd r _ h with h|⟨e',h1,h2⟩
  ·rw [Cs, Cs, ug, ug] at h
   rcases h with(h|h)|h
   ·exact .inl h
   ·rw[Nat.testBit_shiftLeft]at h
    simp only[dB,dY]at h
    have:=h.2
    have h0:i-e.on=0:=by
     cases hq:i-e.on with
     |zero=>rfl
     |succ n=>
      rw[hq,Nat.testBit_succ]at this
      simp at this
    exact .inr ⟨e,by simp,.inl (by omega)⟩
   ·exact .inr ⟨e,by simp,.inr h⟩
  ·exact .inr ⟨e',by simp[h1],h2⟩
theorem ZO:∀(l:List Oper) (acc pre:List Nat),zE acc l=some pre→(∀j,j<acc.length→pre.getD j 0=acc.getD j 0)∧pre.length=acc.length+l.length∧
  ∀j o,l[j]? =some o→(∀e,e∈rE o→e.on<acc.length+j)∧∀i,(pre.getD (acc.length+j) 0).testBit i=true→∃e,e∈rE o∧(e.on=i∨(pre.getD e.on 0).testBit i=true)
 |[],acc,pre,h=>by
  simp only[zE]at h
  injection h with h
  subst h
  exact⟨fun _ _=>rfl,rfl,fun j o hj=>by simp at hj⟩
 | o :: r, acc, pre, h => by
  simp only[zE]at h
  split at h
  ·rename_i fm
   obtain⟨h1,h2,h3⟩:=ZO r _ pre h
   simp only[cj,dO,iK]at h1 h2 h3
   have OA:∀e,e∈rE o→e.on<acc.length:=fun e he=>by simpa using jw.1 fm e he
   refine⟨fun j hj=>?_,by simp only[dO];omega,fun j o' hj=>?_⟩
   ·rw[h1 j (by omega)]
    simp[Lw,dC hj]
   ·cases j with
    | zero =>
     simp only[Hr,fl]at hj
     subst hj
     refine⟨fun e he=>by have:=OA e he;omega,fun i hi=>?_⟩
     rw[vQ,h1 acc.length (by omega)]at hi
     have hv:(acc++[(rE o).foldl (fun m e=>m|||1<<<e.on|||acc.getD e.on 0) 0]).getD acc.length 0=(rE o).foldl (fun m e=>m|||1<<<e.on|||acc.getD e.on 0) 0:=by
      simp[Lw]
     have bD:((rE o).foldl (fun m e=>m|||1<<<e.on|||acc.getD e.on 0) 0).testBit i=true:=by
      rw[←hv]
      exact hi
     rcases Wd _ _ bD with h0|⟨e,e1,e2⟩
     ·simp at h0
     ·refine⟨e,e1,e2.imp id fun e3=>?_⟩
      rw[h1 e.on (by have:=OA e e1;omega)]
      have:(acc++[(rE o).foldl (fun m e=>m|||1<<<e.on|||acc.getD e.on 0) 0]).getD e.on 0=acc.getD e.on 0:=by
       simp[Lw,dC (OA e e1)]
      exact(hU (fun q=>Nat.testBit q i) this).trans e3
    |succ j=>
     simp only[Lx]at hj
     obtain⟨g1,g2⟩:=h3 j o' hj
     refine⟨fun e he=>by have:=g1 e he;omega,fun i hi=>g2 i ?_⟩
     have:acc.length+1+j=acc.length+(j+1):=by omega
     rw[this]
     exact hi
  ·cases h
structure HK (l:List Oper) (pre:List Nat):Prop where
 len:pre.length=l.length
 edge:∀j o,l[j]? =some o→∀e,e∈rE o→e.on<j
 why:∀j o,l[j]? =some o→∀i,before pre i j=true→∃e,e∈rE o∧(e.on=i∨before pre i e.on=true)
theorem aqW {l:List Oper} {pre:List Nat} (h:zE [] l=some pre):HK l pre:=by
 obtain⟨_,h2,h3⟩:=ZO l [] pre h
 simp only[iK,fB]at h2 h3
 exact⟨h2,fun j o hj=>(h3 j o hj).1,fun j o hj i hi=>(h3 j o hj).2 i hi⟩
theorem HK.lt {l:List Oper} {pre:List Nat} (h:HK l pre):∀(j i:Nat),before pre i j=true→i<j:=by
 intro j
 induction j using Nat.strongRecOn with
 | _ j ih =>
  intro i hi
  by_cases hj:j<l.length
  ·obtain⟨e,e1,e2⟩:=h.why j _ (cM hj) i hi
   have:=h.edge j _ (cM hj) e e1
   rcases e2 with e2|e2
   ·omega
   ·have:=ih e.on this i e2
    omega
  ·have:pre.getD j 0=0:=by
    rw[Lw,nL (by rw[h.len];omega)]
    rfl
   simp only[before,this,Nat.zero_testBit]at hi
   cases hi
def l9 (n:Nat) (listed:Array Bool):List Nat:=(List.range n).filter fun j=>!listed.getD j true
theorem Qs {n j:Nat} {listed:Array Bool}:j∈l9 n listed↔j<n∧listed.getD j true=false:=by
 simp[l9,eS]
theorem arH {n i:Nat} {listed:Array Bool} (hi:i∈l9 n listed):∃p q,l9 n listed=p++i::q∧l9 n (listed.setIfInBounds i true)=p++q∧∀j,j∈p→j<i∧listed.getD j true=false:=by
 obtain⟨h1,h2⟩:=Qs.1 hi
 refine⟨(List.range i).filter fun j=>!listed.getD j true,(List.range' (i+1) (n-(i+1))).filter fun j=>!listed.getD j true,?_,?_,fun j hj=>?_⟩
 ·have hr:List.range n=List.range i++i::List.range' (i+1) (n-(i+1)):=by
   rw[zR,zR,show n=i+(n-(i+1)+1)by omega,←List.range'_append_1]
   simp[Co]
   omega
  rw[l9,hr,oA,Lq]
  simp[h2]
 ·have hr:List.range n=List.range i++i::List.range' (i+1) (n-(i+1)):=by
   rw[zR,zR,show n=i+(n-(i+1)+1)by omega,←List.range'_append_1]
   simp[Co]
   omega
  have hs:(listed.setIfInBounds i true).getD i true=true:=by
   by_cases aC:i<listed.size
   ·simp[Array.getD,aC]
   ·simp[Array.getD,aC]
  rw[l9,hr,oA,Lq]
  simp only[hs,kL,ef,cE]
  congr 1
  ·refine Hn fun j hj=>?_
   rw[getD_set_ne true (by have:=nP.1 hj;omega)]
  ·refine Hn fun j hj=>?_
   rw[getD_set_ne true (by have:=List.mem_range'_1.1 hj;omega)]
 ·rw[eS,nP]at hj
  exact⟨hj.1,by simpa using hj.2⟩
theorem NJ {all:List Oper} {md:Nat→Md}:∀(l:List Oper) (i:Nat) (al:List bz),nS P all md i l=some al→al.length=l.length∧∀j o,l[j]? =some o→∃ao,al[j]? =some ao∧ao.dst=o.dst∧AF all o.guard=some ao.guard∧gH P (md (i+j)) o.op=some ao.op
 |[],i,al,h=>by
  simp only[nS]at h
  injection h with h
  subst h
  exact⟨rfl,fun j o hj=>by simp at hj⟩
 | o :: r, i, al, h => by
  simp only[nS]at h
  split at h
  ·rename_i g op rest e1 e2 e3
   injection h with h
   subst h
   obtain⟨h1,h2⟩:=NJ r (i+1) rest e3
   refine⟨by simp[h1],fun j o' hj=>?_⟩
   cases j with
   |zero=>
    simp only[Hr,fl]at hj
    subst hj
    exact⟨_,rfl,rfl,e1,e2⟩
   |succ j=>
    obtain⟨ao,a1,a2,a3,a4⟩:=h2 j o' (by simpa using hj)
    exact⟨ao,by simpa using a1,a2,a3,by rw[←a4];congr 2;omega⟩
  ·cases h
theorem aeY {call:aZ} (dj:kM P B0 w0 call) (eY:nK P B0 w0 call) (bh:gX call) {rd:Option Nat} {n:Nat} {all:Array Oper} {md:Nat→Md} {as:List bz} {pre:List Nat} (hc:nS P all.toList md 0 all.toList=some as)
  (sk:HK all.toList pre) (bE:tm pre as=true) {f:St} {Q:Exit→Act→World→Prop}:∀(fuel:Nat) (listed:Array Bool) (G:aG) (st:St) (a:Act) (w:World),
  listed.size=all.size→(l9 all.size listed).length≤fuel→(∀i j,listed.getD j false=true→before pre i j=true→listed.getD i false=true)→ou call as (l9 all.size listed) st=some f→
  At P B0 w0 G k nl st.sig w→st.sig.loops.length=nl→eu G k nl st.tmps a→(∀o,o∈as→∀t,o.dst=some t→t<a.tmps.size)→(∀a' w',rB P B0 w0 G k nl st.sig a f a' w'→Q .normal a' w')→
  wpAnyIn (iz rd) n P .any all Q fuel listed a w:=by
 have ajs : ∀ (listed : Array Bool), listed.size = all.size → Region.ready .any all listed = [] → l9 all.size listed = [] := fun listed bR hr => by
  have key:∀j,j<all.size→listed.getD j true=true:=fun j=>by
   induction j using Nat.strongRecOn with
   | _ j ih =>
    intro hj
    cases hl:listed.getD j true with
    |true=>rfl
    | false =>
     exfalso
     have:j∈Region.ready .any all listed:=by
      rw[mem_ready]
      refine⟨hl,all[j],abz hj,fun e he hb=>?_⟩
      have aC:=sk.edge j all[j] (by simp[hj]) e (by simp[rE,eS];exact⟨he,hb⟩)
      have:=ih e.on aC (by omega)
      have ajd:e.on<listed.size:=by omega
      simpa[Array.getD,ajd]using this
     rw[hr]at this
     cases this
  rw[l9,R9]
  intro j hj
  rw[key j (nP.1 hj)]
  simp
 have done:∀(listed:Array Bool) (G:aG) (st:St) (a:Act) (w:World),listed.size=all.size→Region.ready .any all listed=[]→ou call as (l9 all.size listed) st=some f→At P B0 w0 G k nl st.sig w→eu G k nl st.tmps a→
   (∀a' w',rB P B0 w0 G k nl st.sig a f a' w'→Q .normal a' w')→Q .normal a w:=fun listed G st a w bR hr cY h hR hQ=>by
  rw[ajs listed bR hr]at cY
  simp only[ou]at cY
  injection cY with cY
  subst cY
  exact hQ a w ⟨G,h,.refl _ _ _,rfl,hR,rfl,rfl⟩
 intro fuel
 induction fuel with
 | zero =>
  intro listed G st a w bR hlen aT cY h aR hR hd hQ
  have jl:Region.ready .any all listed=[]:=by
   cases hr:Region.ready .any all listed with
   |nil=>rfl
   |cons i r=>
    exfalso
    have hi:i∈Region.ready .any all listed:=by rw[hr];simp
    obtain⟨h1,o,h2,_⟩:=mem_ready.1 hi
    have:i∈l9 all.size listed:=Qs.2 ⟨(uf.1 h2).1,h1⟩
    have h0:l9 all.size listed=[]:=sU (by omega)
    rw[h0]at this
    cases this
  exact⟨jl,done listed G st a w bR jl cY h hR hQ⟩
 | succ fuel ih =>
  intro listed G st a w bR hlen aT cY h aR hR hd hQ
  refine⟨fun hr=>done listed G st a w bR hr cY h hR hQ,fun i hi=>?_⟩
  obtain⟨h1,o,h2,ah5⟩:=mem_ready.1 hi
  have aC:i<all.size:=(uf.1 h2).1
  have iU:i∈l9 all.size listed:=Qs.2 ⟨aC,h1⟩
  obtain⟨p,q,e1,e2,e3⟩:=arH iU
  have ho:all.toList[i]? =some o:=by simpa using h2
  have WQ:∀j,before pre j i=true→listed.getD j false=true:=fun j hj=>by
   obtain⟨e,c1,c2⟩:=sk.why i o ho j hj
   have he:e∈o.after∧Region.binds .any e=true:=by
    simp only[rE,eS]at c1
    exact⟨by simpa using c1.1,c1.2⟩
   have hl:=ah5 e he.1 he.2
   rcases c2 with c2|c2
   ·rw[←c2];exact hl
   ·exact aT j e.on hl c2
  have W8:ou call as (i::(p++q)) st=some f:=by
   refine aa0 bE p st (fun j hj=>?_) (by rw[←e1];exact cY)
   obtain⟨j1,j2⟩:=e3 j hj
   refine⟨by omega,?_,?_⟩
   ·cases hb:before pre i j with
    |false=>rfl
    |true=>have:=sk.lt j i hb;omega
   ·cases hb:before pre j i with
    |false=>rfl
    |true=>
     exfalso
     have:=WQ j hb
     have hjs:j<listed.size:=by omega
     simp[Array.getD,hjs]at this j2
     rw[this]at j2
     cases j2
  obtain⟨g1,g2⟩:=NJ _ 0 as hc
  obtain⟨ao,a1,a2,a3,a4⟩:=g2 i o ho
  simp only[ou,a1]at W8
  obtain⟨c9,s1,s2⟩:=cX.1 W8
  unfold wpOpIn
  simp only[h2]
  have fm:all=all.toList.toArray:=by simp
  have fR:=Zd dj eY bh (rd:=rd) (n:=n) (all:=all.toList) (Q:=Q) h aR hR a3 a4 a2 (fun t ht=>hd ao (bQ a1) t ht) s1 (K:=wpAnyIn (iz rd) n P .any all Q fuel (listed.setIfInBounds i true)) (fun s9 w1 hp=>by
   obtain⟨G1,k1,k2,k3,k4,k5,k6⟩:=hp
   refine ih (listed.setIfInBounds i true) G1 c9 s9 w1 (by simp[bR]) ?_ ?_ (by rw[e2];exact s2) k1 (k3.trans aR) k4 (fun o' oY t ht=>by rw[k5];exact hd o' oY t ht) (fun a' w' u6=>hQ a' w' ?_)
   ·rw[e2]
    rw[e1]at hlen
    simp at hlen⊢
    omega
   ·intro x y hy eE
    by_cases X2:y=i
    ·subst X2
     exact getD_set_true (WQ x eE)
    ·rw[getD_set_ne false (qi X2)]at hy
     exact getD_set_true (aT x y hy eE)
   ·obtain⟨G2,q1,q2,q3,q4,q5,q6⟩:=u6
    rw[k3]at q2 q3
    exact⟨G2,q1,k2.trans q2,q3,q4,q5.trans k5,q6.trans k6⟩)
  simpa using fR
theorem GS {call:aZ} (dj:kM P B0 w0 call) (eY:nK P B0 w0 call) (bh:gX call) (hm:P.follows .mixedOrders=true) {rd:Option Nat} {n id:Nat} {all:Array Oper} {md:Nat→Md} {as:List bz} {pre:List Nat} {st aQ:St} {a:Act}
  (sk:zE [] all.toList=some pre) (lR:nS P all.toList md 0 all.toList=some as) (bE:tm pre as=true) (h:At P B0 w0 G k nl st.sig w) (aR:st.sig.loops.length=nl) (hR:eu G k nl st.tmps a) (hd:∀o,o∈as→∀t,o.dst=some t→t<a.tmps.size) (hs:ops call as st=some aQ)
  {Q:Exit→Act→World→Prop} (hQ:∀a' w',rB P B0 w0 G k nl st.sig a aQ a' w'→Q .normal a' w'):(Code.region id all true).wpIn (iz rd) n P Q a w:=by
 have hlen:=(NJ _ 0 _ lR).1
 refine wpIn_region_any hm ?_
 have iS:At P B0 w0 G k nl st.sig w.drew:=⟨h.rel.drew,h.len,h.cur⟩
 have XD:l9 all.size (Array.replicate all.size false)=List.range as.length:=by
  rw[hlen]
  simp only[RV,l9]
  rw[Lr]
  intro j hj
  have:=nP.1 hj
  simp[Array.getD,this]
 have cY:ou call as (l9 all.size (Array.replicate all.size false)) st=some aQ:=by
  rw[XD,arX]
  exact hs
 refine aeY dj eY bh lR (aqW sk) bE all.size _ G st a _ (by simp) ?_ ?_ cY iS aR hR hd hQ
 ·rw[XD,hlen];simp
 ·intro i j hj
  by_cases aC:j<all.size
  ·simp[Array.getD,aC]at hj
  ·simp[Array.getD,aC]at hj
theorem YK {mu:Mu} {pre:List Nat} {l:List Oper} {n0:Nat} {as:List bz} (h:Je P mu pre l=some (n0,as)):∃md,nS P l md 0 l=some as∧tm pre as=true:=by
 unfold Je at h
 split at h
 ·rename_i zZ lR
  split at h
  ·rename_i bE
   injection h with h
   injection h with _ h
   subst h
   exact⟨_,lR,bE⟩
  ·cases h
 ·cases h
theorem arF {call : aZ} (dj : kM P B0 w0 call) (eY : nK P B0 w0 call) (bh : gX call) (hm : P.follows .mixedOrders = true) {rd : Option Nat} {n id : Nat} {all : Array Oper} {drawn : Bool} {as : List bz} {n0 : Nat} {st aQ : St} {a : Act}
  {mu:Mu} (hc:Jf P mu all.toList drawn=some (n0,as)) (h:At P B0 w0 G k nl st.sig w) (aR:st.sig.loops.length=nl) (hR:eu G k nl st.tmps a) (hd:∀o,o∈as→∀t,o.dst=some t→t<a.tmps.size) (hs:ops call as st=some aQ)
  {Q:Exit→Act→World→Prop} (hQ:∀a' w',rB P B0 w0 G k nl st.sig a aQ a' w'→Q .normal a' w'):(Code.region id all drawn).wpIn (iz rd) n P Q a w:=by
 cases drawn with
 |false=>
  simp only[Jf,ef,cE]at hc
  obtain⟨zZ,oS,he⟩:=aU.1 hc
  injection he with _ he
  subst he
  refine wpIn_region_list ?_
  have:=Zj dj eY bh (rd:=rd) (n:=n) (Q:=Q) all.toList 0 zZ G st aQ a w oS h aR hR hd hs hQ
  simpa using this
 | true =>
  simp only[Jf,bB]at hc
  split at hc
  ·cases hc
  rename_i pre sk
  split at hc
  ·rename_i zZ lR
   split at hc
   ·rename_i bE
    injection hc with hc
    injection hc with _ hc
    subst hc
    exact GS dj eY bh hm sk lR bE h aR hR hd hs hQ
   ·split at hc
    ·rename_i L5 aiq
     split at hc
     ·rename_i bE
      injection hc with hc
      injection hc with _ hc
      subst hc
      exact GS dj eY bh hm sk aiq bE h aR hR hd hs hQ
     ·split at hc
      ·split at hc
       ·rename_i as3 air
        split at hc
        ·rename_i bE
         injection hc with hc
         injection hc with _ hc
         subst hc
         exact GS dj eY bh hm sk air bE h aR hR hd hs hQ
        ·obtain⟨_,OL,Pg⟩:=YK hc
         exact GS dj eY bh hm sk OL Pg h aR hR hd hs hQ
       ·cases hc
      ·obtain⟨_,OL,Pg⟩:=YK hc
       exact GS dj eY bh hm sk OL Pg h aR hR hd hs hQ
    ·cases hc
  ·cases hc
end
end Go.Ax
/-
  Loops over functions: their records.
-/
namespace Go.Ax
open Go.RowKit
section
variable{P:Program} {B0:Nat} {w0:World} {G:aG} {k nl:Nat} {w:World} {s:ae}
theorem SP (h:cu P B0 w0 G s w) (o:Obj) {b i:Nat} {v:Value} (e:G.I b i=some v):(w.alloc o).cell? ⟨b,i,none⟩=some v:=by
 have aC:=h.sS e
 rw[World.cell?_alloc_lt _ _ _ (by exact aC)]
 exact h.fc b i v e
theorem aoL (h:At P B0 w0 G k nl s w):∃G',At P B0 w0 G' k nl s (w.alloc (.deferred (some [])))∧bA k s.loops.length G G'∧G'.loops=G.loops∧
  ∃gr,G.ag[k]? =some gr∧G'.ag[k]? =some {gr with marks:=gr.marks++[w.heap.size]}:=by
 obtain⟨r,gr,hr,hg⟩:=h.cI (aH k)
 have aI:=h.rel.cI k r gr hr hg
 have hlen:G.ag.length=k+1:=by rw[h.rel.len,h.len]
 let G':aG:={G with ag:=G.ag.modify k fun q=>{q with marks:=q.marks++[w.heap.size]},own:=fun b=>if b=w.heap.size then some (.mark k gr.marks.length)else G.own b}
 have gw:G'.ag[k]? =some {gr with marks:=gr.marks++[w.heap.size]}:=by
  show(G.ag.modify k _)[k]? =_
  rw[dM,ak rfl,hg];rfl
 have hold:∀d,d≠k→G'.ag[d]? =G.ag[d]? :=fun d hd=>by
  show(G.ag.modify k _)[d]? =_
  rw[dM,aq (qi hd)]
 have hle:∀k' gB,k'≤k→bA k' gB G G':=fun k' gB u5=>⟨fun _ _ _ e=>e,fun d q hd e=>by
  by_cases eQ:d=k
  ·subst eQ
   rw[hg]at e
   injection e with e
   subst e
   exact⟨_,gw,⟨fun _ _ e=>e,fun _ T e=>⟨T,e,.refl T⟩,rfl,fun _ _ e=>e⟩,fun aC=>by omega⟩
  ·exact⟨q,by rw[hold d eQ];exact e,.refl q,fun _=>rfl⟩,fun _ _ _ e=>e⟩
 have n9:jv (fun _=>False) G w G' (w.alloc (.deferred (some []))):=fun b o e _=>by
  have aC:=h.rel.eM b o e
  exact⟨by simp only[G'];rw[aq (by omega)];exact e,Below.heap_alloc _ _ _ aC,fun _ e=>e⟩
 have hs:cu P B0 w0 G' s (w.alloc (.deferred (some []))):=by
  refine⟨fun b i v e=>SP h.rel _ e,by simp[G',h.rel.len],h.rel.jG,fun d q gq h1 h2=>?_,fun l lp q h1 h2=>?_,fun d q h1=>?_,fun d d' q q' hd h1 h2=>?_,h.rel.below.alloc h.rel.low _,by have:=h.rel.low;simp;omega,fun b o e=>?_⟩
  ·have eQ:d≤k:=by have:=(bd.1 h1).1;rw[h.len]at this;omega
   by_cases hd:d=k
   ·subst hd
    rw[gw]at h2
    injection h2 with h2
    subst h2
    rw[hr]at h1
    injection h1 with h1
    subst h1
    have nA:=aI.cJ (hle d gr.nl (aH _)) n9 (fun o ho=>ho.elim)
    refine⟨nA.dX,nA.iI,nA.box,nA.full,nA.tok,fun i b e=>?_,nA.mz⟩
    rcases ek e with⟨_,e⟩|⟨hi,rfl⟩
    ·exact nA.mark i b e
    ·subst hi
     exact⟨h.rel.low,by simp[G'],World.alloc_heap_new w _⟩
   ·rw[hold d hd]at h2
    exact(h.rel.cI d q gq h1 h2).cJ (hle d _ eQ) n9 (fun o ho=>ho.elim)
  ·have hq:=h.rel.loop l lp q h1 h2
   obtain⟨k1,k2,_⟩:=n9 _ _ hq.2.1 (fun x=>x)
   exact hq.cJ (fun k' gB a1 _=>hle k' gB (by omega)) (by simp[G']) k1 k2
  ·by_cases hd:d=k
   ·subst hd
    rw[gw]at h1
    injection h1 with h1
    subst h1
    exact h.rel.pr d gr hg
   ·rw[hold d hd]at h1
    exact h.rel.pr d q h1
  ·have get:∀(d:Nat) (q:cH),G'.ag[d]? =some q→∃q0,G.ag[d]? =some q0∧q.nl=q0.nl:=fun d q e=>by
    by_cases hd:d=k
    ·subst hd
     rw[gw]at e
     injection e with e
     subst e
     exact⟨gr,hg,rfl⟩
    ·rw[hold d hd]at e
     exact⟨q,e,rfl⟩
   obtain⟨q0,a1,a2⟩:=get d q h1
   obtain⟨q0',s9,Cy⟩:=get d' q' h2
   rw[a2,Cy]
   exact h.rel.qZ d d' q0 q0' hd a1 s9
  ·simp only[G']at e
   split at e
   ·rename_i hb;subst hb;simp
   ·have:=h.rel.eM b o e;simp;omega
 exact⟨G',h.to hs (hle k nl (aH _)) rfl,hle k _ (aH _),rfl,gr,hg,gw⟩
theorem ae9 (h:At P B0 w0 G k nl s w) (aR:s.loops.length=nl) {lp:dx} {rc:Loop} (h1:rc.state=.ready∧lp.ready=true∧lp.eF=none∧rc.pending=none) (hp:rc.params.toList=lp.params) {mu:Mu} (ha:comp P mu rc.assign=some lp.assign)
  (hb:comp P mu rc.body=some lp.body) (ta:jV rc.tmps.size lp.assign=true) (tb:jV rc.tmps.size lp.body=true) (tp:∀p,p∈lp.params→p<rc.tmps.size) (hR:∀t,Rel G k nl (lp.tmps t) (rc.tmps.getD t Go.undef)):
  ∃G',At P B0 w0 G' k nl (enterLoop s lp) (w.alloc (.loop rc))∧bA (k+1) nl G G'∧G'.ag=G.ag∧G'.loops=G.loops++[w.heap.size]:=by
 let G':aG:={G with loops:=G.loops++[w.heap.size],own:=fun b=>if b=w.heap.size then some (.loop nl)else G.own b}
 have nx:G.loops.length=nl:=by rw[h.rel.jG,aR]
 have hle:∀k' gB,bA k' gB G G':=fun k' gB=>⟨fun _ _ _ e=>e,fun d q hd e=>⟨q,e,.refl q,fun _=>rfl⟩,fun l r _ e=>my e⟩
 have n9:jv (fun _=>False) G w G' (w.alloc (.loop rc)):=fun b o e _=>by
  have aC:=h.rel.eM b o e
  exact⟨by simp only[G'];rw[aq (by omega)];exact e,Below.heap_alloc _ _ _ aC,fun _ e=>e⟩
 have hlen:G.ag.length=k+1:=by rw[h.rel.len,h.len]
 have hs:cu P B0 w0 G' (enterLoop s lp) (w.alloc (.loop rc)):=by
  refine⟨fun b i v e=>SP h.rel _ e,h.rel.len,by simp[G',enterLoop,h.rel.jG],fun d q gq a1 a2=>?_,fun l q r a1 a2=>?_,fun d q a1=>?_,h.rel.qZ,h.rel.below.alloc h.rel.low _,by have:=h.rel.low;simp;omega,fun b o e=>?_⟩
  ·exact(h.rel.cI d q gq a1 a2).cJ (hle d _) n9 (fun o ho=>ho.elim)
  ·rcases ek a1 with⟨hl,a1⟩|⟨hl,rfl⟩
   ·rcases ek a2 with⟨_,a2⟩|⟨oX,_⟩
    ·have hq:=h.rel.loop l q r a1 a2
     obtain⟨k1,k2,_⟩:=n9 _ _ hq.2.1 (fun x=>x)
     exact hq.cJ (fun k' gB _ _=>hle k' gB) (aH _) k1 k2
    ·omega
   ·have hr:r=w.heap.size:=by
     rcases ek a2 with⟨oX,_⟩|⟨_,e⟩
     ·omega
     ·exact e
    subst hr
    have ai9:l=nl:=by omega
    subst ai9
    refine⟨h.rel.low,by simp[G'],rc,World.alloc_heap_new w _,fun _=>⟨h1.1,h1.2.2.1⟩,fun e=>?_,?_,?_,hp,⟨mu,ha,hb⟩,ta,tb,tp,k,l,?_,aH _,fun d gq e aC=>?_,fun t=>(hR t).mono (hle _ _) (aH _) (aH _)⟩
    ·rw[h1.2.1]at e;cases e
    ·rw[h1.2.2.2,h1.2.2.1];rfl
    ·rw[h1.2.2.1];simp
    ·show k+1≤G.ag.length
     omega
    ·have e':G.ag[d]? =some gq:=e
     have:=h.rel.pr d gq e'
     omega
  ·have:=h.rel.pr d q a1
   simp[enterLoop];omega
  ·simp only[G']at e
   split at e
   ·rename_i hb;subst hb;simp
   ·have:=h.rel.eM b o e;simp;omega
 obtain⟨gr,g1,g2⟩:=h.cur
 exact⟨G',⟨hs,h.len,gr,g1,g2⟩,hle _ _,rfl,rfl⟩
theorem asw (h:cu P B0 w0 G s w) {l r:Nat} {lp mO:dx} {rc mR:Loop} (hl:s.loops[l]? =some lp) (hr:G.loops[l]? =some r) (kD:w.heap[r]? =some (.loop rc)) {f:dx→dx} (hf:f lp=mO) (ho:pG P G l mO mR):
  cu P B0 w0 G (et s l f) (w.putObj r (.loop mR)):=by
 obtain⟨b1,b2,_⟩:=h.loop l lp r hl hr
 have n9:jv (· =.loop l) G w G (w.putObj r (.loop mR)):=fun b o e ho=>⟨e,World.putObj_heap_other (fun hb=>ho (by subst hb;rw[b2]at e;injection e with e;exact e.symm)),fun _ e=>e⟩
 have er:r<w.heap.size:=(uf.1 kD).1
 refine⟨fun b i v e=>?_,h.len,by simp[et,h.jG],fun d q gq a1 a2=>?_,fun l' q r' a1 a2=>?_,fun d q a1=>?_,h.qZ,?_,by rw[World.putObj_size];exact h.low,fun b o e=>by rw[World.putObj_size];exact h.eM b o e⟩
 ·have:=h.fc b i v e
  by_cases hb:b=r
  ·subst hb
   simp only[World.cell?,kD]at this
   cases this
  ·have hh:(w.putObj r (.loop mR)).heap[b]? =w.heap[b]? :=World.putObj_heap_other hb
   rw[←this]
   simp only[World.cell?,hh]
 ·exact(h.cI d q gq a1 a2).cJ (bA.refl _ _ _) n9 (fun o ho=>by subst ho;exact⟨fun _ e=>(by cases e),fun _ e=>(by cases e),fun _ e=>(by cases e)⟩)
 ·simp only[et,dM]at a1
  by_cases aR:l=l'
  ·subst aR
   rw[ak rfl,hl]at a1
   simp only[dK,fl]at a1
   rw[hr]at a2
   injection a2 with a2
   subst a2
   rw[hf]at a1
   subst a1
   exact⟨b1,b2,mR,World.putObj_heap_same er,ho⟩
  ·rw[aq aR]at a1
   have hq:=h.loop l' q r' a1 a2
   obtain⟨k1,k2,_⟩:=n9 _ _ hq.2.1 (fun e=>aR (by injection e with e;exact e.symm))
   exact hq.cJ (fun _ _ _ _=>bA.refl _ _ _) (aH _) k1 k2
 ·have:=h.pr d q a1
  simp[et];omega
 ·exact h.below.trans ⟨rfl,rfl,rfl,by simp,fun c hc=>World.putObj_heap_other (by omega)⟩
theorem aoh (h:At P B0 w0 G k nl s w) (aR:s.loops.length=nl+1) {r:Nat} {lp:dx} {rc:Loop} {o':Obj} (hl:s.loops[nl]? =some lp) (hr:G.loops[nl]? =some r) (kD:w.heap[r]? =some (.loop rc)):
  ∃G',At P B0 w0 G' k nl {s with loops:=s.loops.take nl} (w.putObj r o')∧bA (k+1) nl G G'∧G'.ag=G.ag:=by
 obtain⟨b1,b2,_⟩:=h.rel.loop nl lp r hl hr
 let G':aG:={G with loops:=G.loops.take nl,own:=fun b=>if b=r then none else G.own b}
 have hle:∀k' gB,gB≤nl→bA k' gB G G':=fun k' gB hn=>⟨fun _ _ _ e=>e,fun d q hd e=>⟨q,e,.refl q,fun _=>rfl⟩,fun l r aC e=>by
  show(G.loops.take nl)[l]? =_
  rw[xP,ak (by omega)]
  exact e⟩
 have n9:jv (· =.loop nl) G w G' (w.putObj r o'):=fun b o e ho=>by
  have hb:b≠r:=fun hb=>ho (by subst hb;rw[b2]at e;injection e with e;exact e.symm)
  exact⟨by simp only[G'];rw[aq hb];exact e,World.putObj_heap_other hb,fun _ e=>e⟩
 have hlen:G.ag.length=k+1:=by rw[h.rel.len,h.len]
 obtain⟨gk,g1,g2⟩:=h.cur
 have Xr:∀(d:Nat) (q:cH),G.ag[d]? =some q→q.nl≤nl:=fun d q e=>by
  have hd:d≤k:=by have:=(bd.1 e).1;omega
  rw[←g2]
  exact h.rel.qZ d k q gk hd e g1
 have hs:cu P B0 w0 G' {s with loops:=s.loops.take nl} (w.putObj r o'):=by
  refine⟨fun b i v e=>?_,h.rel.len,by simp[G',h.rel.jG],fun d q gq a1 a2=>?_,fun l' q r' a1 a2=>?_,fun d q a1=>?_,h.rel.qZ,?_,by rw[World.putObj_size];exact h.rel.low,fun b o e=>?_⟩
  ·have:=h.rel.fc b i v e
   by_cases hb:b=r
   ·subst hb
    simp only[World.cell?,kD]at this
    cases this
   ·have hh:(w.putObj r o').heap[b]? =w.heap[b]? :=World.putObj_heap_other hb
    rw[←this]
    simp only[World.cell?,hh]
  ·exact(h.rel.cI d q gq a1 a2).cJ (hle d _ (Xr d gq a2)) n9 (fun o ho=>by subst ho;exact⟨fun _ e=>(by cases e),fun _ e=>(by cases e),fun _ e=>(by cases e)⟩)
  ·have s9:(s.loops.take nl)[l']? =some q:=a1
   have Cy:(G.loops.take nl)[l']? =some r':=a2
   rw[xP]at s9 Cy
   split at s9
   ·rename_i aC
    rw[ak aC]at Cy
    have hq:=h.rel.loop l' q r' s9 Cy
    obtain⟨k1,k2,_⟩:=n9 _ _ hq.2.1 (fun e=>by injection e with e;omega)
    exact hq.cJ (fun k' gB _ hn=>hle k' gB (by omega)) (aH _) k1 k2
   ·cases s9
  ·have s9:G.ag[d]? =some q:=a1
   have:=Xr d q s9
   simp;omega
  ·exact h.rel.below.trans ⟨rfl,rfl,rfl,by simp,fun c hc=>World.putObj_heap_other (by omega)⟩
  ·rw[World.putObj_size]
   simp only[G']at e
   split at e
   ·cases e
   ·exact h.rel.eM b o e
 exact⟨G',⟨hs,h.len,gk,g1,g2⟩,hle _ _ (aH _),rfl⟩
end
end Go.Ax
/-
  Code.
-/
namespace Go.Ax
open Go.RowKit
def AQ:cV→Exit
 |.normal=>.normal
 |.exit id=>.exit id
 |.ret=>.ret
section
variable{P:Program} {B0:Nat} {w0:World} {G:aG} {k nl:Nat} {w:World} {s:ae} {base:List Nat}
def xY (rd:Option Nat) (G:aG) (nl:Nat):Prop:=∀r,rd=some r→∃l:Nat,l<nl∧G.loops[l]? =some r
def Defs (rd : Option Nat) (base : List Nat) (G : aG) (k : Nat) (a : Act) : Prop := rd = none → ∃ gr new, G.ag[k]? = some gr ∧ gr.marks = base ++ new ∧ a.defers = (new.map fun b => (⟨.collected b, #[]⟩ : Deferred)).reverse
def xM (P:Program) (B0:Nat) (w0:World) (rd:Option Nat) (base:List Nat) (G:aG) (k nl:Nat) (a:Act) (e:cV) (aQ:St):Exit→Act→World→Prop:=fun x a' w'=>
 x=AQ e∧∃G',At P B0 w0 G' k nl aQ.sig w'∧bA k nl G G'∧aQ.sig.loops.length=nl∧eu G' k nl aQ.tmps a'∧a'.tmps.size=a.tmps.size∧Defs rd base G' k a'
theorem xY.mono {rd:Option Nat} {G':aG} (h:xY rd G nl) (hle:bA k nl G G'):xY rd G' nl:=fun r e=>by
 obtain⟨l,h1,h2⟩:=h r e
 exact⟨l,h1,hle.loops l r h1 h2⟩
theorem Defs.mono {rd:Option Nat} {G':aG} {a a':Act} (h:Defs rd base G k a) (hle:bA (k+1) nl G G') (hd:a'.defers=a.defers):Defs rd base G' k a':=fun e=>by
 obtain⟨gr,new,h1,h2,h3⟩:=h e
 obtain⟨bI,g1,_,g3⟩:=hle.ag k gr (by omega) h1
 exact⟨bI,new,g1,by rw[g3 (by omega),h2],by rw[hd,h3]⟩
theorem afa {rd:Option Nat} {a:Act} (h:At P B0 w0 G k nl s w) (aR:s.loops.length=nl) (iE:xY rd G nl) (hZ:Defs rd base G k a) (ps:Array Tmp) (assign body:Code):
  ∃wm Gm mark,At P B0 w0 Gm k nl s wm∧bA k nl G Gm∧Gm.loops=G.loops∧Defs rd base Gm k {a with defers:=mark++a.defers}∧∀fn,∃rc:Loop,(Instr.enterLoop fn a.tmps ps assign body rd).run P w=.ok (wm.heap.size,mark) (wm.alloc (.loop rc))∧
   rc.state=.ready∧rc.pending=none∧rc.tmps=a.tmps∧rc.params=ps∧rc.assign=assign∧rc.body=body:=by
 cases rd with
 | none =>
  obtain⟨Gm,g1,g2,g3,gr,g4,g5⟩:=aoL h
  obtain⟨bI,new,e1,e3,e2⟩:=hZ rfl
  rw[g4]at e1
  injection e1 with e1
  subst e1
  refine ⟨_, Gm, [{ target := .collected w.heap.size, args := #[] }], g1, by rw [aR] at g2; exact g2, g3, fun _ => ⟨_, new ++ [w.heap.size], g5, by simp [e3], ?_⟩, fun fn => ⟨{ state := .ready, pending := none, fn, tmps := a.tmps, params := ps, assign, body, defers := w.heap.size }, ?_, rfl, rfl, rfl, rfl, rfl, rfl⟩⟩
  ·simp[e2]
  ·have:=run_enterLoop_outer (P:=P) (w:=w) fn a.tmps ps assign body
   rw[this]
   simp
 |some r0=>
  obtain⟨l,h1,h2⟩:=iE r0 rfl
  have aC:l<s.loops.length:=by omega
  obtain⟨_,_,rc0,h3,_⟩:=h.rel.loop l _ r0 (cM aC) h2
  refine⟨w,G,[],h,.refl _ _ _,rfl,fun e=>(by cases e),fun fn=>⟨{state:=.ready,pending:=none,fn,tmps:=a.tmps,params:=ps,assign,body,defers:=rc0.defers},?_,rfl,rfl,rfl,rfl,rfl,rfl⟩⟩
  have:=run_getLoop (P:=P) h3
  unfold Instr.enterLoop
  simp only[Sem.run_bind,this,run_newObj_alloc,Result.andThen,Sem.run_pure]
theorem arB {call:aZ} (dj:kM P B0 w0 call) {rd:Option Nat} {n:Nat} {f:Operand} {af:aF} {ps:Array Tmp} {assign body:Code} {zY ab:au} {st aQ:St} {a:Act} {e:cV} {lf:Nat}
  (h:At P B0 w0 G k nl st.sig w) (aR:st.sig.loops.length=nl) (hR:eu G k nl st.tmps a) (iE:xY rd G nl) (hZ:Defs rd base G k a) (cf:dt f=some af) {mu:Mu} (ca:comp P mu assign=some zY) (cb:comp P mu body=some ab)
  (tp:∀p,p∈ps.toList→p<a.tmps.size) (ta:jV a.tmps.size zY=true) (tb:jV a.tmps.size ab=true) (he:exec call lf (.rangeFunc af ps.toList zY ab) st=some (e,aQ)):
  (Code.rangeFunc f ps assign body).wpIn (iz rd) n P (xM P B0 w0 rd base G k nl a e aQ) a w:=by
 simp only[exec]at he
 split at he
 case h_2=>cases he
 rename_i g first caps sb
 split at he
 case h_2=>cases he
 rename_i res s hc
 split at he
 case h_2=>cases he
 rename_i pe s1 dc
 injection he with he
 injection he with ns kC
 subst ns kC
 rw[aR]at hc dc
 have pV:=cZ cf hR
 rw[sb]at pV
 obtain⟨a1,a2,hfv,l1,l2,r1,r2⟩:=pV.BB
 obtain⟨wm,Gm,mark,m1,m2,m3,m4,m5⟩:=afa h aR iE hZ ps assign body
 refine wpIn_rangeFunc fun fn _=>?_
 obtain⟨rc,q1,q2,q3,q4,q5,q6,q7⟩:=m5 fn
 obtain⟨G1,e1,e2,e3,e4⟩:=ae9 (lp:=⟨true,none,st.tmps,ps.toList,zY,ab⟩) (rc:=rc) m1 aR ⟨q2,rfl,rfl,q3⟩ (by rw[q5]) (by rw[q6];exact ca) (by rw[q7];exact cb) (by rw[q4];exact ta) (by rw[q4];exact tb) (by rw[q4];exact tp)
  (fun t=>by rw[q4];exact(hR t).mono m2 (aH _) (aH _))
 have WA:bA k nl G G1:=m2.trans (e2.less (by omega) (aH _))
 have nx:Gm.loops.length=nl:=by rw[m1.rel.jG,aR]
 have gy:G1.loops[nl]? =some wm.heap.size:=by rw[e4,gD (by omega)];simp[nx]
 have dw := dj.fn G1 k (nl + 1) _ _ g (first ++ .yield nl :: caps) (a1 ++ #[.func (.yield wm.heap.size) #[] #[]] ++ a2) res s e1.rel (by simp [enterLoop, h.len]) (by simp [enterLoop, h.len]) (by simp [enterLoop, aR]) (by simp [l1, l2]; omega) (fun i hi => by
  rw[A0,A0]
  simp only[cj,dO]at hi
  by_cases h1:i<first.length
  ·rw[ak (by simp;omega),ak (by omega)]
   have e:(first++AV.yield nl::caps)[i]=first[i]:=um h1
   rw[e]
   exact .cl ((r1 i h1).mono WA.I)
  ·by_cases h2:i=first.length
   ·subst h2
    rw[ak (by simp;omega),aq (by omega)]
    have e:(first++AV.yield nl::caps)[first.length]=.yield nl:=by
     rw[uo (aH _)]
     simp
    have e' : (#[Value.func (.yield wm.heap.size) #[] #[]] : Array Value).getD (first.length - a1.size) Go.undef = .func (.yield wm.heap.size) #[] #[] := by rw [l1, HI]; rfl
    rw[e,e']
    exact .yield (by omega) gy
   ·rw[aq (by simp;omega)]
    have e:(first++AV.yield nl::caps)[i]=caps[i-(first.length+1)]'(by omega):=by
     rw[uo (by omega)]
     have:i-first.length=(i-(first.length+1))+1:=by omega
     simp only[this,Ht]
    have e' : (a1 ++ #[Value.func (.yield wm.heap.size) #[] #[]]).size = first.length + 1 := by simp [l1]
    rw[e,e']
    exact(r2 _ _).mono WA (aH _) (sY _)) hc
 obtain⟨yT,OI⟩:=dw
 have jF : (resolve a.eval (rangeCall f wm.heap.size) 0).run P (wm.alloc (.loop rc)) = .ok { target := .fn (.func g) a2, args := a1 ++ #[.func (.yield wm.heap.size) #[] #[]] } (wm.alloc (.loop rc)) := by
  have ajh : (rangeCall f wm.heap.size).args.map a.eval = #[.func (.yield wm.heap.size) #[] #[]] := by simp [Act.eval]
  simp only[resolve,hfv,ajh,KL (P:=P) rfl]
 refine⟨_,mark,_,_,_,g,_,_,by rw[af5];exact q1,jF,fun f' _=>N0 rd f',yT.run _ _,(by rw[Jr];intro h;cases h),?_⟩
 refine CallsIn.mono (Jq rd OI) fun en w3 hen=>?_
 obtain⟨z,rfl,G2,c1,c2,c3,c4,c5⟩:=hen
 have rW:At P B0 w0 G2 k nl s w3:=by
  have fP:(enterLoop st.sig ⟨true,none,st.tmps,ps.toList,zY,ab⟩).loops.length=nl+1:=by simp[enterLoop,aR]
  exact e1.to c1 (c4.less (by omega) (by omega)) c2
 have oX:s.loops.length=nl+1:=by rw[c3];simp[enterLoop,aR]
 have fP:(enterLoop st.sig ⟨true,none,st.tmps,ps.toList,zY,ab⟩).loops.length=nl+1:=by simp[enterLoop,aR]
 unfold xo at dc
 rw[ak oX]at dc
 split at dc
 case h_2=>cases dc
 rename_i lp sg
 split at dc
 case isFalse=>cases dc
 rename_i Gi
 injection dc with dc
 injection dc with PO PQ
 subst PO PQ
 have xf:G2.loops[nl]? =some wm.heap.size:=c4.loops nl _ (by omega) gy
 obtain⟨b1,b2,qf,b3,b4⟩:=c1.loop nl lp _ sg xf
 obtain⟨o1,o2,o3,o4,_⟩:=b4
 have ail:qf.state≠.busy:=by
  rcases Gi with hr|hr
  ·rw[(o1 hr).1];simp
  ·cases aI:lp.ready with
   |true=>rw[(o1 aI).1];simp
   |false=>rw[o2 aI,ak hr];simp
 have Bk:=run_endLoop (P:=P) b3 ail
 obtain⟨G3,d1,d2,d3⟩:=aoh (o':=.loop {qf with state:=.exhausted}) rW oX sg xf b3
 have Oq:bA (k+1) nl Gm G2:=e2.trans (c4.less (aH _) (by omega))
 have WB:bA (k+1) nl Gm G3:=Oq.trans d2
 have WC:bA k nl G G3:=m2.trans (WB.less (by omega) (aH _))
 have oZ:∀ex,ex=AQ (lp.eF.getD .normal)→xM P B0 w0 rd base G k nl a (lp.eF.getD .normal) ⟨st.tmps,{s with loops:=s.loops.take nl}⟩ ex {a with defers:=mark++a.defers} (w3.putObj wm.heap.size (.loop {qf with state:=.exhausted})):=fun ex hex=>
  ⟨hex,G3,d1,WC,by simp[oX],fun t=>(hR t).mono WC (aH _) (aH _),rfl,m4.mono WB rfl⟩
 generalize w3.putObj wm.heap.size (.loop {qf with state:=.exhausted})=w4 at oZ Bk
 refine⟨qf.pending,w4,Bk,?_⟩
 rw[o3]
 cases Pn:lp.eF with
 |none=>
  rw[Pn]at oZ
  exact oZ _ rfl
 |some pe=>
  rw[Pn]at oZ
  cases pe with
  |normal=>exact absurd Pn o4
  |exit id=>exact wpIn_exit (oZ _ rfl)
  |ret=>exact wpIn_ret (oZ _ rfl)
theorem least {p:Nat→Prop} (h:∃m,p m):∃m,p m∧∀j,j<m→¬p j:=by
 obtain⟨m,hm⟩:=h
 induction m using Nat.strongRecOn with
 | _ m ih =>
  by_cases hj:∃j,j<m∧p j
  ·obtain⟨j,h1,h2⟩:=hj
   exact ih j h1 h2
  ·exact⟨m,hm,fun j h1 h2=>hj ⟨j,h1,h2⟩⟩
theorem atF {F:Fence} {n:Nat} {c:Code} {Q:Exit→Act→World→Prop} {a:Act} {w:World} (D:Nat→Act→World→Prop) {m:Nat} (h0:D m a w)
  (hs:∀m a w,D m a w→c.wpIn F n P (Exit.then (fun a' w'=>∃j,j<m∧D j a' w') Q) a w):(Code.loop c).wpIn F n P Q a w:=by
 classical
 refine wpIn_loop (fun a w=>∃m,D m a w) (fun a w=>if h:∃m,D m a w then(least h).choose else 0) ⟨m,h0⟩ fun a w hI=>?_
 have hc:=(least hI).choose_spec
 refine wpIn_mono (hs _ a w hc.1) fun e a' w' hq=>?_
 cases e with
 |normal=>
  obtain⟨j,h1,h2⟩:=hq
  refine⟨⟨j,h2⟩,?_⟩
  rw[Jj hI,Jj ⟨j,h2⟩]
  have oS:=(least (p:=fun m=>D m a' w') ⟨j,h2⟩).choose_spec
  have:¬j<(least (p:=fun m=>D m a' w') ⟨j,h2⟩).choose:=fun aC=>oS.2 j aC h2
  omega
 |_=>exact hq
theorem xM.trans {rd:Option Nat} {G1:aG} {a a1:Act} {e:cV} {aQ:St} {x:Exit} {a':Act} {w':World} (hle:bA k nl G G1) (hs:a1.tmps.size=a.tmps.size) (h:xM P B0 w0 rd base G1 k nl a1 e aQ x a' w'):
  xM P B0 w0 rd base G k nl a e aQ x a' w':=by
 obtain⟨h1,G',h2,h3,h4,h5,h6,h7⟩:=h
 exact⟨h1,G',h2,hle.trans h3,h4,h5,h6.trans hs,h7⟩
theorem Jn {call:aZ} (dj:kM P B0 w0 call) (eY:nK P B0 w0 call) (bh:gX call) (hm:P.follows .mixedOrders=true) {rd:Option Nat} {n lf:Nat} {mu:Mu}:∀(c:Code) (ac:au) (G:aG) (st aQ:St) (a:Act) (w:World) (e:cV),comp P mu c=some ac→
  At P B0 w0 G k nl st.sig w→st.sig.loops.length=nl→eu G k nl st.tmps a→jV a.tmps.size ac=true→xY rd G nl→Defs rd base G k a→exec call lf ac st=some (e,aQ)→
  c.wpIn (iz rd) n P (xM P B0 w0 rd base G k nl a e aQ) a w:=by
 intro c
 induction c with
 |skip=>
  intro ac G st aQ a w e hc h aR hR ht iE hZ he
  simp only[comp]at hc
  injection hc with hc
  subst hc
  simp only[exec]at he
  injection he with he
  injection he with h1 h2
  subst h1 h2
  exact wpIn_skip ⟨rfl,G,h,.refl _ _ _,aR,hR,rfl,hZ⟩
 | region id l drawn =>
  intro ac G st aQ a w e hc h aR hR ht iE hZ he
  simp only[comp]at hc
  obtain⟨⟨n0,as⟩,has,rfl⟩:=aU.1 hc
  have key:∀(G:aG) (st:St),At P B0 w0 G k nl st.sig w→st.sig.loops.length=nl→eu G k nl st.tmps a→jV a.tmps.size (.region drawn as)=true→Defs rd base G k a→exec call lf (.region drawn as) st=some (e,aQ)→
    (Code.region id l drawn).wpIn (iz rd) n P (xM P B0 w0 rd base G k nl a e aQ) a w:=fun G st h aR hR ht hZ he=>by
   simp only[exec]at he
   obtain⟨c9,hs,he⟩:=aU.1 he
   injection he with h1 h2
   subst h1 h2
   simp only[jV]at ht
   refine arF dj eY bh hm has h aR hR (fun o ho t hd=>?_) hs fun a' w' hp=>?_
   ·have:=jw.1 ht o ho
    rw[hd]at this
    simpa using this
   ·obtain⟨G',g1,g2,g3,g4,g5,g6⟩:=hp
    rw[aR]at g2 g3
    exact⟨rfl,G',g1,g2.less (by omega) (aH _),g3,g4,g5,hZ.mono g2 g6⟩
  cases n0 with
  |zero=>exact key G st h aR hR ht hZ he
  | succ n0 =>
   obtain⟨G1,r1,r2,r3,_⟩:=arL h (n0+1)
   simp only[Q5,jV,dB]at ht
   have j6:exec call lf (.region drawn as) ⟨st.tmps,st.sig.lG (n0+1)⟩=some (e,aQ):=by
    simpa[Q5,exec,ops,kj,aN,ki]using he
   rw[aR]at r2 r3
   have hle:bA k nl G G1:=r2.less (by omega) (aH _)
   refine wpIn_mono (key G1 ⟨st.tmps,st.sig.lG (n0+1)⟩ r1 r3 (fun t=>(hR t).mono hle (aH _) (aH _)) ht.2 (hZ.mono r2 rfl) j6) fun x a' w' hp=>?_
   obtain⟨h1,G',h2,h3,h4,h5,h6,h7⟩:=hp
   exact⟨h1,G',h2,hle.trans h3,h4,h5,h6,h7⟩
 | seq x y Gu Ks =>
  intro ac G st aQ a w e hc h aR hR ht iE hZ he
  simp only[comp]at hc
  split at hc
  case h_2=>cases hc
  rename_i ax ay e1 e2
  injection hc with hc
  subst hc
  simp only[jV,dB]at ht
  simp only[exec]at he
  split at he
  ·rename_i c9 hx
   refine wpIn_seq (wpIn_mono (Gu ax G st c9 a w .normal e1 h aR hR ht.1 iE hZ hx) fun ex a1 w1 hp=>?_)
   obtain⟨rfl,G1,g1,g2,g3,g4,g5,g6⟩:=hp
   exact wpIn_mono (Ks ay G1 c9 aQ a1 w1 e e2 g1 g3 g4 (by rw[g5];exact ht.2) (iE.mono g2) g6 he) fun ex a2 w2 hq=>hq.trans g2 g5
  ·rename_i aB
   refine wpIn_seq (wpIn_mono (Gu ax G st aQ a w e e1 h aR hR ht.1 iE hZ he) fun ex a1 w1 hp=>?_)
   have hx:=hp.1
   subst hx
   cases e with
   |normal=>exact absurd he (aB _)
   |exit id=>exact hp
   |ret=>exact hp
 |cond cc x y Gu Ks=>
  intro ac G st aQ a w e hc h aR hR ht iE hZ he
  simp only[comp]at hc
  split at hc
  case h_2=>cases hc
  rename_i z ax ay e0 e1 e2
  injection hc with hc
  subst hc
  simp only[jV,dB]at ht
  simp only[exec]at he
  split at he
  case h_2=>cases he
  rename_i t hz
  have hv:=cZ e0 hR
  rw[hz]at hv
  refine wpIn_cond hv.gj ?_
  cases t with
  |true=>exact Gu ax G st aQ a w e e1 h aR hR ht.1 iE hZ (by simpa using he)
  |false=>exact Ks ay G st aQ a w e e2 h aR hR ht.2 iE hZ (by simpa using he)
 | block id x ih =>
  intro ac G st aQ a w e hc h aR hR ht iE hZ he
  simp only[comp]at hc
  obtain⟨ax,e1,rfl⟩:=aU.1 hc
  simp only[jV]at ht
  simp only[exec]at he
  split at he
  ·rename_i j c9 hx
   refine wpIn_block (wpIn_mono (ih ax G st c9 a w (.exit j) e1 h aR hR ht iE hZ hx) fun ex a1 w1 hp=>?_)
   obtain⟨rfl,hp⟩:=hp
   simp only[AQ,Exit.inBlock]
   split at he
   ·rename_i hj
    injection he with he
    injection he with h1 h2
    subst h1 h2
    rw[ak hj]
    exact⟨rfl,hp⟩
   ·rename_i hj
    injection he with he
    injection he with h1 h2
    subst h1 h2
    rw[aq hj]
    exact⟨rfl,hp⟩
  ·rename_i aB
   refine wpIn_block (wpIn_mono (ih ax G st aQ a w e e1 h aR hR ht iE hZ he) fun ex a1 w1 hp=>?_)
   have hx:=hp.1
   subst hx
   cases e with
   |exit j=>exact absurd he (aB _ _)
   |normal=>exact hp
   |ret=>exact hp
 | loop x ih =>
  intro ac G st aQ a w e hc h aR hR ht iE hZ he
  simp only[comp]at hc
  obtain⟨ax,e1,rfl⟩:=aU.1 hc
  simp only[jV]at ht
  simp only[exec]at he
  refine atF (fun m a1 w1=>∃G1 c9,At P B0 w0 G1 k nl c9.sig w1∧bA k nl G G1∧c9.sig.loops.length=nl∧eu G1 k nl c9.tmps a1∧a1.tmps.size=a.tmps.size∧Defs rd base G1 k a1∧lA (exec call lf ax) m c9=some (e,aQ))
   (m:=lf) ⟨G,st,h,.refl _ _ _,aR,hR,rfl,hZ,he⟩ fun m a1 w1 hD=>?_
  obtain⟨G1,c9,g1,g2,g3,g4,g5,g6,hl⟩:=hD
  cases m with
  |zero=>simp[lA]at hl
  | succ m =>
   simp only[lA]at hl
   split at hl
   ·rename_i vB hx
    refine wpIn_mono (ih ax G1 c9 vB a1 w1 .normal e1 g1 g3 g4 (by rw[g5];exact ht) (iE.mono g2) g6 hx) fun ex a2 w2 hp=>?_
    obtain⟨rfl,G2,q1,q2,q3,q4,q5,q6⟩:=hp
    exact⟨m,by omega,G2,vB,q1,g2.trans q2,q3,q4,q5.trans g5,q6,hl⟩
   ·rename_i aB
    refine wpIn_mono (ih ax G1 c9 aQ a1 w1 e e1 g1 g3 g4 (by rw[g5];exact ht) (iE.mono g2) g6 hl) fun ex a2 w2 hp=>?_
    have hx:=hp.1
    subst hx
    cases e with
    |normal=>exact absurd hl (aB _)
    |exit j=>exact hp.trans g2 g5
    |ret=>exact hp.trans g2 g5
 |rangeFunc f ps x y Gu Ks=>
  intro ac G st aQ a w e hc h aR hR ht iE hZ he
  simp only[comp]at hc
  split at hc
  case h_2=>cases hc
  rename_i z ax ay e0 e1 e2
  injection hc with hc
  subst hc
  simp only[jV,dB]at ht
  exact arB dj h aR hR iE hZ e0 e1 e2 (fun p hp=>by simpa using jw.1 ht.1.1 p hp) ht.1.2 ht.2 he
 |exit id=>
  intro ac G st aQ a w e hc h aR hR ht iE hZ he
  simp only[comp]at hc
  injection hc with hc
  subst hc
  simp only[exec]at he
  injection he with he
  injection he with h1 h2
  subst h1 h2
  exact wpIn_exit ⟨rfl,G,h,.refl _ _ _,aR,hR,rfl,hZ⟩
 |ret=>
  intro ac G st aQ a w e hc h aR hR ht iE hZ he
  simp only[comp]at hc
  injection hc with hc
  subst hc
  simp only[exec]at he
  injection he with he
  injection he with h1 h2
  subst h1 h2
  exact wpIn_ret ⟨rfl,G,h,.refl _ _ _,aR,hR,rfl,hZ⟩
 |_=>
  intro ac G st aQ a w e hc
  simp[comp]at hc
end
end Go.Ax
/-
  What an execution may not write to.
-/
namespace Go.Ax
open Go.RowKit
theorem Fr.refl (s:ae):Fr s s:=⟨rfl,rfl,rfl,rfl,fun _ _=>rfl,fun _ _=>rfl⟩
theorem Fr.trans {a b c:ae} (h:Fr a b) (k:Fr b c):Fr a c:=
 ⟨k.x5.trans h.x5,k.jG.trans h.jG,k.ro.trans h.ro,k.bo.trans h.bo,fun d hd=>(k.ag d (by rw[h.ro];exact hd)).trans (h.ag d hd),fun l hl=>(k.loops l (by rw[h.bo];exact hl)).trans (h.loops l hl)⟩
theorem Fr.bp (s:ae) {d:Nat} (hd:s.ro≤d) (f:Rec→Rec):Fr s (s.bp d f):=
 ⟨by simp[ae.bp],rfl,rfl,rfl,fun d' h=>by simp only[ae.bp,dM];rw[aq (by omega)],fun _ _=>rfl⟩
theorem Fr.fit {m m':ae} {d:Nat} {x y:AV} (hd:m.ro≤d) (hc:m.ro≤m.cur) (h:m.fit d x=some (y,m')):Fr m m':=by
 unfold ae.fit at h
 split at h
 ·split at h
  ·injection h with h;injection h with _ h;subst h;exact .refl _
  ·split at h
   ·rename_i d' g es xs _ bn
    injection h with h
    injection h with _ h
    subst h
    have h1:Fr m (m.mf d' g none):=Fr.bp m (by rw[bn.1];exact hc) _
    exact h1.trans (Fr.bp _ (by rw[h1.ro];exact hd) _)
   ·injection h with h;injection h with _ h;subst h;exact .refl _
 ·split at h
  ·injection h with h;injection h with _ h;subst h;exact .refl _
  ·cases h
 ·split at h
  ·injection h with h;injection h with _ h;subst h;exact .refl _
  ·cases h
 ·obtain⟨z,_,h⟩:=aU.1 h
  injection h with _ h
  subst h
  exact .refl _
theorem Fr.cur {m m':ae} (h:Fr m m'):m'.cur=m.cur:=by simp[ae.cur,h.x5]
theorem Fr.fitAll {d:Nat}:∀{xs ys:List AV} {m m':ae},m.ro≤d→m.ro≤m.cur→m.fitAll d xs=some (ys,m')→Fr m m'
 |[],ys,m,m',_,_,h=>by
  simp only[ae.fitAll]at h
  injection h with h
  injection h with _ h
  subst h
  exact .refl _
 | x :: r, ys, m, m', hd, hc, h => by
  simp only[ae.fitAll]at h
  split at h
  ·cases h
  ·rename_i y m1 h1
   have f1:=Fr.fit hd hc h1
   split at h
   ·cases h
   ·rename_i s m2 h2
    injection h with h
    injection h with _ h
    subst h
    exact f1.trans (Fr.fitAll (by rw[f1.ro];exact hd) (by rw[f1.ro,f1.cur];exact hc) h2)
theorem Fr.store {m m':ae} {n:Nat} {x y:AV} (hc:m.ro≤m.cur) (h:m.store n x y=some m'):Fr m m':=by
 unfold ae.store at h
 split at h
 ·split at h
  ·rename_i bn
   split at h
   ·cases h
   ·rename_i cs m1 h1
    have f1:Fr m m1:=by
     split at h1
     ·injection h1 with h1;injection h1 with _ h1;subst h1;exact .refl _
     ·exact Fr.fitAll bn.1 hc h1
    split at h
    ·cases h
    ·split at h
     ·injection h with h
      subst h
      exact f1.trans (Fr.bp _ (by rw[f1.ro];exact bn.1) _)
     ·cases h
  ·cases h
 ·cases h
theorem Fr.dz {m:ae} (hc:m.ro≤m.cur) (cs:List AV):Fr m (m.dz cs).2:=Fr.bp m hc _
theorem Fr.append {m m':ae} {es:Nat} {x y v:AV} (hc:m.ro≤m.cur) (h:eD m es x y=some (v,m')):Fr m m':=by
 unfold eD at h
 split at h
 ·split at h
  ·injection h with h;injection h with _ h;subst h;exact .refl _
  ·split at h
   ·split at h
    ·injection h with h;injection h with _ h;subst h;exact Fr.bp m hc _
    ·injection h with h;injection h with _ h;subst h;exact Fr.bp m hc _
    ·split at h
     ·rename_i bn
      injection h with h;injection h with _ h;subst h;exact Fr.bp m bn.1 _
     ·cases h
    ·cases h
   ·cases h
 ·cases h
theorem Fr.v7 {m m':ae} {es:Nat} {x y v:AV} (hc:m.ro≤m.cur) (h:v8 m es x y=some (v,m')):Fr m m':=by
 unfold v8 at h
 split at h
 ·split at h
  ·split at h
   ·injection h with h;injection h with _ h;subst h;exact .refl _
   ·injection h with h;injection h with _ h;subst h;exact .refl _
   ·cases h
  ·split at h
   ·split at h
    ·split at h
     ·injection h with h;injection h with _ h;subst h;exact Fr.dz hc _
     ·cases h
    ·split at h
     ·split at h
      ·split at h
       ·injection h with h;injection h with _ h;subst h;exact Fr.bp m hc _
       ·cases h
      ·cases h
     ·cases h
    ·cases h
   ·cases h
 ·cases h
theorem Fr.vZ {m m':ae} {es:Nat} {x y v:AV} (hc:m.ro≤m.cur) (h:x6 m es x y=some (v,m')):Fr m m':=by
 unfold x6 at h
 split at h
 ·split at h
  ·cases h
  ·split at h
   ·injection h with h;injection h with _ h;subst h;exact Fr.dz hc _
   ·exact Fr.v7 hc h
 ·cases h
theorem Fr.copy {m m':ae} {x y v:AV} (hc:m.ro≤m.cur) (h:AK m x y=some (v,m')):Fr m m':=by
 unfold AK at h
 split at h
 ·obtain⟨_,_,h⟩:=aU.1 h
  injection h with _ h
  subst h
  exact .refl _
 ·split at h
  ·obtain⟨_,_,h⟩:=cX.1 h
   split at h
   ·injection h with h;injection h with _ h;subst h;exact .refl _
   ·obtain⟨_,hs,h⟩:=aU.1 h
    injection h with _ h
    subst h
    exact Fr.store hc hs
  ·cases h
 ·cases h
theorem Fr.freeze {m m':ae} {x v:AV} (hc:m.ro≤m.cur) (h:AY m x=some (v,m')):Fr m m':=by
 unfold AY at h
 split at h
 ·split at h
  ·obtain⟨_,_,h⟩:=cX.1 h
   split at h
   ·cases h
   ·split at h
    ·obtain⟨_,_,h⟩:=aU.1 h
     injection h with _ h
     subst h
     exact Fr.bp m hc _
    ·cases h
  ·cases h
 ·injection h with h;injection h with _ h;subst h;exact .refl _
 ·cases h
theorem Fr.yi {m m':ae} {es:Nat} {row:List AV} {x v:AV} (hc:m.ro≤m.cur) (h:yj m es row x=some (v,m')):Fr m m':=by
 unfold yj at h
 obtain⟨p,h1,h⟩:=cX.1 h
 obtain⟨_,_,h⟩:=aU.1 h
 injection h with _ h
 subst h
 exact Fr.freeze hc h1
theorem Fr.rC {m m':ae} {es:Nat} {x y h0 v:AV} (h:qk m es x y h0=some (v,m')):Fr m m':=by
 unfold qk at h
 split at h
 ·obtain⟨p,_,h⟩:=cX.1 h
  split at h
  ·split at h
   ·injection h with h;injection h with _ h;subst h;exact .refl _
   ·injection h with h;injection h with _ h;subst h;exact .refl _
   ·cases h
  ·split at h
   ·rename_i bn
    split at h
    ·split at h
     ·injection h with h;injection h with _ h;subst h;exact Fr.bp m bn.1 _
     ·cases h
    ·split at h
     ·split at h
      ·split at h
       ·injection h with h;injection h with _ h;subst h;exact Fr.bp m bn.1 _
       ·cases h
      ·cases h
     ·cases h
    ·cases h
   ·cases h
 ·cases h
theorem Fr.sM {m m':ae} {es:Nat} {y v:AV} (hc:m.ro≤m.cur) (h:rf m es y=some (v,m')):Fr m m':=by
 unfold rf at h
 split at h
 ·injection h with h;injection h with _ h;subst h;exact Fr.dz hc _
 ·cases h
theorem Fr.clear {m m':ae} {zs:List AV} {y v:AV} (hc:m.ro≤m.cur) (h:wB m zs y=some (v,m')):Fr m m':=by
 unfold wB at h
 split at h
 ·split at h
  ·injection h with h;injection h with _ h;subst h;exact .refl _
  ·cases h
 ·split at h
  ·injection h with h;injection h with _ h;subst h;exact .refl _
  ·split at h
   ·obtain⟨_,hs,h⟩:=aU.1 h
    injection h with _ h
    subst h
    exact Fr.store hc hs
   ·cases h
 ·cases h
theorem Fr.dF {call:aZ} (bh:gX call) {ro:Bool} {m m':ae} {t:Target} {args:List AV} {v:AV} (h1:m.ro≤m.ag.length) (h2:m.bo≤m.loops.length) (h:dF call ro m t args=some (v,m')):Fr m m':=by
 unfold Ax.dF at h
 split at h
 ·obtain⟨p,_,h⟩:=aU.1 h
  injection h with _ h
  subst h
  exact .refl _
 ·exact bh _ _ _ _ _ h1 h2 h
theorem Fr.aN {call:aZ} (bh:gX call) {ρ:aF→AV} {m m':ae} {op:bX} {v:AV} (h0:0<m.ag.length) (hc:m.ro≤m.cur) (h2:m.bo≤m.loops.length) (h:aN call ρ m op=some (v,m')):Fr m m':=by
 have h1:m.ro≤m.ag.length:=by unfold ae.cur at hc;omega
 have mp:∀{o:Option AV},o.map (·,m)=some (v,m')→Fr m m':=fun e=>by
  obtain⟨_,q⟩:=kI e
  simp only at q
  subst q
  exact .refl _
 cases op<;>simp only[Ax.aN]at h<;>first
  |exact mp h
  |(injection h with h;injection h with _ h;subst h;first|exact .refl _|exact Fr.dz hc _;done)
  |exact Fr.dF bh h1 h2 h
  |exact Fr.append hc h
  |exact Fr.v7 hc h
  |exact Fr.vZ hc h
  |exact Fr.copy hc h
  |exact Fr.yi hc h
  |exact Fr.rC h
  |exact Fr.sM hc h
  |exact Fr.clear hc h
  |skip
 case box n x=>
  unfold yh at h
  split at h
  ·injection h with h
   have:=Fr.dz hc (ρ x).cells
   rw[h]at this
   exact this
  ·cases h
 case build=>obtain⟨_,_,h⟩:=aU.1 h;injection h with _ h;subst h;exact .refl _
 case buildSlice=>obtain⟨_,_,h⟩:=aU.1 h;injection h with _ h;subst h;exact .refl _
 case store=>
  obtain⟨_,hs,h⟩:=aU.1 h
  injection h with _ h
  subst h
  exact Fr.store hc hs
 case eqv=>obtain⟨_,_,h⟩:=aU.1 h;injection h with _ h;subst h;exact .refl _
 case om=>
  split at h
  ·injection h with h;injection h with _ h;subst h;exact .refl _
  ·cases h
 case BO=>
  unfold GJ at h
  obtain⟨_,_,h⟩:=cX.1 h
  obtain⟨_,_,h⟩:=cX.1 h
  split at h
  ·cases h
  ·injection h with h;injection h with _ h;subst h;exact Fr.dz hc _
 case mkSlice=>
  unfold BN at h
  obtain⟨_,_,h⟩:=cX.1 h
  obtain⟨_,_,h⟩:=aU.1 h
  split at h
  ·injection h with _ h
   subst h
   exact .refl _
  ·injection h with _ h
   subst h
   exact Fr.dz hc _
 case alloc zs=>
  split at h
  ·cases h
  ·injection h with h
   have:=Fr.dz hc zs
   rw[h]at this
   exact this
 case lG n=>
  injection h with h
  injection h with _ h
  subst h
  exact Fr.bp m hc _
 case fill=>
  obtain⟨_,hs,h⟩:=aU.1 h
  injection h with _ h
  subst h
  unfold yD at hs
  split at hs
  ·split at hs
   ·exact Fr.store hc hs
   ·cases hs
  ·cases hs
 case slot back zs=>
  obtain⟨_,_,_,rfl⟩:=G7 h
  exact Fr.bp m hc _
 case rK=>exact Fr.dF bh h1 h2 (NZ h)
 case th=>
  unfold ng at h
  split at h
  ·split at h
   ·rename_i bn
    injection h with h
    injection h with _ h
    subst h
    exact Fr.bp m hc _
   ·injection h with h
    injection h with _ h
    subst h
    exact .refl _
  ·cases h
  ·exact mp h
  ·cases h
 case tf=>
  unfold lK at h
  split at h
  ·split at h
   ·obtain⟨_,_,h⟩:=cX.1 h
    split at h
    ·obtain⟨_,_,h⟩:=aU.1 h
     injection h with _ h
     subst h
     exact Fr.dz hc _
    ·cases h
   ·exact mp h
  ·cases h
  ·exact mp h
  ·cases h
 case qn=>
  have:=UF h
  exact Fr.dF bh h1 h2 this
 case jZ=>
  unfold lL at h
  split at h
  ·exact Fr.dF bh h1 h2 h
  ·exact Fr.dF bh h1 h2 h
  ·cases h
structure Open (s:ae):Prop where
 pos:0<s.ag.length
 cur:s.ro≤s.cur
 loops:s.bo≤s.loops.length
theorem Open.fr {s s':ae} (h:Open s) (f:Fr s s'):Open s':=⟨by rw[f.x5];exact h.pos,by rw[f.ro,f.cur];exact h.cur,by rw[f.bo,f.jG];exact h.loops⟩
theorem Fr.ops {call:aZ} (bh:gX call):∀{l:List bz} {st aQ:St},Open st.sig→ops call l st=some aQ→Fr st.sig aQ.sig
 |[],st,aQ,_,h=>by
  simp only[Ax.ops]at h
  injection h with h
  subst h
  exact .refl _
 | o :: r, st, aQ, cd, h => by
  rw[QB]at h
  obtain⟨c9,h1,h2⟩:=cX.1 h
  have f1:Fr st.sig c9.sig:=by
   unfold rk at h1
   split at h1
   ·split at h1
    ·rename_i hv
     injection h1 with h1
     subst h1
     exact Fr.aN bh cd.pos cd.cur cd.loops hv
    ·cases h1
   ·injection h1 with h1
    subst h1
    exact .refl _
  exact f1.trans (Fr.ops bh (cd.fr f1) h2)
theorem Fr.lA {f:St→Option (cV×St)} (hf:∀st e aQ,Open st.sig→f st=some (e,aQ)→Fr st.sig aQ.sig):∀{m:Nat} {st:St} {e:cV} {aQ:St},Open st.sig→lA f m st=some (e,aQ)→Fr st.sig aQ.sig
 |0,_,_,_,_,h=>by simp[Ax.lA]at h
 | m + 1, st, e, aQ, cd, h => by
  simp only[Ax.lA]at h
  split at h
  ·rename_i c9 h1
   have f1:=hf _ _ _ cd h1
   exact f1.trans (Fr.lA hf (cd.fr f1) h)
  ·exact hf _ _ _ cd h
theorem Fr.exec {call:aZ} (bh:gX call) {lf:Nat}:∀{c:au} {st:St} {e:cV} {aQ:St},Open st.sig→exec call lf c st=some (e,aQ)→Fr st.sig aQ.sig:=by
 intro c
 induction c with
 |skip=>intro st e aQ _ h;simp only[Ax.exec]at h;injection h with h;injection h with _ h;subst h;exact .refl _
 |exit=>intro st e aQ _ h;simp only[Ax.exec]at h;injection h with h;injection h with _ h;subst h;exact .refl _
 |ret=>intro st e aQ _ h;simp only[Ax.exec]at h;injection h with h;injection h with _ h;subst h;exact .refl _
 |region d l=>
  intro st e aQ cd h
  simp only[Ax.exec]at h
  obtain⟨c9,h1,h⟩:=aU.1 h
  injection h with _ h
  subst h
  exact Fr.ops bh cd h1
 | seq a b vj zo =>
  intro st e aQ cd h
  simp only[Ax.exec]at h
  split at h
  ·rename_i c9 h1
   have f1:=vj cd h1
   exact f1.trans (zo (cd.fr f1) h)
  ·exact vj cd h
 | cond c a b vj zo =>
  intro st e aQ cd h
  simp only[Ax.exec]at h
  split at h
  ·split at h
   ·exact vj cd h
   ·exact zo cd h
  ·cases h
 | block id a ih =>
  intro st e aQ cd h
  simp only[Ax.exec]at h
  split at h
  ·rename_i j c9 h1
   have f1:=ih cd h1
   split at h
   ·injection h with h;injection h with _ h;subst h;exact f1
   ·injection h with h;injection h with _ h;subst h;exact f1
  ·exact ih cd h
 |loop a ih=>
  intro st e aQ cd h
  simp only[Ax.exec]at h
  exact Fr.lA (fun st e aQ h1 h2=>ih h1 h2) cd h
 | rangeFunc f ps a b _ _ =>
  intro st e aQ cd h
  simp only[Ax.exec]at h
  split at h
  case h_2=>cases h
  split at h
  case h_2=>cases h
  rename_i res s hc
  split at h
  case h_2=>cases h
  rename_i pe s1 dc
  injection h with h
  injection h with _ h
  subst h
  have f1:=bh _ _ _ _ _ (by have:=cd.cur;unfold ae.cur at this;have:=cd.pos;simp[enterLoop];omega) (by have:=cd.loops;simp[enterLoop];omega) hc
  unfold xo at dc
  split at dc
  ·rename_i hlen
   split at dc
   ·split at dc
    ·injection dc with dc
     injection dc with _ dc
     subst dc
     refine⟨f1.x5,by simp[hlen],f1.ro,f1.bo,fun d hd=>f1.ag d hd,fun l hl=>?_⟩
     have:=f1.loops l hl
     have oX:l<st.sig.loops.length:=by have:=cd.loops;omega
     simp only[enterLoop]at this
     rw[dC oX]at this
     show(s.loops.take st.sig.loops.length)[l]? =_
     rw[xP,ak oX]
     exact this
    ·cases dc
   ·cases dc
  ·cases dc
theorem Fr.finish {rs:List il} {own:Bool} {s0:ae} {r0:Rec} {st:St} {x:AV} {s':ae} (h0:s0.ro≤s0.ag.length) (f:Fr (s0.push r0) st.sig) (h:finish rs own st=some (x,s')):Fr s0 s':=by
 have hlen:st.sig.ag.length=s0.ag.length+1:=by rw[f.x5];simp[ae.push]
 have hp:Fr s0 st.sig.pop:=by
  refine⟨by simp[ae.pop,hlen],f.jG,f.ro,f.bo,fun d hd=>?_,f.loops⟩
  have tE:d<s0.ag.length:=by omega
  simp only[ae.pop,wH hlen]
  rw[ak tE,f.ag d hd]
  simp only[ae.push]
  exact dC tE
 unfold Ax.finish at h
 split at h
 ·split at h
  ·obtain⟨x0,_,h⟩:=cX.1 h
   unfold kg at h
   split at h
   ·split at h
    ·rename_i bn
     injection h with h
     injection h with _ h
     subst h
     refine hp.trans (Fr.bp _ ?_ _)
     rw[hp.ro]
     have:=bn.2.2.1
     rw[f.ro]at this
     simp only[ae.push]at this
     omega
    ·injection h with h;injection h with _ h;subst h;exact hp
   ·split at h
    ·rename_i bn
     obtain⟨cs,_,h⟩:=cX.1 h
     split at h
     case isFalse=>cases h
     obtain⟨y,_,h⟩:=aU.1 h
     injection h with _ h
     subst h
     refine hp.trans (Fr.bp _ ?_ _)
     rw[hp.ro]
     have:=bn.2.2.1
     rw[f.ro]at this
     simp only[ae.push]at this
     omega
    ·obtain⟨y,_,h⟩:=aU.1 h
     injection h with _ h
     subst h
     exact hp
   ·obtain⟨y,_,h⟩:=aU.1 h
    injection h with _ h
    subst h
    exact hp
  ·cases h
 ·obtain⟨l,_,h⟩:=aU.1 h
  injection h with _ h
  subst h
  exact hp
theorem Open.push {s:ae} (h1:s.ro≤s.ag.length) (h2:s.bo≤s.loops.length) (r:Rec):Open (s.push r):=
 ⟨by simp[ae.push],by simp[ae.push,ae.cur];exact h1,h2⟩
theorem Fr.et (s:ae) {l:Nat} (hl:s.bo≤l) (f:dx→dx):Fr s (et s l f):=
 ⟨rfl,by simp[Ax.et],rfl,rfl,fun _ _=>rfl,fun l' h=>by simp only[Ax.et,dM];rw[aq (by omega)]⟩
theorem Fr.ZI {s0 s:ae} {r0:Rec} (h0:s0.ro≤s0.ag.length) (f:Fr (s0.push r0) s):Fr s0 s.pop:=by
 have hlen:s.ag.length=s0.ag.length+1:=by rw[f.x5];simp[ae.push]
 refine⟨by simp[ae.pop,hlen],f.jG,f.ro,f.bo,fun d hd=>?_,f.loops⟩
 have tE:d<s0.ag.length:=by omega
 simp only[ae.pop,wH hlen]
 rw[ak tE,f.ag d hd]
 simp only[ae.push]
 exact dC tE
theorem gX.step {AP:FuncId→Option aJ} {call:aZ} (bh:gX call) (lf:Nat):gX (iO AP call lf):=by
 intro t args s x s' h1 h2 h
 unfold iO at h
 cases t with
 | fn f =>
  simp only at h
  split at h
  ·split at h
   ·split at h
    ·rename_i st he
     exact Fr.finish h1 (Fr.exec bh (Open.push h1 h2 _) he) h
    ·rename_i st he
     exact Fr.finish h1 (Fr.exec bh (Open.push h1 h2 _) he) h
    ·cases h
   ·cases h
  ·obtain⟨as,_,h⟩:=cX.1 h
   obtain⟨z,_,h⟩:=aU.1 h
   injection h with _ h
   subst h
   exact .refl _
  ·cases h
 | inl f =>
  simp only at h
  split at h
  ·split at h
   ·rename_i bn
    have ho:Open s:=⟨by omega,by have:=bn.2;unfold ae.cur;omega,h2⟩
    split at h
    ·rename_i st he
     obtain⟨l,_,h⟩:=aU.1 h
     injection h with _ h
     subst h
     exact Fr.exec bh ho he
    ·rename_i st he
     obtain⟨l,_,h⟩:=aU.1 h
     injection h with _ h
     subst h
     exact Fr.exec bh ho he
    ·cases h
   ·cases h
  ·cases h
 | nat f =>
  simp only at h
  split at h
  ·obtain⟨as,_,h⟩:=cX.1 h
   obtain⟨z,_,h⟩:=aU.1 h
   injection h with _ h
   subst h
   exact .refl _
  ·cases h
 | yield l =>
  simp only at h
  split at h
  case h_2=>cases h
  split at h
  case isFalse=>cases h
  rename_i bn
  split at h
  case h_2=>cases h
  rename_i st he
  have f1:=Fr.exec bh (Open.push h1 h2 _) he
  have hl:st.sig.bo≤l:=by rw[f1.bo];exact bn.2.1
  have f2:=f1.trans (Fr.et st.sig hl fun p=>{p with ready:=false})
  have Zc:=(Open.push h1 h2 ⟨[],[]⟩).fr f2
  split at h
  case isFalse=>cases h
  split at h
  ·rename_i aQ hb
   injection h with h
   injection h with _ h
   subst h
   have f3:=f2.trans (Fr.exec bh Zc hb)
   exact Fr.ZI h1 (f3.trans (Fr.et _ (by rw[f3.bo];exact bn.2.1) _))
  ·rename_i e aQ _ hb
   injection h with h
   injection h with _ h
   subst h
   have f3:=f2.trans (Fr.exec bh Zc hb)
   exact Fr.ZI h1 (f3.trans (Fr.et _ (by rw[f3.bo];exact bn.2.1) _))
  ·cases h
end Go.Ax
/-
  Calls.
-/
namespace Go.Ax
open Go.RowKit
def HL (P:Program) (K:World→Prop) (f:FuncId) (F:List AV→Option AV):Prop:=
 ∀ (I : fU) (w : World) (as : List AV) (xs : Array Value) (r : AV), K w → (∀ b i v, I b i = some v → w.cell? ⟨b, i, none⟩ = some v) → xs.size = as.length → (∀ i (hi : i < as.length), bJ I as[i] (xs.getD i Go.undef)) → F as = some r →
  Calls P f xs w fun e w'=>∃z I',e=.returned z∧(∀b i v,I b i=some v→I' b i=some v)∧(∀b i v,I' b i=some v→I b i=some v∨w.heap.size≤b)∧(∀b i v,I' b i=some v→w'.cell? ⟨b,i,none⟩=some v)∧
   Below w.heap.size w w'∧zW I' r z
def SG (P:Program) (f:FuncId) (F:List AV→Option AV):Prop:=
 ∀(I:fU) (w:World) (as:List AV) (xs:Array Value) (r:AV),xs.size=as.length→(∀i (hi:i<as.length),bJ I as[i] (xs.getD i Go.undef))→F as=some r→
  ∃z,(callFunc f xs).run P w=.ok (.value z) w∧zW I r z
structure s8 (P:Program) (AP:FuncId→Option aJ) (K:World→Prop):Prop where
 mixed:P.follows .mixedOrders=true
 code:∀f np nt b rs own,AP f=some (.code np nt b rs own)→∃fn mu,P.funcs[f]? =some fn∧aV P own mu fn=some (.code np nt b rs own)
 re:∀f F,AP f=some (.re F)→rr P f∧HL P K f F
 nat:∀f F,AP f=some (.nat F)→SG P f F
theorem U4 {P:Program} {own own':Bool} {mu:Mu} {fn:Func} {np nt:Nat} {b:au} {rs:List il} (h:aV P own mu fn=some (.code np nt b rs own')):
  ∃c,fn.body=some c∧(fn.name== "runtime.NumGoroutine")=false∧comp P mu c=some b∧fu (wE P) fn.results.toList=some rs∧np≤fn.ntmps∧jV fn.ntmps b=true∧own'=own:=by
 unfold aV at h
 split at h
 ·cases h
 ·rename_i F7
  split at h
  ·cases h
  ·rename_i c hb
   split at h
   ·rename_i b' Rj e1 e2
    split at h
    ·rename_i bn
     injection h with h
     injection h with h1 h2 h3 h4 h5
     subst h1 h2 h3 h4 h5
     exact⟨c,hb,by simpa using F7,e1,e2,bn.1,bn.2,rfl⟩
    ·cases h
   ·cases h
section
variable{P:Program} {B0:Nat} {w0:World} {G:aG} {k nl:Nat} {w:World} {s:ae}
theorem Qh {G:aG} {n:Nat} {fn:Func} {tmps:Array Value} {R:Ending→World→Prop}:∀(bs:List Nat) (w:World),At P B0 w0 G k nl s w→(∀b,b∈bs→B0≤b∧G.own b=none∧w.heap[b]? =some (.deferred (some [])))→bs.Nodup→
  (∀ w', At P B0 w0 G k nl s w' → ∃ v, (results fn tmps).run P w' = .ok v w' ∧ R (.returned v) w') → LeavesInM Fence.wide n P fn tmps R (bs.map fun b => (⟨.collected b, #[]⟩ : Deferred)) .returning w
 |[],w,h,_,_,hR=>hR w h
 |b::r,w,h,hb,hn,hR=>by
  obtain⟨h1,h2,h3⟩:=hb b (by simp)
  have iV:=List.nodup_cons.1 hn
  refine⟨by simp,.inl ⟨b,w.putObj b (.deferred none),rfl,run_takeDeferred h3,?_⟩⟩
  refine Qh r _ (aq7 h h1 h2 h3 (fun a t f e=>by cases e)) (fun c hc=>?_) iV.2 hR
  obtain⟨c1,c2,c3⟩:=hb c (by simp[hc])
  refine⟨c1,c2,?_⟩
  rw[World.putObj_heap_other (fun e=>iV.1 (by rw[←e];exact hc))]
  exact c3
theorem YM (h:cu P B0 w0 G s w) {r:Rec} {gr:cH} {d:Nat} (hr:s.ag[d]? =some r) (hg:G.ag[d]? =some gr):gr.marks.Nodup:=by
 rw[List.nodup_iff_pairwise_ne,Cn]
 intro i j hi hj aC e
 have h1:=((h.cI d r gr hr hg).mark i _ (cM hi)).2.1
 have h2:=((h.cI d r gr hr hg).mark j _ (cM hj)).2.1
 rw[e,h2]at h1
 injection h1 with h1
 injection h1 with _ h1
 omega
theorem L4:∀(args:List AV) (t:Nat),jy args t=if h:t<args.length then args[t]else AV.undef
 |[],t=>by simp[jy]
 |x::r,0=>by simp[jy]
 |x::r,t+1=>by
  simp only[jy,L4 r t,dO,Ht]
  split<;>split<;>first|rfl|omega
theorem UD (h:cu P B0 w0 G s w) {kc nlc:Nat} {G1 G2:aG} {s':ae} {w':World} {x:AV} {z:Value} (hk:s.ag.length≤kc+1) (h1:bA s.ag.length s.loops.length (G.kh s.loops.length) G1) (h2:cu P B0 w0 G2 s' w') (h3:s'.ag.length=s.ag.length)
  (h4:s'.loops.length=s.loops.length) (h5:∀b i v,G1.I b i=some v→G2.I b i=some v) (h6:∀d gr,d<s.ag.length→G1.ag[d]? =some gr→∃bI,G2.ag[d]? =some bI∧iN gr bI∧bI.marks=gr.marks)
  (h7:∀l r:Nat,G1.loops[l]? =some r→G2.loops[l]? =some r) (h8:Rel G2 kc nlc x z):nJ P B0 w0 G kc nlc s s' w' x z:=by
 refine⟨G2,h2,h3,h4,⟨fun b i v e=>h5 b i v (h1.I b i v e),fun d gr hd e=>?_,fun l r hl e=>h7 l r (h1.loops l r hl e)⟩,h8⟩
 have aC:d<s.ag.length:=by have:=(bd.1 e).1;rw[h.len]at this;exact this
 obtain⟨g1,a1,a2,a3⟩:=h1.ag d gr (by omega) (my e)
 obtain⟨g2,b1,b2,b3⟩:=h6 d g1 aC a1
 exact⟨g2,b1,a2.trans b2,fun _=>b3.trans (a3 aC)⟩
theorem U2 {AP:FuncId→Option aJ} {K:World→Prop} (hp:s8 P AP K) {call:aZ} (dj:kM P B0 w0 call) (eY:nK P B0 w0 call) (bh:gX call) {lf:Nat} {kc nlc:Nat} {f:FuncId} {np nt:Nat} {b:au} {rs:List il} {own:Bool} {args:List AV} {xs:Array Value} {x:AV} {s':ae}
  (nY:AP f=some (.code np nt b rs own)) (h:cu P B0 w0 G s w) (nz:s.ag.length≤kc+1) (iC:kc≤s.ag.length) (ll:nlc≤s.loops.length) (hl:xs.size=args.length) (hR:∀i (hi:i<args.length),Rel G kc nlc args[i] (xs.getD i Go.undef))
  {e:cV} {st:St} (hlen:args.length=np) (he:exec call lf b ⟨jy args,s.push ⟨[],[]⟩⟩=some (e,st)) (hn:e=.normal∨e=.ret) (hf:finish rs own st=some (x,s')):
  rr P f∧Calls P f xs w fun e w'=>∃z,e=.returned z∧nJ P B0 w0 G kc nlc s s' w' x z:=by
 obtain⟨fn,mu,sb,eW⟩:=hp.code f np nt b rs own nY
 obtain⟨c,hb,F7,OM,jF,hnp,PJ,_⟩:=U4 eW
 refine⟨⟨fn,c,sb,hb,F7⟩,?_⟩
 refine(callsIn_wide (n:=0)).1 ?_
 have iS:=QR h
 have JE:=G.KY s.loops.length
 have bR:(xs++Array.replicate (fn.ntmps-xs.size) Go.undef).size=fn.ntmps:=by simp;omega
 refine callsIn_of_wp_marks sb hb trivial (wpIn_mono (Jn (rd:=none) (n:=0) (lf:=lf) (base:=[]) dj eY bh hp.mixed c b (G.kh s.loops.length) ⟨jy args,s.push ⟨[],[]⟩⟩ st ⟨xs++Array.replicate (fn.ntmps-xs.size) Go.undef,[]⟩ w e OM iS rfl (fun t=>?_) (by rw[bR];exact PJ)
  (fun r e=>by cases e) (fun _=>⟨⟨[],[],s.loops.length,[],fun _=>none⟩,[],by simp[aG.kh,←h.len],rfl,rfl⟩) he) fun ex a' w' oZ=>?_)
 ·show Rel _ _ _ (jy args t) ((xs++Array.replicate (fn.ntmps-xs.size) Go.undef).getD t Go.undef)
  rw[L4,A0]
  split
  ·rename_i ht
   rw[ak (by omega)]
   exact(hR t ht).mono (JE _ _) iC ll
  ·rename_i ht
   rw[aq (by omega)]
   have:(Array.replicate (fn.ntmps-xs.size) Go.undef).getD (t-xs.size) Go.undef=Go.undef:=by
    by_cases hq:t-xs.size<fn.ntmps-xs.size
    ·simp[Array.getD,hq]
    ·simp[Array.getD,hq]
   rw[this]
   exact .undef
 ·obtain⟨hex,G1,g1,g2,g3,g4,g5,g6⟩:=oZ
  have OU:ex=.normal∨ex=.ret:=by rcases hn with rfl|rfl<;>simp[hex,AQ]
  obtain⟨r,gr,hr,hg⟩:=g1.cI (aH _)
  obtain⟨bI,new,e1,e3,e2⟩:=g6 rfl
  rw[hg]at e1
  injection e1 with e1
  subst e1
  rw[kN]at e3
  rw[←e3]at e2
  have F3:LeavesInM Fence.wide 0 P fn a'.tmps (fun e w'=>∃z,e=.returned z∧nJ P B0 w0 G kc nlc s s' w' x z) a'.defers .returning w':=by
   rw[e2,←List.map_reverse]
   refine Qh (G:=G1.kX s.ag.length 0) gr.marks.reverse w' (Vp g1 0) (fun m hm=>?_) ((List.reverse_perm _).nodup_iff.2 (YM g1.rel hr hg)) (fun w'' rW=>?_)
   ·obtain⟨i,hi,rfl⟩:=nM (List.mem_reverse.1 hm)
    have y5:=(g1.rel.cI _ r gr hr hg).mark i _ (cM hi)
    refine⟨y5.1,?_,y5.2.2⟩
    simp[aG.kX,y5.2.1]
   ·have FN:=G1.AO s.ag.length s.loops.length 0 (aH _)
    obtain⟨z,G2,q1,q2,q3,q4,q5,q6,q7,q8⟩:=agl rW (a:=a') (g4.mono FN) g3 jF (kc:=kc) (nlc:=nlc) nz hf
    refine⟨z,q1,z,rfl,UD h nz (g2.trans FN) q2 q3 (by rw[q4];exact g3) q5 q6 q7 q8⟩
  rcases OU with rfl|rfl
  ·exact F3
  ·exact F3
theorem ZX {st:St} {a:Act} (h:At P B0 w0 G k nl st.sig w) (hR:eu G k nl st.tmps a):∀{rs:List ResultVar} {ql:List il} {l:List AV},
  fu (wE P) rs=some ql→tU st ql=some l→∃vs:List Value,(rs.mapM (BW a.tmps)).run P w=.ok vs w∧vs.length=l.length∧∀i (hi:i<l.length) (hj:i<vs.length),Rel G k nl l[i] vs[i]
 |[],ql,l,hm,hr=>by
  simp only[fu]at hm
  injection hm with hm
  subst hm
  simp only[tU]at hr
  injection hr with hr
  subst hr
  exact⟨[],by simp,rfl,fun i hi=>absurd hi (da _)⟩
 | r :: rs, ql, l, hm, hr => by
  simp only[fu]at hm
  split at hm
  ·rename_i ar S8 e1 e2
   injection hm with hm
   subst hm
   simp only[tU]at hr
   split at hr
   ·rename_i x l' f1 f2
    injection hr with hr
    subst hr
    obtain⟨z,r1,r2⟩:=Q6 h hR e1 f1
    obtain⟨vs,v1,v2,v3⟩:=ZX h hR e2 f2
    refine⟨z::vs,?_,by simp[v2],fun i hi hj=>?_⟩
    ·simp only[Sh,Sem.run_bind,r1,Result.andThen_ok,v1,Sem.run_pure]
    ·cases i with
     |zero=>exact r2
     |succ i=>exact v3 i (by simpa using hi) (by simpa using hj)
   ·cases hr
  ·cases hm
theorem X9 {AP:FuncId→Option aJ} {K:World→Prop} (hp:s8 P AP K) {call:aZ} (dj:kM P B0 w0 call) (eY:nK P B0 w0 call) (bh:gX call) {lf:Nat} {f:FuncId} {np nt:Nat} {b:au} {rs:List il} {own:Bool} {args:List AV} {xs:Array Value}
  (nY:AP f=some (.code np nt b rs own)) (h:At P B0 w0 G k nl s w) (aR:s.loops.length=nl) (hl:xs.size=args.length) (hR:∀i (hi:i<args.length),Rel G k nl args[i] (xs.getD i Go.undef))
  {e:cV} {st:St} (hlen:args.length=np) (he:exec call lf b ⟨jy args,s⟩=some (e,st)) (hn:e=.normal∨e=.ret) {l:List AV} (hr:tU st rs=some l):
  rr P f∧Calls P f xs w fun e w'=>∃z,e=.returned z∧nJ P B0 w0 G k nl s st.sig w' (packed l) z:=by
 obtain⟨fn,mu,sb,eW⟩:=hp.code f np nt b rs own nY
 obtain⟨c,hb,F7,OM,jF,hnp,PJ,_⟩:=U4 eW
 refine⟨⟨fn,c,sb,hb,F7⟩,?_⟩
 refine(callsIn_wide (n:=0)).1 ?_
 have bR:(xs++Array.replicate (fn.ntmps-xs.size) Go.undef).size=fn.ntmps:=by simp;omega
 obtain⟨iA,uZ,avv⟩:=h.cur
 refine callsIn_of_wp_marks sb hb trivial (wpIn_mono (Jn (rd:=none) (n:=0) (lf:=lf) (base:=iA.marks) dj eY bh hp.mixed c b G ⟨jy args,s⟩ st ⟨xs++Array.replicate (fn.ntmps-xs.size) Go.undef,[]⟩ w e OM h aR (fun t=>?_) (by rw[bR];exact PJ)
  (fun r e=>by cases e) (fun _=>⟨iA,[],uZ,by simp,rfl⟩) he) fun ex a' w' oZ=>?_)
 ·show Rel _ _ _ (jy args t) ((xs++Array.replicate (fn.ntmps-xs.size) Go.undef).getD t Go.undef)
  rw[L4,A0]
  split
  ·rename_i ht
   rw[ak (by omega)]
   exact hR t ht
  ·rename_i ht
   rw[aq (by omega)]
   have:(Array.replicate (fn.ntmps-xs.size) Go.undef).getD (t-xs.size) Go.undef=Go.undef:=by
    by_cases hq:t-xs.size<fn.ntmps-xs.size
    ·simp[Array.getD,hq]
    ·simp[Array.getD,hq]
   rw[this]
   exact .undef
 ·obtain⟨hex,G1,g1,g2,g3,g4,g5,g6⟩:=oZ
  have OU:ex=.normal∨ex=.ret:=by rcases hn with rfl|rfl<;>simp[hex,AQ]
  obtain⟨r,gr,fG,hg⟩:=g1.cI (aH _)
  obtain⟨bI,new,e1,e3,e2⟩:=g6 rfl
  rw[hg]at e1
  injection e1 with e1
  subst e1
  have FN:=fun{k'} (hk:k'≤k)=>G1.AO k nl iA.marks.length hk
  have hle:bA (k+1) s.loops.length G (G1.kX k iA.marks.length):=by
   refine⟨fun b i v e=>g2.I b i v e,fun d gq hd e=>?_,fun l r hl e=>g2.loops l r (by omega) e⟩
   have eQ:d<k+1:=by
    have:=(bd.1 e).1
    rw[h.rel.len,h.len]at this;exact this
   obtain⟨g1',c1,c2,c3⟩:=g2.ag d gq (by omega) e
   by_cases aiv:d=k
   ·subst aiv
    rw[hg]at c1
    injection c1 with c1
    subst c1
    rw[uZ]at e
    injection e with e
    subst e
    refine⟨{gr with marks:=gr.marks.take iA.marks.length},by simp[aG.kX,hg],⟨c2.bl,c2.tk,c2.nl,c2.gs⟩,fun _=>?_⟩
    simp[e3]
   ·obtain⟨g2',c4,c5,c6⟩:=(FN (aH _)).ag d g1' (by omega) c1
    exact⟨g2',c4,c2.trans c5,fun _=>(c6 (by omega)).trans (c3 (by omega))⟩
  have F3:LeavesInM Fence.wide 0 P fn a'.tmps (fun e w'=>∃z,e=.returned z∧nJ P B0 w0 G k nl s st.sig w' (packed l) z) a'.defers .returning w':=by
   rw[e2,←List.map_reverse]
   refine Qh (G:=G1.kX k iA.marks.length) new.reverse w' (Vp g1 iA.marks.length) (fun m hm=>?_) ((List.reverse_perm _).nodup_iff.2 ?_) (fun w'' rW=>?_)
   ·obtain⟨i,hi,rfl⟩:=nM (List.mem_reverse.1 hm)
    have y5:=(g1.rel.cI _ r gr fG hg).mark (iA.marks.length+i) new[i] (by rw[e3,gD (by omega)];simp)
    refine⟨y5.1,?_,y5.2.2⟩
    simp[aG.kX,y5.2.1]
   ·have:=YM g1.rel fG hg
    rw[e3]at this
    exact(List.nodup_append.1 this).2.1
   ·obtain⟨vs,v1,v2,v3⟩:=ZX rW (a:=a') (g4.mono (FN (aH _))) jF hr
    exact⟨_,Q7 v1,_,rfl,_,rW.rel,rW.len.trans h.len.symm,g3.trans aR.symm,hle,Zx v2 v3⟩
  rcases OU with rfl|rfl
  ·exact F3
  ·exact F3
theorem aqZ {AP:FuncId→Option aJ} {K:World→Prop} (hp:s8 P AP K) (hK:∀w,Below B0 w0 w→K w) {kc nlc:Nat} {f:FuncId} {F:List AV→Option AV} {args:List AV} {xs:Array Value} {x:AV} {s':ae}
  (nY:AP f=some (.re F)) (h:cu P B0 w0 G s w) (hl:xs.size=args.length) (hR:∀i (hi:i<args.length),Rel G kc nlc args[i] (xs.getD i Go.undef)) (hc:((closeAll args).bind fun as=>(F as).map (·,s))=some (x,s')):
  rr P f∧Calls P f xs w fun e w'=>∃z,e=.returned z∧nJ P B0 w0 G kc nlc s s' w' x z:=by
 obtain⟨hb,ajM⟩:=hp.re f F nY
 refine⟨hb,?_⟩
 obtain⟨as,has,hc⟩:=cX.1 hc
 obtain⟨y,hy,hc⟩:=aU.1 hc
 injection hc with h1 h2
 subst h1 h2
 obtain⟨c1,c2⟩:=Jb has
 refine Calls.mono (ajM G.I w as xs y (hK w h.below) h.fc (by rw[hl,c1]) (fun i hi=>(hR i (by omega)).close (c2 i (by omega) hi)) hy) fun e w' hq=>?_
 obtain⟨z,I',rfl,i1,i2,i3,i4,i5⟩:=hq
 refine⟨z,rfl,{G with I:=I'},?_,rfl,rfl,⟨i1,fun d gr _ e=>⟨gr,e,.refl gr,fun _=>rfl⟩,fun _ _ _ e=>e⟩,i5.rel⟩
 refine h.cJ i1 rfl rfl (fun b o e _=>⟨e,i4.block b (h.eM b o e),fun i hi=>?_⟩) i3 (i4.mono h.low) (fun b o e=>mZ (h.eM b o e) i4.size)
 show I' b i=none
 cases hv:I' b i with
 |none=>rfl
 |some v=>
  rcases i2 b i v hv with nC|nC
  ·rw[hi]at nC;cases nC
  ·have:=h.eM b o e;omega
theorem aav:∀(ps:List Nat) (args:List AV) (vs:List Value) (ρ:Nat→AV) (t:Array Value),args.length=ps.length→vs.length=ps.length→(∀p,p∈ps→p<t.size)→(∀i (hi:i<args.length) (hj:i<vs.length),Rel G k nl args[i] vs[i])→
  (∀u,Rel G k nl (ρ u) (t.getD u Go.undef))→(∀u,Rel G k nl (tX ρ ps args u) (((ps.zip vs).foldl (fun(t:Array Value) (q:Nat×Value)=>t.setIfInBounds q.1 q.2) t).getD u Go.undef))∧((ps.zip vs).foldl (fun(t:Array Value) (q:Nat×Value)=>t.setIfInBounds q.1 q.2) t).size=t.size
 |[],args,vs,ρ,t,h1,h2,hp,hR,ht=>by
  cases args with
  |nil=>exact⟨by simpa[tX]using ht,by simp⟩
  |cons=>simp at h1
 |p::ps,[],vs,ρ,t,h1,h2,hp,hR,ht=>by simp at h1
 |p::ps,a::args,[],ρ,t,h1,h2,hp,hR,ht=>by simp at h2
 | p :: ps, a :: args, v :: vs, ρ, t, h1, h2, hp, hR, ht => by
  have h0:Rel G k nl a v:=hR 0 (by simp) (by simp)
  have Pq:∀u,Rel G k nl (put p a ρ u) ((t.setIfInBounds p v).getD u Go.undef):=by
   have:=eu.put (a:=⟨t,[]⟩) (dst:=some p) (fun u=>ht u) (fun q e=>by injection e with e;subst e;exact hp p (by simp)) h0
   exact fun u=>this u
  obtain⟨i1,i2⟩:=aav ps args vs (put p a ρ) (t.setIfInBounds p v) (by simpa using h1) (by simpa using h2) (fun q hq=>by simp;exact hp q (by simp[hq])) (fun i hi hj=>hR (i+1) (by simpa using hi) (by simpa using hj)) Pq
  exact⟨i1,by rw[List.zip_cons_cons,xO,i2];simp⟩
theorem pG.Lf {l:Nat} {lp mO:dx} {rc mR:Loop} (h:pG P G l lp rc) (h1:mR.params=rc.params) (h2:mR.assign=rc.assign) (h3:mR.body=rc.body) (h4:mR.tmps=rc.tmps) (g1:mO.params=lp.params) (g2:mO.assign=lp.assign) (g3:mO.body=lp.body)
  (g4:mO.tmps=lp.tmps) (a1:mO.ready=true→mR.state=.ready∧mO.eF=none) (a2:mO.ready=false→mR.state=(if mO.eF.isSome then .done else .busy)) (a3:mR.pending=mO.eF.bind exitCode) (a4:mO.eF≠some .normal):pG P G l mO mR:=by
 obtain⟨_,_,_,_,b5,⟨mu,b6,b7⟩,b8,b9,b10,k,nl,b11,b12,b14,b13⟩:=h
 exact⟨a1,a2,a3,a4,by rw[h1,g1];exact b5,⟨mu,by rw[h2,g2];exact b6,by rw[h3,g3];exact b7⟩,by rw[h4,g2];exact b8,by rw[h4,g3];exact b9,by rw[h4,g1];exact b10,k,nl,b11,b12,b14,by rw[h4,g4];exact b13⟩
theorem At.YI (h:At P B0 w0 G k nl s w) (aR:s.loops.length=nl) {l r:Nat} (hl:l<nl) (hr:G.loops[l]? =some r):∃lp rc,s.loops[l]? =some lp∧w.heap[r]? =some (.loop rc)∧pG P G l lp rc:=by
 have aC:l<s.loops.length:=by omega
 obtain⟨_,_,rc,h3,h4⟩:=h.rel.loop l _ r (cM aC) hr
 exact⟨_,rc,cM aC,h3,h4⟩
theorem At.turn (h:At P B0 w0 G k nl s w) {l r:Nat} {lp mO:dx} {rc mR:Loop} (hl:s.loops[l]? =some lp) (hr:G.loops[l]? =some r) (kD:w.heap[r]? =some (.loop rc)) {f:dx→dx} (hf:f lp=mO) (ho:pG P G l mO mR):
  At P B0 w0 G k nl (et s l f) (w.putObj r (.loop mR)):=
 ⟨asw h.rel hl hr kD hf ho,h.len,h.cur⟩
theorem atH {AP : FuncId → Option aJ} {K : World → Prop} (hp : s8 P AP K) {call : aZ} (dj : kM P B0 w0 call) (eY : nK P B0 w0 call) (bh : gX call) {lf : Nat} {kc nlc l r : Nat} {args : List AV} {xs : Array Value} {x : AV} {s' : ae}
    (h:cu P B0 w0 G s w) (nz:s.ag.length≤kc+1) (iC:kc≤s.ag.length) (ll:nlc≤s.loops.length) (aC:l<nlc) (nx:G.loops[l]? =some r) (hl:xs.size=args.length) (hR:∀i (hi:i<args.length),Rel G kc nlc args[i] (xs.getD i Go.undef))
    (hc:iO AP call lf (.yield l) args s=some (x,s')):
    ∃ rc : Loop, w.heap[r]? = some (.loop rc) ∧ xs.size = rc.params.size ∧ ∀ n, RoundIn Fence.wide n P r rc.fn ((rc.params.zip xs).foldl (fun tmps (t, a) => tmps.setIfInBounds t a) rc.tmps) rc.assign rc.body w
      fun e w'=>∃z,e=.returned z∧nJ P B0 w0 G kc nlc s s' w' x z:=by
  unfold iO at hc
  simp only at hc
  split at hc
  case h_2=>cases hc
  rename_i lp sg
  split at hc
  case isFalse=>cases hc
  rename_i bn
  obtain⟨Gi,_,pS⟩:=bn
  split at hc
  case h_2=>cases hc
  rename_i st aid
  split at hc
  case isFalse=>cases hc
  rename_i ajR
  obtain⟨_,_,rc,kD,ajw⟩:=h.loop l lp r sg nx
  obtain⟨o1,o2,o3,o4,o5,⟨mu,o6,o7⟩,o8,o9,o10,k',gB,o11,o12,o14,o13⟩:=ajw
  have cD:rc.params.size=lp.params.length:=by rw[←o5];simp
  refine⟨rc,kD,by rw[hl,pS,cD],fun n=>?_⟩
  have iS:=QR h
  have JE:=G.KY s.loops.length
  have F4:l<s.loops.length:=by omega
  have Xb:(G.kh s.loops.length).loops[l]? =some r:=nx
  have Kd:xY (some r) (G.kh s.loops.length) s.loops.length:=fun r' e=>by injection e with e;subst e;exact⟨l,F4,Xb⟩
  have aiJ:(rc.params.zip xs).foldl (fun(tmps:Array Value) (x:Tmp×Value)=>match x with|(t,a)=>tmps.setIfInBounds t a) rc.tmps=(lp.params.zip xs.toList).foldl (fun(t:Array Value) (q:Nat×Value)=>t.setIfInBounds q.1 q.2) rc.tmps:=by
    rw[←Array.foldl_toList,Array.toList_zip,o5]
  rw[aiJ]
  obtain⟨p1,p2⟩:=aav (G:=G.kh s.loops.length) (k:=s.ag.length) (nl:=s.loops.length) lp.params args xs.toList lp.tmps rc.tmps pS (by simp[hl,pS]) o10
    (fun i hi hj=>by
      have:=(hR i hi).mono (JE kc nlc) iC ll
      have e:xs.getD i Go.undef=xs.toList[i]:=by
        have:i<xs.size:=by simpa using hj
        simp[Array.getD,this]
      rw[←e]
      exact this)
    (fun u=>(o13 u).mono (JE k' gB) (by have:=h.len;omega) (by omega))
  have hF:Fence.wide.fn rc.fn:=trivial
  refine roundIn_of_wpIn hF (wpIn_mono (Jn (k:=s.ag.length) (nl:=s.loops.length) (rd:=some r) (n:=n) (lf:=lf) (base:=[]) dj eY bh hp.mixed rc.assign lp.assign (G.kh s.loops.length) ⟨tX lp.tmps lp.params args,s.push ⟨[],[]⟩⟩ st ⟨_,[]⟩ w .normal o6 iS rfl p1 (by rw[p2];exact o8) Kd (fun e=>by cases e) aid) fun ex a1 w1 oZ=>?_)
  obtain⟨rfl,G1,g1,g2,g3,g4,g5,_⟩:=oZ
  have fG:G1.loops[l]? =some r:=g2.loops l r F4 Xb
  obtain⟨YL,QX,q1,q2,q3⟩:=g1.YI g3 F4 fG
  have ajS:YL.ready=true:=by simpa[BJ,q1]using ajR
  obtain⟨s1,s2⟩:=q3.1 ajS
  have ajI:QX.pending=none:=by rw[q3.2.2.1,s2];rfl
  show∃w₂,(Instr.beginRound r).run P w1=.ok () w₂∧_
  refine⟨_,run_beginRound q2 s1,?_⟩
  have ajx:pG P G1 l {YL with ready:=false} {QX with state:=.busy}:=q3.Lf rfl rfl rfl rfl rfl rfl rfl rfl (fun e=>by cases e) (fun _=>by simp[s2]) (by simp[ajI,s2]) (by simp[s2])
  have Bf:=g1.turn q1 fG q2 (f:=fun p=>{p with ready:=false}) rfl ajx
  have ai8:(et st.sig l fun p=>{p with ready:=false}).loops.length=s.loops.length:=by simp[et,g3]
  have body:∀(e:cV) (aQ:St),exec call lf lp.body ⟨st.tmps,et st.sig l fun p=>{p with ready:=false}⟩=some (e,aQ)→(∀(ex:Exit) (a':Act) (w2:World) (G2:aG),ex=AQ e→At P B0 w0 G2 s.ag.length s.loops.length aQ.sig w2→bA s.ag.length s.loops.length (G.kh s.loops.length) G2→
      aQ.sig.loops.length=s.loops.length→G2.loops[l]? =some r→roundPost P r (fun e w'=>∃z,e=.returned z∧nJ P B0 w0 G kc nlc s s' w' x z) ex a' w2)→
      rc.body.wpIn (Fence.wide.inRound r) n P (roundPost P r (fun e w'=>∃z,e=.returned z∧nJ P B0 w0 G kc nlc s s' w' x z)) a1 (w1.putObj r (.loop {QX with state:=.busy})):=fun e aQ yT hq=>by
    refine wpIn_mono (Jn (k:=s.ag.length) (nl:=s.loops.length) (rd:=some r) (n:=n) (lf:=lf) (base:=[]) dj eY bh hp.mixed rc.body lp.body G1 ⟨st.tmps,et st.sig l fun p=>{p with ready:=false}⟩ aQ a1 _ e o7 Bf ai8 g4 (by rw[g5];rw[p2];exact o9) (Kd.mono g2) (fun e=>by cases e) yT) fun ex a2 w2 oZ=>?_
    obtain⟨hex,G2,k1,k2,k3,k4,k5,_⟩:=oZ
    exact hq ex a2 w2 G2 hex k1 (g2.trans k2) k3 (k2.loops l r F4 fG)
  have fin:∀(G2:aG) (aQ:St) (w2:World) (jump:Option Code) (f:dx→dx) (b:Bool),At P B0 w0 G2 s.ag.length s.loops.length aQ.sig w2→bA s.ag.length s.loops.length (G.kh s.loops.length) G2→aQ.sig.loops.length=s.loops.length→G2.loops[l]? =some r→
      (∀zt qf,pG P G2 l zt qf→pG P G2 l (f zt) {qf with state:=if jump.isNone then .ready else .done,pending:=jump})→jump.isNone=b→x=.v (.bool b)→s'=(et aQ.sig l f).pop→
      ∃v w',(Instr.endRound r jump).run P w2=.ok v w'∧∃z,(Ending.returned v)=.returned z∧nJ P B0 w0 G kc nlc s s' w' x z:=fun G2 aQ w2 jump f b k1 k2 k3 k4 hf hb hx hs=>by
    obtain⟨zt,qf,m1,m2,m3⟩:=k1.YI k3 F4 k4
    have rW:=k1.turn m1 k4 m2 (f:=f) rfl (hf zt qf m3)
    have Xj:(et aQ.sig l f).loops.length=s.loops.length:=by simp[et,k3]
    obtain⟨gr,hg,_⟩:=rW.cur
    obtain⟨t1,t2,t3,t4⟩:=vx rW Xj hg
    refine⟨_,_,run_endRound jump m2,_,rfl,?_⟩
    subst hs hx hb
    exact UD h nz k2 t1 (by simp[ae.pop,rW.len]) Xj t2 (fun d q hd e=>⟨q,by rw[t4 d hd];exact e,.refl q,rfl⟩) (fun _ _ e=>e) (.val _ rfl)
  split at hc
  · rename_i aQ yT
    injection hc with hc
    injection hc with hx hs
    refine body .normal aQ yT fun ex a' w2 G2 hex k1 k2 k3 k4=>?_
    subst hex
    exact fin G2 aQ w2 none (fun p=>{p with ready:=true,eF:=none}) true k1 k2 k3 k4 (fun zt qf m=>m.Lf rfl rfl rfl rfl rfl rfl rfl rfl (fun _=>⟨rfl,rfl⟩) (fun e=>by cases e) rfl (by simp)) rfl hx.symm hs.symm
  · rename_i e aQ aB yT
    injection hc with hc
    injection hc with hx hs
    refine body e aQ yT fun ex a' w2 G2 hex k1 k2 k3 k4=>?_
    subst hex
    cases e with
    |normal=>exact absurd rfl aB
    |exit id=>exact fin G2 aQ w2 (some (.exit id)) (fun p=>{p with ready:=false,eF:=some (.exit id)}) false k1 k2 k3 k4 (fun zt qf m=>m.Lf rfl rfl rfl rfl rfl rfl rfl rfl (fun e=>by cases e) (fun _=>rfl) rfl (by simp)) rfl hx.symm hs.symm
    |ret=>exact fin G2 aQ w2 (some .ret) (fun p=>{p with ready:=false,eF:=some .ret}) false k1 k2 k3 k4 (fun zt qf m=>m.Lf rfl rfl rfl rfl rfl rfl rfl rfl (fun e=>by cases e) (fun _=>rfl) rfl (by simp)) rfl hx.symm hs.symm
  · cases hc
theorem adN {AP:FuncId→Option aJ} {K:World→Prop} (hp:s8 P AP K) (hK:∀w,Below B0 w0 w→K w) {call:aZ} (dj:kM P B0 w0 call) (eY:nK P B0 w0 call) (bh:gX call) (lf:Nat):kM P B0 w0 (iO AP call lf):=by
 refine⟨fun G k nl s w f args xs res s' h nz iC ll hl hR hc=>?_,fun G k nl s w l r args xs res s' h nz iC ll aC nx hl hR hc=>atH hp dj eY bh h nz iC ll aC nx hl hR hc⟩
 unfold iO at hc
 simp only at hc
 split at hc
 ·rename_i np nt b rs own nY
  split at hc
  ·rename_i hlen
   split at hc
   ·rename_i st he
    exact U2 hp dj eY bh nY h nz iC ll hl hR hlen he (.inl rfl) hc
   ·rename_i st he
    exact U2 hp dj eY bh nY h nz iC ll hl hR hlen he (.inr rfl) hc
   ·cases hc
  ·cases hc
 ·rename_i F nY
  exact aqZ hp hK nY h hl hR hc
 ·cases hc
theorem adL {AP:FuncId→Option aJ} {K:World→Prop} (hp:s8 P AP K) {call:aZ} (dj:kM P B0 w0 call) (eY:nK P B0 w0 call) (bh:gX call) (lf:Nat):nK P B0 w0 (iO AP call lf):=by
 refine⟨fun G k nl s w f args xs res s' h aR hl hR hc=>?_,fun I s w f args xs res s' hl hR hc=>?_⟩
 ·unfold iO at hc
  simp only at hc
  split at hc
  ·rename_i np nt b rs own nY
   split at hc
   ·rename_i hlen
    split at hc
    ·rename_i st he
     obtain⟨l,hr,hc⟩:=aU.1 hc
     injection hc with h1 h2
     subst h1 h2
     exact X9 hp dj eY bh nY h aR hl hR hlen.1 he (.inl rfl) hr
    ·rename_i st he
     obtain⟨l,hr,hc⟩:=aU.1 hc
     injection hc with h1 h2
     subst h1 h2
     exact X9 hp dj eY bh nY h aR hl hR hlen.1 he (.inr rfl) hr
    ·cases hc
   ·cases hc
  ·cases hc
 ·unfold iO at hc
  simp only at hc
  split at hc
  ·rename_i F nY
   obtain⟨as,has,hc⟩:=cX.1 hc
   obtain⟨y,hy,hc⟩:=aU.1 hc
   injection hc with h1 h2
   subst h1 h2
   obtain⟨c1,c2⟩:=Jb has
   refine⟨rfl,hp.nat f F nY I w as xs y (by rw[hl,c1]) (fun i hi=>hR i (by omega) _ (c2 i (by omega) hi)) hy⟩
  ·cases hc
theorem UB {AP:FuncId→Option aJ} {K:World→Prop} (hp:s8 P AP K) (hK:∀w,Below B0 w0 w→K w):∀n,kM P B0 w0 (eT AP n)∧nK P B0 w0 (eT AP n)∧gX (eT AP n)
 |0=>⟨⟨fun _ _ _ _ _ _ _ _ _ _ _ _ _ _ _ _ h=>by simp[eT]at h,fun _ _ _ _ _ _ _ _ _ _ _ _ _ _ _ _ _ _ _ h=>by simp[eT]at h⟩,⟨fun _ _ _ _ _ _ _ _ _ _ _ _ _ _ h=>by simp[eT]at h,fun _ _ _ _ _ _ _ _ _ _ h=>by simp[eT]at h⟩,fun _ _ _ _ _ _ _ h=>by simp[eT]at h⟩
 |n+1=>
  have h:=UB hp hK n
  ⟨adN hp hK h.1 h.2.1 h.2.2 n,adL hp h.1 h.2.1 h.2.2 n,gX.step h.2.2 n⟩
end
end Go.Ax
/-
  From the executor's answer to the call of the model.
-/
namespace Go.Ax
open Go.RowKit
def K7 (w:World):aG:={I:=fun b i=>w.cell? ⟨b,i,none⟩,ag:=[],loops:=[],own:=fun _=>none}
def B8:ae:=⟨[],[],0,0⟩
theorem asX (P:Program) (w:World):cu P w.heap.size w (K7 w) B8 w:=
 ⟨fun _ _ _ e=>e,rfl,rfl,fun d r gr e=>by simp[B8]at e,fun l lp r e=>by simp[B8]at e,fun d gr e=>by simp[K7]at e,fun d d' gr bI _ e=>by simp[K7]at e,Below.refl _ _,aH _,fun b o e=>by cases e⟩
abbrev Reads (w:World):AV→Value→Prop:=bJ fun b i=>w.cell? ⟨b,i,none⟩
theorem ar7 {P:Program} {AP:FuncId→Option aJ} {K:World→Prop} (hp:s8 P AP K) {n:Nat} {f:FuncId} {args:List AV} {xs:Array Value} {w:World} {b:Bool} {s':ae} (hK:∀w',Below w.heap.size w w'→K w') (hl:xs.size=args.length) (hR:∀i (hi:i<args.length),Reads w args[i] (xs.getD i Go.undef))
  (hc:eT AP n (.fn f) args B8=some (.v (.bool b),s')):Calls P f xs w fun e w'=>e=.returned (.bool b)∧Below w.heap.size w w':=by
 have:=((UB (P:=P) (B0:=w.heap.size) (w0:=w) hp hK n).1.fn (K7 w) 0 0 B8 w f args xs _ s' (asX P w) (bg _) (aH _) (aH _) hl (fun i hi=>.cl (hR i hi)) hc).2
 refine Calls.mono this fun e w' he=>?_
 obtain⟨z,rfl,G',h1,_,_,_,h5⟩:=he
 rw[h5.gj]
 exact⟨rfl,h1.below⟩
end Go.Ax
