/-
  A call's arguments as the executor has them: from the row's reading.
-/
import Derived.Test.YthoojemlmhliaaaGreatDoorT4
import Derived.Deep.Slices
import Derived.OpenShut
import Derived.SizedLaws
import Derived.Attr
import Derived.ProofKit
import Derived.Lib.ItoaNum
import Derived.Lib.AtoiAll
set_option linter.unusedSimpArgs false
set_option linter.unusedVariables false
set_option maxRecDepth 100000
namespace Go.Ax
open Go.ChangeShapes Go.WideShapes
def IF (P:Program) (ok:TypeId→Bool) (size:Nat):Nat→List Field→Bool
 |off,[]=>decide (off=size)
 |off,f::r=>decide (f.offset=off)&&ok f.type&&IF P ok size (off+P.cellsOf f.type) r
def nh (P:Program):Nat→TypeId→Bool
 |0,_=>false
 |d+1,t=>match P.underlying t with
  |some .bool|some (.int _)|some .string=>decide (P.cellsOf t=1)
  |some (.slice e)=>decide (P.cellsOf t=1)&&decide (0<P.cellsOf e)&&nh P d e
  |some (.struct fs)=>IF P (nh P d) (P.cellsOf t) 0 fs.toList
  |some (.array n e)=>decide (n*P.cellsOf e=P.cellsOf t)&&nh P d e
  |_=>false
def ej (P:Program):Nat→TypeId→List AV→Prop
 |0,_,_=>False
 |d+1,t,bM=>match P.underlying t with
  |some .bool=>∃b,bM=[.v (.bool b)]
  |some (.int k)=>∃x,bM=[.v (.int k x)]∧(Lit.int k x).wf=true
  |some .string=>∃s:ByteArray,bM=[.v (.string s)]∧s.size≤maxLen
  |some (.slice e)=>∃o rows,bM=[.slice o (P.cellsOf e) rows]∧(o=.any∨(o=.aA∧rows=[]))∧rows.length≤maxLen∧(∀r∈rows,r.length=P.cellsOf e∧ej P d e r)∧rows.length*P.bytesOf e≤reachBytes
  |some (.struct fs)=>∃ps:List (List AV),bM=ps.flatten∧ps.length=fs.size∧∀(i:Nat) (f:Field) (p:List AV),fs[i]? =some f→ps[i]? =some p→p.length=P.cellsOf f.type∧ej P d f.type p
  |some (.array n e)=>∃ps:List (List AV),bM=ps.flatten∧ps.length=n∧∀p∈ps,p.length=P.cellsOf e∧ej P d e p
  |_=>False
structure RL (w:World) (bM:List AV) (cs:List Value):Prop where
 len:bM.length=cs.length
 get:∀(i:Nat) (a:AV) (c:Value),bM[i]? =some a→cs[i]? =some c→Reads w a c∧a.bK=true
theorem RL.nil {w:World}:RL w [] []:=⟨rfl,fun i a c h=>by simp at h⟩
theorem RL.one {w:World} {a:AV} {c:Value} (h:Reads w a c) (hc:a.bK=true):RL w [a] [c]:=⟨rfl,fun i x y h1 h2=>by
 cases i with
 |zero=>simp at h1 h2;subst h1 h2;exact⟨h,hc⟩
 |succ i=>simp at h1⟩
theorem RL.append {w:World} {a b:List AV} {c d:List Value} (h:RL w a c) (k:RL w b d):RL w (a++b) (c++d):=⟨by simp[h.len,k.len],fun i x y h1 h2=>by
 by_cases hi:i<a.length
 ·rw[dG hi]at h1
  rw[dG (by rw[←h.len];exact hi)]at h2
  exact h.get i x y h1 h2
 ·rw[jy (by omega)]at h1
  rw[jy (by rw[←h.len];omega),←h.len]at h2
  exact k.get _ x y h1 h2⟩
section
variable{H:Type} {enc:TypeId×Value→H} {P:Program} {w:World}
theorem adV {α:Type} (l:List α) (off n:Nat):(l.drop off).take n++l.drop (off+n)=l.drop off:=by
 rw[←List.drop_drop];exact DL _ _
theorem abT {d size:Nat} {cs:List Value} {n:Nat} (ih:∀(t:TypeId) (fuel:Nat) (cs:List Value) (x:DataW H×List MemPlace),nh P d t=true→DataW.trod enc P w 0 (fun _=>true) true fuel t cs=some x→(∀n∈x.1.weights P t,n≤reachBytes)→∃bM,RL w bM cs∧cs.length=P.cellsOf t∧ej P d t bM) (hl:cs.length=size):
  ∀(fs:List Field) (off:Nat),IF P (nh P d) size off fs=true→(∀f∈fs,∃y,DataW.trod enc P w 0 (fun _=>true) true n f.type ((cs.drop f.offset).take (P.cellsOf f.type))=some y∧∀n∈y.1.weights P f.type,n≤reachBytes)→
   ∃ps:List (List AV),RL w ps.flatten (cs.drop off)∧ps.length=fs.length∧∀(i:Nat) (f:Field) (p:List AV),fs[i]? =some f→ps[i]? =some p→p.length=P.cellsOf f.type∧ej P d f.type p
 |[],off,ht,_=>by
  have:off=size:=by simpa[IF]using ht
  subst this
  refine⟨[],?_,rfl,fun i f p h=>by simp at h⟩
  rw[←hl,fe];exact .nil
 | f :: r, off, ht, hf => by
  simp only[IF,dE,fB]at ht
  obtain⟨⟨rfl,bz⟩,hr⟩:=ht
  obtain⟨y,hy,R5⟩:=hf f (Ar ..)
  obtain⟨bM,h1,h2,h3⟩:=ih _ _ _ _ bz hy R5
  obtain⟨ps,k1,k2,k3⟩:=abT ih hl r _ hr (fun g hg=>hf g (cD _ hg))
  refine⟨bM::ps,?_,by simp[k2],fun i g p hg hp=>?_⟩
  ·rw[qO,←adV cs f.offset (P.cellsOf f.type)]
   exact h1.append k1
  ·cases i with
   |zero=>simp at hg hp;subst hg hp;exact⟨by rw[h1.len,h2],h3⟩
   |succ i=>simp at hg hp;exact k3 i g p hg hp
theorem abS {d:Nat} {cs:List Value} {n:Nat} {e:TypeId} (ih:∀(t:TypeId) (fuel:Nat) (cs:List Value) (x:DataW H×List MemPlace),nh P d t=true→DataW.trod enc P w 0 (fun _=>true) true fuel t cs=some x→(∀n∈x.1.weights P t,n≤reachBytes)→∃bM,RL w bM cs∧cs.length=P.cellsOf t∧ej P d t bM) (bz:nh P d e=true):
  ∀(k i:Nat),cs.length=(i+k)*P.cellsOf e→(∀j,i≤j→j<i+k→∃y,DataW.trod enc P w 0 (fun _=>true) true n e ((cs.drop (j*P.cellsOf e)).take (P.cellsOf e))=some y∧∀n∈y.1.weights P e,n≤reachBytes)→
   ∃ps:List (List AV),RL w ps.flatten (cs.drop (i*P.cellsOf e))∧ps.length=k∧∀p∈ps,p.length=P.cellsOf e∧ej P d e p
 |0,i,hl,_=>by
  refine⟨[],?_,rfl,fun p h=>by simp at h⟩
  rw[show i*P.cellsOf e=cs.length by rw[hl];simp,fe];exact .nil
 | k + 1, i, hl, hf => by
  obtain⟨y,hy,R5⟩:=hf i (aI _) (by omega)
  obtain⟨bM,h1,h2,h3⟩:=ih _ _ _ _ bz hy R5
  obtain⟨ps,k1,k2,k3⟩:=abS ih bz k (i+1) (by rw[hl];congr 1;omega) (fun j h1 h2=>hf j (by omega) (by omega))
  refine⟨bM::ps,?_,by simp[k2],fun p hp=>?_⟩
  ·rw[qO,←adV cs (i*P.cellsOf e) (P.cellsOf e)]
   rw[Nat.succ_mul]at k1
   exact h1.append k1
  ·rcases dr.1 hp with rfl|hp
   ·exact⟨by rw[h1.len,h2],h3⟩
   ·exact k3 p hp
theorem T6 {e:TypeId}:∀{l:List (DataW H)} {d:DataW H},d∈l→∀n∈d.weights P e,n∈DataW.weightsAll P e l
 |x::l,d,h,n,hn=>by
  simp only[DataW.weightsAll,dR]
  rcases dr.1 h with rfl|h
  ·exact .inl hn
  ·exact .inr (T6 h n hn)
 |[],d,h,_,_=>by cases h
theorem abU : ∀ (d : Nat) (t : TypeId) (fuel : Nat) (cs : List Value) (x : DataW H × List MemPlace), nh P d t = true → DataW.trod enc P w 0 (fun _ => true) true fuel t cs = some x → (∀ n ∈ x.1.weights P t, n ≤ reachBytes) →
    ∃bM,RL w bM cs∧cs.length=P.cellsOf t∧ej P d t bM
  |0,t,fuel,cs,x,h,_,_=>by simp[nh]at h
  | d + 1, t, fuel, cs, x, bz, h, mw => by
    have ih:=abU d
    unfold nh at bz
    cases hu:P.underlying t with
    |none=>rw[hu]at bz;cases bz
    | some u =>
      rw[hu]at bz
      cases u with
      | bool =>
        obtain⟨b,rfl,_⟩:=DataW.trod_bool hu h
        exact⟨[.v (.bool b)],.one (.v rfl) rfl,by simp only[fB]at bz;simp[bz],by simp only[ej,hu];exact⟨b,rfl⟩⟩
      | int k =>
        obtain⟨n,rfl,_,hw⟩:=DataW.trod_int hu h
        exact⟨[.v (.int k n)],.one (.v rfl) rfl,by simp only[fB]at bz;simp[bz],by simp only[ej,hu];exact⟨n,rfl,hw⟩⟩
      | string =>
        obtain⟨s,rfl,_,hw⟩:=DataW.trod_string hu h
        exact⟨[.v (.string s)],.one (.v rfl) rfl,by simp only[fB]at bz;simp[bz],by simp only[ej,hu];exact⟨s,rfl,hw⟩⟩
      | struct fs =>
        obtain⟨xs,n,_,uu,hl,qA,dW⟩:=DataW.trod_struct hu h
        subst uu
        have mw:∀n∈DataW.weightsEach P (fs.toList.map (·.type)) (xs.map (·.1)),n≤reachBytes:=fun n hn=>mw n (by simpa[DataW.weights,hu]using hn)
        obtain⟨ps,k1,k2,k3⟩:=abT ih hl fs.toList 0 bz (fun f hf=>by
          obtain⟨i,hi⟩:=oZ hf
          have br:fs[i]? =some f:=by simpa using hi
          have aB:i<xs.length:=by
            have:=(bI.1 hi).1
            rw[qA];simpa using this
          exact⟨xs[i],by rw[dW i f br,dq aB],fun n hn=>mw n (DataW.weights_mem_each (j:=i) (t:=f.type) (d:=xs[i].1) (by rw[iL,hi];rfl) (by rw[iL,dq aB];rfl) n hn)⟩)
        exact⟨ps.flatten,by simpa using k1,hl,by simp only[ej,hu];exact⟨ps,rfl,by simpa using k2,fun i f p hf hp=>k3 i f p (by simpa using hf) hp⟩⟩
      | array n e =>
        simp only[dE,fB]at bz
        obtain⟨xs,m,_,uu,hl,qA,dW⟩:=DataW.trod_array hu h
        subst uu
        have mw:∀n∈DataW.weightsAll P e (xs.map (·.1)),n≤reachBytes:=fun n hn=>mw n (by simpa[DataW.weights,hu]using hn)
        obtain⟨ps,k1,k2,k3⟩:=abS (n:=m) (cs:=cs) ih bz.2 n 0 (by rw[hl,←bz.1,gU]) (fun j _ hj=>by
          have aB:j<xs.length:=by omega
          exact⟨xs[j],by rw[dW j (by omega),dq aB],fun n hn=>mw n (T6 (cN.2 ⟨xs[j],iz aB,rfl⟩) n hn)⟩)
        exact⟨ps.flatten,by simpa using k1,hl,by simp only[ej,hu];exact⟨ps,rfl,k2,k3⟩⟩
      | slice e =>
        simp only[dE,fB]at bz
        obtain⟨⟨gl,xX⟩,anh⟩:=bz
        rcases Deep.open_slice hu h with⟨rfl,_⟩|⟨a,len,cap,m,n,D,Pl,rfl,_,L4,sE,hm,uu,hx⟩
        · exact⟨[.slice .aA (P.cellsOf e) []],.one .aA rfl,by simp[gl],by simp only[ej,hu];exact⟨_,_,rfl,.inr ⟨rfl,rfl⟩,by simp,fun r hr=>by simp at hr,by simp⟩⟩
        · subst uu
          have aaj:∀n,n=((((List.range len).map D).length+((List.range (m-len)).map fun j=>D (len+j)).length)*P.bytesOf e)∨n∈DataW.weightsAll P e ((List.range len).map D)→n≤reachBytes:=fun n hn=>mw n (by
            simp only[DataW.weights,hu,dr,dR]
            rcases hn with hn|hn
            · exact .inl hn
            · exact .inr (.inl hn))
          simp only[cI]at hm
          have hm':cap=m:=hm.symm
          subst hm'
          by_cases h0:cap=0
          · subst h0
            have:len=0:=by omega
            subst this
            exact⟨[.slice .any (P.cellsOf e) []],.one (.empty (.inl rfl)) rfl,by simp[gl],by simp only[ej,hu];exact⟨_,_,rfl,.inl rfl,by simp,fun r hr=>by simp at hr,by simp⟩⟩
          · obtain ⟨blk, off, spot⟩ := a
            have anS:spot=none:=by
              obtain⟨cs',h1,_⟩:=hx 0 (by omega)
              obtain⟨_,nM,hg⟩:=World.cells?_some h1
              have:=hg 0 xX
              rw[dq (by omega)]at this
              simpa[Addr.add]using World.cell?_spot this
            subst anS
            obtain⟨F,hF⟩:=Deep.choose_lt (α:=List AV×List Value) (n:=len) (p:=fun i q=>w.cells? 0 ((⟨blk,off,none⟩:Addr).add (i*P.cellsOf e)) (P.cellsOf e)=some q.2∧RL w q.1 q.2∧q.2.length=P.cellsOf e∧ej P d e q.1) (fun i hi=>by
              obtain⟨cs',h1,h2⟩:=hx i (by omega)
              obtain⟨bM,k1,k2,k3⟩:=ih _ _ _ _ anh h2 (fun n hn=>aaj n (.inr (T6 (cN.2 ⟨i,pW.2 hi,rfl⟩) n hn)))
              exact⟨(bM,cs'),h1,k1,k2,k3⟩)
            have nR:∀i (hi:i<((List.range len).map fun i=>(F i).1).length),((List.range len).map fun i=>(F i).1)[i]=(F i).1:=fun i hi=>by simp
            have bw:∀i,i<len→∀j,j<P.cellsOf e→w.cell? ⟨blk,off+i*P.cellsOf e+j,none⟩=(F i).2[j]? :=by
              intro i hi j hj
              obtain⟨_,_,hg⟩:=World.cells?_some (hF i hi).1
              have:=hg j hj
              rw[add_plain,add_plain]at this
              exact this
            refine⟨[.slice .any (P.cellsOf e) ((List.range len).map fun i=>(F i).1)],.one ?_ rfl,by simp[gl],?_⟩
            · have hlen : ((List.range len).map fun i => (F i).1).length = len := by simp
              have:=bN.slice (I:=fun b i=>w.cell? ⟨b,i,none⟩) (o:=.any) (es:=P.cellsOf e) (xs:=(List.range len).map fun i=>(F i).1) (blk:=blk) (off:=off) (cap:=cap) (fun i j=>((F i).2).getD j Go.undef) (.inl rfl) (by rw[hlen];exact L4)
                (fun r hr=>by
                  obtain⟨i,hi,rfl⟩:=cN.1 hr
                  have:=hF i (by simpa using hi)
                  rw[this.2.1.len,this.2.2.1])
                (fun r hr c hc=>by
                  obtain⟨i,hi,rfl⟩:=cN.1 hr
                  have ri:=hF i (by simpa using hi)
                  obtain⟨j,hj⟩:=oZ hc
                  have nL:=(bI.1 hj).1
                  exact(ri.2.1.get j c ((F i).2[j]'(by rw[←ri.2.1.len];exact nL)) hj (dq _)).2)
                (fun i hi j hj=>by
                  have br:i<len:=by simpa using hi
                  have ri:=hF i br
                  rw[nR i hi]at hj
                  have dx:j<(F i).2.length:=by rw[←ri.2.1.len];exact hj
                  rw[bw i br j (by rw[←ri.2.2.1];exact dx),dq dx]
                  simp[List.getD,dq dx])
                (fun i hi j hj=>by
                  have br:i<len:=by simpa using hi
                  have ri:=hF i br
                  have Cu:j<(F i).1.length:=by rw[nR i hi]at hj;exact hj
                  have dx:j<(F i).2.length:=by rw[←ri.2.1.len];exact Cu
                  have hg:=(ri.2.1.get j ((F i).1[j]) ((F i).2[j]) (dq Cu) (dq dx)).1
                  have e1:((List.range len).map fun i=>(F i).1)[i][j]=(F i).1[j]:=by simp
                  rw[e1,show((F i).2).getD j Go.undef=(F i).2[j]by simp[List.getD,dq dx]]
                  exact hg)
              rw[hlen]at this
              exact this
            · simp only [ej, hu]
              exact⟨_,_,rfl,.inl rfl,by simp;omega,fun r hr=>by
                obtain⟨i,hi,rfl⟩:=cN.1 hr
                have ri:=hF i (by simpa using hi)
                exact⟨by rw[ri.2.1.len,ri.2.2.1],ri.2.2.2⟩,by
                have:=aaj _ (.inl rfl)
                simp only[cg,tq]at this⊢
                exact mN (pd _ (by omega)) this⟩
      |_=>cases bz
end
end Go.Ax
/-
  Computing with the executor: the steps, one by one.
-/
namespace Go.Ax.Sx
structure Ok (s:ae):Prop where
 ro:s.ro≤s.ag.length
 cq:s.cq≤s.loops.length
theorem Ok.push {s:ae} (h:Ok s) (r:Rec):Ok (s.push r):=⟨by have:=h.ro;simp[ae.push];omega,h.cq⟩
@[simp] theorem pop_push (s:ae) (r:Rec):(s.push r).pop=s:=by simp[ae.push,ae.pop]
@[simp] theorem gD (s:ae) (r:Rec):(s.push r).cur=s.ag.length:=by simp[ae.push,ae.cur]
theorem ib (s:ae) (r:Rec) (b:Nat):(s.push r).box s.ag.length b=r.boxes[b]? :=by simp[ae.push,ae.box]
theorem vW (s:ae) (r:Rec):(s.push r).cE s.ag.length=r.boxes.length:=by simp[ae.push,ae.cE]
theorem Aj (s:ae) (r:Rec) (g:Nat):(s.push r).tok s.ag.length g=(r.toks[g]?).join:=by simp[ae.push,ae.tok]
theorem pO (s:ae) (r:Rec):(s.push r).j4 s.ag.length=r.toks.length:=by simp[ae.push,ae.j4]
theorem vZ (s:ae) (r:Rec) (f:Rec→Rec):(s.push r).bG s.ag.length f=s.push (f r):=by
 simp only[ae.push,ae.bG,ae.mk.injEq,DW]
 apply mM
 intro i
 rw[wG]
 by_cases h:i<s.ag.length
 ·rw[dG h,dG h]
  have:¬s.ag.length=i:=by omega
  simp[this]
 ·rw[jy (by omega),jy (by omega)]
  by_cases h':s.ag.length=i
  ·subst h';simp
  ·have e:i-s.ag.length=(i-s.ag.length-1)+1:=by omega
   rw[e];simp
theorem afh (s:ae) (r:Rec) (cs:List AV):(s.push r).tF s.ag.length cs=s.push ⟨r.boxes++[cs],r.toks⟩:=by rw[ae.tF,vZ]
theorem TH (s:ae) (r:Rec) (b:Nat) (cs:List AV):(s.push r).dQ s.ag.length b cs=s.push ⟨r.boxes.set b cs,r.toks⟩:=by rw[ae.dQ,vZ]
theorem oC (s:ae) (r:Rec) (n:Nat):(s.push r).lB s.ag.length n=s.push ⟨r.boxes,r.toks++[some n]⟩:=by rw[ae.lB,vZ]
theorem Iu (s:ae) (r:Rec) (g:Nat) (n:Option Nat):(s.push r).mH s.ag.length g n=s.push ⟨r.boxes,r.toks.set g n⟩:=by rw[ae.mH,vZ]
theorem M8 (s:ae) (r:Rec):(s.push r).ro=s.ro:=rfl
section
variable{call:bj} {ρ:Nat→AV} {m:ae} {t:Nat} {rest:List bt}
noncomputable def andThen (call:bj) (d:Option Nat) (rest:List bt) (ρ:Nat→AV) (r:Option (AV×ae)):Option St:=
 r.bind fun p=>ops call rest ⟨kL ρ d p.1,p.2⟩
theorem abX {d:Option Nat} {op:cm}:ops call (⟨d,none,op⟩::rest) ⟨ρ,m⟩=andThen call d rest ρ (aO call (aD ρ) m op):=by
 simp only[ops,kO,andThen,cI]
 cases aO call (aD ρ) m op<;>rfl
def l3 {β:Type} (x:AV) (f:Bool→β) (d:β):β:=
 match x with
 |.v (.bool b)=>f b
 |_=>d
theorem MU {β:Type} {b:Bool} {f:Bool→β} {d:β}:l3 (.v (.bool b)) f d=f b:=rfl
theorem atU {β:Type} {x x':AV} {f:Bool→β} {d:β} (h:x=x'):l3 x f d=l3 x' f d:=by rw[h]
theorem av2:put t (ρ t) ρ=ρ:=by
 funext u;unfold put;split
 ·rename_i h;rw[h]
 ·rfl
theorem atY {d:Option Nat} {op:cm} {b:Bool}:ops call (⟨d,some (t,b),op⟩::rest) ⟨ρ,m⟩=
  l3 (ρ t) (fun c=>cond c
   (cond b (andThen call d rest (put t (.v (.bool true)) ρ) (aO call (aD (put t (.v (.bool true)) ρ)) m op)) (ops call rest ⟨kL (put t (.v (.bool true)) ρ) d AV.undef,m⟩))
   (cond b (ops call rest ⟨kL (put t (.v (.bool false)) ρ) d AV.undef,m⟩) (andThen call d rest (put t (.v (.bool false)) ρ) (aO call (aD (put t (.v (.bool false)) ρ)) m op))))
   (ops call rest ⟨kL ρ d AV.undef,m⟩):=by
 have hw:∀b',Ds b (.v (.bool b'))=(b'==b):=fun _=>rfl
 by_cases h:∃c,ρ t=.v (.bool c)
 ·obtain⟨c,h⟩:=h
  have e:put t (.v (.bool c)) ρ=ρ:=by rw[←h];exact av2
  simp only[ops,kO,andThen,h,hw,l3]
  cases c<;>cases b<;>simp[e]<;>(cases aO call (aD ρ) m op<;>rfl)
 ·have h1:Ds b (ρ t)=false:=by
   cases hx:ρ t with
   |v x=>cases x with
    |bool c=>exact absurd ⟨c,hx⟩ h
    |_=>rfl
   |_=>rfl
  have h2:∀{β:Type} (f:Bool→β) (d:β),l3 (ρ t) f d=d:=by
   intro β f d
   cases hx:ρ t with
   |v x=>cases x with
    |bool c=>exact absurd ⟨c,hx⟩ h
    |_=>rfl
   |_=>rfl
  simp[ops,kO,h1,h2]
end
inductive K where
 |c (a:au)
 |blk (id:Nat)
 |lp (a:au)
section
variable(AP:FuncId→Option aE) (Fin:c8→St→Option (AV×ae))
noncomputable def iS:List K→c8→St→Option (AV×ae)
 |[],e,st=>Fin e st
 |.c a::ks,e,st=>match e with
  |.normal=>(fF AP a st).bind fun p=>iS ks p.1 p.2
  |e=>iS ks e st
 |.blk id::ks,e,st=>match e with
  |.exit j=>if j=id then iS ks .normal st else iS ks (.exit j) st
  |e=>iS ks e st
 |.lp a::ks,e,st=>match e with
  |.normal=>(fF AP (.loop a) st).bind fun p=>iS ks p.1 p.2
  |e=>iS ks e st
noncomputable def go (ks:List K) (st:St):Option (AV×ae):=iS AP Fin ks .normal st
noncomputable def dB (l:List bt) (ks:List K) (st:St):Option (AV×ae):=(ops (aw AP) l st).bind fun aM=>go AP Fin ks aM
noncomputable def tU (id:Nat) (ks:List K) (st:St):Option (AV×ae):=iS AP Fin ks (.exit id) st
noncomputable def YN (ks:List K) (st:St):Option (AV×ae):=iS AP Fin ks .ret st
noncomputable def rf (d:Option Nat) (l:List bt) (ks:List K) (ρ:Nat→AV) (r:Option (AV×ae)):Option (AV×ae):=r.bind fun p=>dB AP Fin l ks ⟨kL ρ d p.1,p.2⟩
def aR (rs:List iy) (own:Bool):c8→St→Option (AV×ae)
 |.exit _,_=>none
 |_,st=>finish rs own st
def jC (l:Nat) (e:c8) (st:St):Option (AV×ae):=endRound l (some (e,st))
variable{AP Fin} {ks:List K} {st:St} {a b:au} {ρ:Nat→AV} {m:ae} {rest:List bt}
theorem akL:go AP Fin [] st=Fin .normal st:=rfl
theorem akE {id:Nat}:tU AP Fin id [] st=Fin (.exit id) st:=rfl
theorem G7:∀{ks:List K},YN AP Fin ks st=Fin .ret st
 |[]=>rfl
 |.c _::ks=>(G7 (ks:=ks):_)
 |.blk _::ks=>(G7 (ks:=ks):_)
 |.lp _::ks=>(G7 (ks:=ks):_)
theorem akC {id:Nat}:tU AP Fin id (.c a::ks) st=tU AP Fin id ks st:=rfl
theorem akD {id:Nat}:tU AP Fin id (.lp a::ks) st=tU AP Fin id ks st:=rfl
theorem akB {id j:Nat}:tU AP Fin id (.blk j::ks) st=if id=j then go AP Fin ks st else tU AP Fin id ks st:=rfl
theorem go_skip:go AP Fin (.c .skip::ks) st=go AP Fin ks st:=by simp[go,iS,aw1]
theorem akI {id:Nat}:go AP Fin (.c (.exit id)::ks) st=tU AP Fin id ks st:=by simp[go,iS,awV,tU]
theorem go_ret:go AP Fin (.c .ret::ks) st=Fin .ret st:=by
 rw[←G7 (AP:=AP) (Fin:=Fin) (ks:=ks) (st:=st)];simp[go,iS,awZ,YN]
theorem akF {id:Nat}:go AP Fin (.blk id::ks) st=go AP Fin ks st:=rfl
theorem akK:go AP Fin (.lp a::ks) st=go AP Fin (.c (.loop a)::ks) st:=rfl
theorem go_region {d:Bool} {l:List bt}:go AP Fin (.c (.region d l)::ks) st=dB AP Fin l ks st:=by
 simp only[go,iS,awY,dB,Option.bind_map];rfl
theorem akM:go AP Fin (.c (.seq a b)::ks) st=go AP Fin (.c a::.c b::ks) st:=by
 simp only[go,iS,aw0]
 cases h:fF AP a st with
 |none=>rfl
 |some p=>obtain⟨e,aM⟩:=p;cases e<;>rfl
theorem akG {id:Nat}:go AP Fin (.c (.block id a)::ks) st=go AP Fin (.c a::.blk id::ks) st:=by
 simp only[go,iS,awT]
 cases h:fF AP a st with
 |none=>rfl
 |some p=>
  obtain⟨e,aM⟩:=p
  cases e with
  |exit j=>by_cases hj:j=id<;>simp[hj]
  |_=>rfl
theorem go_loop:go AP Fin (.c (.loop a)::ks) st=go AP Fin (.c a::.lp a::ks) st:=by
 simp only[go,iS]
 rw[awW]
 cases h:fF AP a st with
 |none=>rfl
 |some p=>obtain⟨e,aM⟩:=p;cases e<;>rfl
theorem akH {x:aJ}:go AP Fin (.c (.cond x a b)::ks) ⟨ρ,m⟩=l3 (aD ρ x) (fun t=>cond t (go AP Fin (.c a::ks) ⟨ρ,m⟩) (go AP Fin (.c b::ks) ⟨ρ,m⟩)) none:=by
 simp only[go,iS,awU,l3]
 cases aD ρ x with
 |v y=>cases y with
  |bool t=>cases t<;>rfl
  |_=>rfl
 |_=>rfl
theorem aku:dB AP Fin [] ks st=go AP Fin ks st:=rfl
theorem YM {d:Option Nat} {op:cm}:dB AP Fin (⟨d,none,op⟩::rest) ks ⟨ρ,m⟩=rf AP Fin d rest ks ρ (aO (aw AP) (aD ρ) m op):=by
 simp only[dB,abX,andThen,rf]
 cases aO (aw AP) (aD ρ) m op<;>rfl
theorem G6 {d:Option Nat} {op:cm} {t:Nat} {b:Bool}:dB AP Fin (⟨d,some (t,b),op⟩::rest) ks ⟨ρ,m⟩=
  l3 (ρ t) (fun c=>cond c
   (cond b (dB AP Fin (⟨d,none,op⟩::rest) ks ⟨put t (.v (.bool true)) ρ,m⟩) (dB AP Fin rest ks ⟨kL (put t (.v (.bool true)) ρ) d AV.undef,m⟩))
   (cond b (dB AP Fin rest ks ⟨kL (put t (.v (.bool false)) ρ) d AV.undef,m⟩) (dB AP Fin (⟨d,none,op⟩::rest) ks ⟨put t (.v (.bool false)) ρ,m⟩)))
   (dB AP Fin rest ks ⟨kL ρ d AV.undef,m⟩):=by
 simp only[dB,atY,abX]
 have:∀(x:AV) (f:Bool→Option St) (d:Option St) (g:St→Option (AV×ae)),(l3 x f d).bind g=l3 x (fun c=>(f c).bind g) (d.bind g):=by
  intro x f d g
  cases x with
  |v y=>cases y<;>rfl
  |_=>rfl
 rw[this]
 congr 1
 funext c
 cases c<;>cases b<;>rfl
theorem akt {op:cm} {t:Nat}:dB AP Fin (⟨none,some (t,true),op⟩::rest) ks ⟨ρ,m⟩=
  l3 (ρ t) (fun c=>cond c (dB AP Fin (⟨none,none,op⟩::rest) ks ⟨put t (.v (.bool true)) ρ,m⟩) (dB AP Fin rest ks ⟨put t (.v (.bool false)) ρ,m⟩)) (dB AP Fin rest ks ⟨ρ,m⟩):=by
 rw[G6];rfl
theorem aks {op:cm} {t:Nat}:dB AP Fin (⟨none,some (t,false),op⟩::rest) ks ⟨ρ,m⟩=
  l3 (ρ t) (fun c=>cond c (dB AP Fin rest ks ⟨put t (.v (.bool true)) ρ,m⟩) (dB AP Fin (⟨none,none,op⟩::rest) ks ⟨put t (.v (.bool false)) ρ,m⟩)) (dB AP Fin rest ks ⟨ρ,m⟩):=by
 rw[G6];rfl
def eT:List (Nat×AV)→(Nat→AV)→Nat→AV
 |[],ρ=>ρ
 |(d,x)::ws,ρ=>put d x (eT ws ρ)
def gx:List (Nat×AV)→List (Nat×AV)
 |[]=>[]
 |(d,_)::ws=>(d,AV.undef)::gx ws
noncomputable def vh (AP:FuncId→Option aE) (Fin:c8→St→Option (AV×ae)) (c:Bool) (t:Nat) (b:Bool) (d:Nat) (op:cm) (l:List bt) (ks:List K) (ρ:Nat→AV) (m:ae):Option (AV×ae):=
 cond (c==b) (dB AP Fin (⟨some d,none,op⟩::l) ks ⟨put t (.v (.bool b)) ρ,m⟩) (dB AP Fin l ks ⟨put d AV.undef (put t (.v (.bool !b)) ρ),m⟩)
theorem YL {d:Nat} {op:cm} {t:Nat} {b:Bool}:dB AP Fin (⟨some d,some (t,b),op⟩::rest) ks ⟨ρ,m⟩=
  l3 (ρ t) (fun c=>vh AP Fin c t b d op rest ks ρ m) (dB AP Fin rest ks ⟨put d AV.undef ρ,m⟩):=by
 rw[G6]
 congr 1
 funext c
 cases c<;>cases b<;>rfl
theorem aiB {d t:Nat} {op:cm}:vh AP Fin true t true d op rest ks ρ m=dB AP Fin (⟨some d,none,op⟩::rest) ks ⟨put t (.v (.bool true)) ρ,m⟩:=rfl
theorem aiA {d t:Nat} {op:cm}:vh AP Fin false t false d op rest ks ρ m=dB AP Fin (⟨some d,none,op⟩::rest) ks ⟨put t (.v (.bool false)) ρ,m⟩:=rfl
theorem aiz {d t:Nat} {op:cm}:vh AP Fin false t true d op rest ks ρ m=dB AP Fin rest ks ⟨put d AV.undef (put t (.v (.bool false)) ρ),m⟩:=rfl
theorem aiy {d t:Nat} {op:cm}:vh AP Fin true t false d op rest ks ρ m=dB AP Fin rest ks ⟨put d AV.undef (put t (.v (.bool true)) ρ),m⟩:=rfl
theorem akA {t:Nat} {x:AV} {m':ae}:rf AP Fin (some t) rest ks ρ (some (x,m'))=dB AP Fin rest ks ⟨put t x ρ,m'⟩:=rfl
theorem av1 {t:Nat} {x y:AV}:put t x (put t y ρ)=put t x ρ:=by
 funext u;unfold put;by_cases h:u=t<;>simp[h]
theorem Il {d t:Nat} {x y:AV} (h:(d==t)=false):put d x (put t y ρ)=put t y (put d x ρ):=by
 have h:d≠t:=by simpa using h
 funext u
 unfold put
 by_cases h1:u=d
 ·subst h1;simp[h]
 ·by_cases h2:u=t
  ·subst h2;simp[h1]
  ·simp[h1,h2]
def qC (c b:Bool):List (Nat×AV)→List (Nat×AV)
 |[]=>[]
 |(d,x)::ws=>(d,cond b (cond c x AV.undef) (cond c AV.undef x))::qC c b ws
theorem SX (c b:Bool):∀ws:List (Nat×AV),qC c b ws=cond (c==b) ws (gx ws)
 |[]=>by cases c<;>cases b<;>rfl
 |(d,x)::ws=>by rw[qC,SX c b ws];cases c<;>cases b<;>rfl
structure GF where
 c:Bool
 t:Nat
 b:Bool
 ws:List (Nat×AV)
def mf:List GF→(Nat→AV)→Nat→AV
 |[],ρ=>ρ
 |f::fs,ρ=>put f.t (.v (.bool f.b)) (eT f.ws (mf fs ρ))
def ju:List GF→Bool
 |[]=>true
 |f::fs=>ju fs&&(f.c==f.b)
def iR:List GF→(Nat→AV)→Nat→AV
 |[],ρ=>ρ
 |f::fs,ρ=>cond (ju fs) (cond (f.c==f.b) (put f.t (.v (.bool f.b)) (eT f.ws (iR fs ρ))) (put f.t (.v (.bool !f.b)) (eT (gx f.ws) (iR fs ρ)))) (eT (gx f.ws) (iR fs ρ))
def fh (t:Nat):List (Nat×AV)→Bool
 |[]=>false
 |(d,_)::ws=>decide (t=d)||fh t ws
def lookW (t:Nat):List (Nat×AV)→AV
 |[]=>AV.undef
 |(d,x)::ws=>if t=d then x else lookW t ws
def okF:List GF→Bool
 |[]=>true
 |[_]=>true
 |f::g::fs=>fh f.t g.ws&&!decide (f.t=g.t)&&okF (g::fs)
theorem Jj:∀{fs:List GF} {ρ:Nat→AV},ju fs=true→iR fs ρ=mf fs ρ
 |[],_,_=>rfl
 |f::fs,ρ,h=>by
  simp only[ju,dE]at h
  simp only[iR,mf,h.1,h.2,fK,Jj h.1]
theorem aa6 {t:Nat}:∀{ws:List (Nat×AV)} {ρ:Nat→AV},fh t ws=true→eT ws ρ t=lookW t ws
 |[],_,h=>by simp[fh]at h
 | (d, x) :: ws, ρ, h => by
  simp only[eT,put,lookW]
  by_cases e:t=d
  ·rw[aj e,aj e]
  ·rw[ak e,ak e]
   simp only[fh,e,se,nq]at h
   exact aa6 h
theorem Np {t:Nat}:∀{ws:List (Nat×AV)} {ρ:Nat→AV},fh t ws=true→eT (gx ws) ρ t=AV.undef
 |[],_,h=>by simp[fh]at h
 | (d, x) :: ws, ρ, h => by
  simp only[gx,eT,put]
  by_cases e:t=d
  ·rw[aj e]
  ·rw[ak e]
   simp only[fh,e,se,nq]at h
   exact Np h
theorem aeb {t:Nat}:∀{ws:List (Nat×AV)} {ρ:Nat→AV},ρ t=AV.undef→eT (gx ws) ρ t=AV.undef
 |[],_,h=>h
 |(d,x)::ws,ρ,h=>by
  simp only[gx,eT,put]
  by_cases e:t=d
  ·rw[aj e]
  ·rw[ak e];exact aeb h
theorem atM {f g:GF} {fs:List GF} {ρ:Nat→AV} (h:okF (f::g::fs)=true) (ho:ju (g::fs)=false):iR (g::fs) ρ f.t=AV.undef:=by
 simp only[okF,dE,NB,tN]at h
 simp only[ju]at ho
 simp only[iR]
 cases h1:ju fs with
 |true=>
  rw[h1]at ho
  simp only[kQ]at ho
  simp only[ho,fK,ig,put]
  rw[ak h.1.2]
  exact Np h.1.1
 |false=>
  simp only[ig]
  exact Np h.1.1
noncomputable def gY (AP:FuncId→Option aE) (Fin:c8→St→Option (AV×ae)) (fs:List GF) (l:List bt) (ks:List K) (ρ:Nat→AV) (m:ae):Option (AV×ae):=dB AP Fin l ks ⟨iR fs ρ,m⟩
noncomputable def re (AP:FuncId→Option aE) (Fin:c8→St→Option (AV×ae)) (f:GF) (fs:List GF) (d:Nat) (l:List bt) (ks:List K) (ρ:Nat→AV) (m:ae) (r:Option (AV×ae)):Option (AV×ae):=
 cond (ju (f::fs)) (rf AP Fin (some d) l ks (mf (f::fs) ρ) r) (dB AP Fin l ks ⟨put d AV.undef (iR (f::fs) ρ),m⟩)
theorem YJ {f:GF} {fs:List GF} {d:Nat} {op:cm} (h:okF (f::fs)=true):gY AP Fin (f::fs) (⟨some d,some (f.t,f.b),op⟩::rest) ks ρ m=re AP Fin f fs d rest ks ρ m (aO (aw AP) (aD (mf (f::fs) ρ)) m op):=by
 unfold gY re
 cases ha:ju (f::fs)with
 | true =>
  rw[Jj ha,G6]
  have hg:mf (f::fs) ρ f.t=.v (.bool f.b):=by simp[mf,put]
  have hp:put f.t (.v (.bool f.b)) (mf (f::fs) ρ)=mf (f::fs) ρ:=by
   funext u;unfold put;by_cases e:u=f.t
   ·subst e;rw[aj rfl,hg]
   ·rw[ak e]
  rw[hg,MU]
  cases hb:f.b<;>rw[hb]at hp<;>simp only[fK,ig,YM]<;>rw[hp]
 | false =>
  simp only[ig]
  rw[G6]
  have hg:iR (f::fs) ρ f.t=AV.undef∨iR (f::fs) ρ f.t=.v (.bool !f.b):=by
   cases h1:ju fs with
   |true=>
    simp only[ju,h1,kQ]at ha
    right
    simp[iR,h1,ha,put]
   |false=>
    left
    simp only[iR,h1,ig]
    cases fs with
    |nil=>simp[ju]at h1
    |cons g fs=>exact aeb (atM h h1)
  rcases hg with hg|hg
  ·rw[hg];rfl
  ·have hp:put f.t (.v (.bool !f.b)) (iR (f::fs) ρ)=iR (f::fs) ρ:=by
    funext u;unfold put;by_cases e:u=f.t
    ·subst e;rw[aj rfl,hg]
    ·rw[ak e]
   rw[hg,MU]
   cases hb:f.b<;>rw[hb]at hp<;>simp only[ov,th,fK,ig]at hp⊢<;>rw[hp]<;>rfl
theorem YG {f:GF} {fs:List GF} {d:Nat} {x:AV} (h:(decide (d=f.t))=false):re AP Fin f fs d rest ks ρ m (some (x,m))=gY AP Fin (⟨f.c,f.t,f.b,(d,x)::f.ws⟩::fs) rest ks ρ m:=by
 have h':(d==f.t)=false:=by simpa using h
 unfold re gY
 cases ha:ju (f::fs)with
 |true=>
  have LJ:ju (⟨f.c,f.t,f.b,(d,x)::f.ws⟩::fs)=true:=ha
  rw[Jj LJ]
  simp only[fK,akA,mf,eT]
  rw[Il h']
 | false =>
  simp only[ig,iR]
  cases h1:ju fs with
  |true=>
   simp only[ju,h1,kQ]at ha
   simp only[fK,ha,ig,gx,eT]
   rw[Il h']
  |false=>simp only[ig,gx,eT]
theorem av4 {ws vs:List (Nat×AV)}:eT (ws++vs) ρ=eT ws (eT vs ρ):=by
 induction ws with
 |nil=>rfl
 |cons p ws ih=>obtain⟨d,x⟩:=p;simp only[fZ,eT,ih]
theorem ayC {ws vs:List (Nat×AV)}:gx (ws++vs)=gx ws++gx vs:=by
 induction ws with
 |nil=>rfl
 |cons p ws ih=>obtain⟨d,x⟩:=p;simp only[fZ,gx,ih]
theorem aec {c b:Bool}:∀{ws:List (Nat×AV)},gx (qC c b ws)=gx ws
 |[]=>rfl
 |(d,x)::ws=>by simp only[qC,gx,aec]
theorem Dg {t:Nat} {x:AV}:∀{ws:List (Nat×AV)} {ρ:Nat→AV},fh t ws=false→put t x (eT ws ρ)=eT ws (put t x ρ)
 |[],_,_=>rfl
 |(d,y)::ws,ρ,h=>by
  simp only[fh,Bool.or_eq_false_iff,tN]at h
  simp only[eT]
  rw[Il (by simpa using h.1),Dg h.2]
theorem LM {t:Nat}:∀{ws:List (Nat×AV)},fh t (gx ws)=fh t ws
 |[]=>rfl
 |(d,y)::ws=>by simp only[gx,fh,LM]
theorem Ts {t:Nat} {x:AV} (h:ρ t=x):put t x ρ=ρ:=by
 funext u;unfold put;by_cases e:u=t
 ·subst e;rw[aj rfl,h]
 ·rw[ak e]
theorem aka {f g:GF} {fs:List GF} (l:List bt) (h:okF (f::g::fs)=true) (hw:fh f.t f.ws=false) (hv:fh g.t f.ws=false):
  gY AP Fin (f::g::fs) l ks ρ m=gY AP Fin (⟨g.c,g.t,g.b,qC f.c f.b f.ws++(f.t,.v (.bool f.c))::g.ws⟩::fs) l ks ρ m:=by
 simp only[okF,dE,NB,tN]at h
 have aF:(f.t==g.t)=false:=by simpa using h.1.2
 have hu:=Np (t:=f.t) (ws:=g.ws) (ρ:=iR fs ρ) h.1.1
 have hp:put f.t AV.undef (eT (gx g.ws) (iR fs ρ))=eT (gx g.ws) (iR fs ρ):=Ts hu
 unfold gY
 congr 2
 simp only[iR,ju,ayC,av4,gx,eT,aec,hp]
 cases h1:ju fs with
 |false=>simp only[lr,ig]
 | true =>
  simp only[kQ,fK]
  cases h2:g.c==g.b with
  |false=>
   simp only[ig]
   exact(Dg (ws:=gx f.ws) (by rw[LM];exact hv)).symm
  | true =>
   simp only[fK,SX]
   cases h3:f.c==f.b with
   |true=>
    simp only[fK]
    have e:f.c=f.b:=by simpa using h3
    rw[e,←Dg (ws:=f.ws) hv,Il aF,Dg (ws:=f.ws) hw]
   |false=>
    simp only[ig]
    have e:f.c=!f.b:=by cases hc:f.c<;>cases hb:f.b<;>simp_all
    rw[e,←Dg (ws:=gx f.ws) (by rw[LM];exact hv),Il aF,Dg (ws:=gx f.ws) (by rw[LM];exact hw)]
theorem YH {f:GF} (l:List bt):gY AP Fin [f] l ks ρ m=dB AP Fin l ks ⟨put f.t (.v (.bool f.c)) (eT (qC f.c f.b f.ws) ρ),m⟩:=by
 unfold gY
 congr 2
 simp only[iR,ju,fK,SX]
 cases hc:f.c<;>cases hb:f.b<;>rfl
theorem akb {f:GF} {fs:List GF} {c:Bool} {t:Nat} {b:Bool} (l:List bt) (ht:fh t f.ws=true) (aF:decide (t=f.t)=false) (hc:lookW t f.ws=.v (.bool c)):
  gY AP Fin (f::fs) l ks ρ m=gY AP Fin (⟨c,t,b,[]⟩::f::fs) l ks ρ m:=by
 have aF:t≠f.t:=by simpa using aF
 unfold gY
 congr 2
 simp only[iR.eq_2 ρ ⟨c,t,b,[]⟩,eT,gx]
 cases ha:ju (f::fs)with
 |false=>rfl
 | true =>
  have hv:iR (f::fs) ρ t=.v (.bool c):=by
   rw[Jj ha]
   simp only[mf,put]
   rw[ak aF,aa6 ht,hc]
  simp only[fK]
  cases hb:c==b with
  |true=>have e:c=b:=(by simpa using hb);subst e;exact(Ts hv).symm
  |false=>have e:c=!b:=(by cases c<;>cases b<;>simp_all);subst e;exact(Ts hv).symm
noncomputable def tT (AP:FuncId→Option aE) (Fin:c8→St→Option (AV×ae)) (fs:List GF) (l:List bt) (ks:List K) (ρ:Nat→AV) (m:ae):Option (AV×ae):=
 match fs with
 |f::g::r=>gY AP Fin (⟨g.c,g.t,g.b,qC f.c f.b f.ws++(f.t,.v (.bool f.c))::g.ws⟩::r) l ks ρ m
 |[f]=>dB AP Fin l ks ⟨put f.t (.v (.bool f.c)) (eT (qC f.c f.b f.ws) ρ),m⟩
 |[]=>dB AP Fin l ks ⟨ρ,m⟩
def oT:List GF→Bool
 |f::g::_=>!fh f.t f.ws&&!fh g.t f.ws
 |_=>true
theorem B5 {fs:List GF} (l:List bt) (h:(okF fs&&oT fs)=true):gY AP Fin fs l ks ρ m=tT AP Fin fs l ks ρ m:=by
 rw[dE]at h
 match fs with
 |[]=>rfl
 |[f]=>exact YH l
 |f::g::r=>
  have hp:=h.2
  simp only[oT,dE,NB]at hp
  exact aka l h.1 hp.1 hp.2
theorem aj5 {c:Bool} {t:Nat} {b:Bool} {ws:List (Nat×AV)} {fs:List GF} {d t':Nat} {b':Bool} {op:cm} (h:(okF (⟨c,t,b,ws⟩::fs)&&oT (⟨c,t,b,ws⟩::fs))=true):
  gY AP Fin (⟨c,t,b,ws⟩::fs) (⟨some d,some (t',b'),op⟩::rest) ks ρ m=
   if t'=t∧b'=b then re AP Fin ⟨c,t,b,ws⟩ fs d rest ks ρ m (aO (aw AP) (aD (mf (⟨c,t,b,ws⟩::fs) ρ)) m op)
   else if t'≠t∧fh t' ws=true then l3 (lookW t' ws) (fun c'=>gY AP Fin (⟨c',t',b',[]⟩::⟨c,t,b,ws⟩::fs) (⟨some d,some (t',b'),op⟩::rest) ks ρ m) (tT AP Fin (⟨c,t,b,ws⟩::fs) (⟨some d,some (t',b'),op⟩::rest) ks ρ m)
   else tT AP Fin (⟨c,t,b,ws⟩::fs) (⟨some d,some (t',b'),op⟩::rest) ks ρ m:=by
 by_cases h1:t'=t∧b'=b
 ·rw[aj h1]
  obtain⟨rfl,rfl⟩:=h1
  exact YJ (f:=⟨c,t',b',ws⟩) (by rw[dE]at h;exact h.1)
 ·rw[ak h1]
  by_cases h2:t'≠t∧fh t' ws=true
  ·rw[aj h2]
   unfold l3
   split
   ·rename_i c' hc
    exact akb _ h2.2 (by simpa using h2.1) hc
   ·exact B5 _ h
  ·rw[ak h2]
   exact B5 _ h
theorem aj6 {c:Bool} {t:Nat} {b:Bool} {ws:List (Nat×AV)} {fs:List GF} {d t':Nat} {b':Bool} {op:cm} (h:(okF (⟨c,t,b,ws⟩::fs)&&oT (⟨c,t,b,ws⟩::fs))=true):
  gY AP Fin (⟨c,t,b,ws⟩::fs) (⟨some d,some (t',b'),op⟩::rest) ks ρ m=
   if t'=t∧b'=b then re AP Fin ⟨c,t,b,ws⟩ fs d rest ks ρ m (aO (aw AP) (aD (mf (⟨c,t,b,ws⟩::fs) ρ)) m op)
   else if t'=t then tT AP Fin (⟨c,t,b,ws⟩::fs) (⟨some d,some (t',b'),op⟩::rest) ks ρ m
   else cond (fh t' ws) (l3 (lookW t' ws) (fun c'=>gY AP Fin (⟨c',t',b',[]⟩::⟨c,t,b,ws⟩::fs) (⟨some d,some (t',b'),op⟩::rest) ks ρ m) (tT AP Fin (⟨c,t,b,ws⟩::fs) (⟨some d,some (t',b'),op⟩::rest) ks ρ m))
    (tT AP Fin (⟨c,t,b,ws⟩::fs) (⟨some d,some (t',b'),op⟩::rest) ks ρ m):=by
 rw[aj5 h]
 by_cases h1:t'=t∧b'=b
 ·rw[aj h1,aj h1]
 ·rw[ak h1,ak h1]
  by_cases h2:t'=t
  ·rw[aj h2,ak (fun e=>e.1 h2)]
  ·rw[ak h2]
   cases h3:fh t' ws
   ·simp[h2]
   ·simp[h2]
theorem aj3 {f:GF} {fs:List GF} {d:Nat} {r r':Option (AV×ae)} (h:(f.c==f.b)=false):re AP Fin f fs d rest ks ρ m r=re AP Fin f fs d rest ks ρ m r':=by
 unfold re
 have:ju (f::fs)=false:=by simp only[ju,h,l8]
 rw[this];rfl
theorem YI {f:GF} {fs:List GF} {d t':Nat} {b':Bool} {op:cm} (h:(okF (f::fs)&&oT (f::fs))=true) (hd:decide (d=f.t)=false) (ho:(f.c==f.b)=false):
  gY AP Fin (f::fs) (⟨some d,some (t',b'),op⟩::rest) ks ρ m=
   if t'=f.t∧b'=f.b then gY AP Fin (⟨f.c,f.t,f.b,(d,AV.undef)::f.ws⟩::fs) rest ks ρ m else tT AP Fin (f::fs) (⟨some d,some (t',b'),op⟩::rest) ks ρ m:=by
 by_cases h1:t'=f.t∧b'=f.b
 ·rw[aj h1]
  obtain⟨rfl,rfl⟩:=h1
  rw[YJ (by rw[dE]at h;exact h.1),aj3 ho (r':=some (AV.undef,m)),YG hd]
 ·rw[ak h1]
  exact B5 _ h
theorem aj9 {t:Nat} {ws:List (Nat×AV)} {fs:List GF} {d t':Nat} {b':Bool} {op:cm} (h:(okF (⟨false,t,true,ws⟩::fs)&&oT (⟨false,t,true,ws⟩::fs))=true) (hd:decide (d=t)=false):
  gY AP Fin (⟨false,t,true,ws⟩::fs) (⟨some d,some (t',b'),op⟩::rest) ks ρ m=
   if t'=t∧b'=true then gY AP Fin (⟨false,t,true,(d,AV.undef)::ws⟩::fs) rest ks ρ m else tT AP Fin (⟨false,t,true,ws⟩::fs) (⟨some d,some (t',b'),op⟩::rest) ks ρ m:=YI (f:=⟨false,t,true,ws⟩) h hd rfl
theorem aj8 {t:Nat} {ws:List (Nat×AV)} {fs:List GF} {d t':Nat} {b':Bool} {op:cm} (h:(okF (⟨true,t,false,ws⟩::fs)&&oT (⟨true,t,false,ws⟩::fs))=true) (hd:decide (d=t)=false):
  gY AP Fin (⟨true,t,false,ws⟩::fs) (⟨some d,some (t',b'),op⟩::rest) ks ρ m=
   if t'=t∧b'=false then gY AP Fin (⟨true,t,false,(d,AV.undef)::ws⟩::fs) rest ks ρ m else tT AP Fin (⟨true,t,false,ws⟩::fs) (⟨some d,some (t',b'),op⟩::rest) ks ρ m:=YI (f:=⟨true,t,false,ws⟩) h hd rfl
theorem alV {t:Nat}:fh t []=false:=rfl
theorem alU {t d:Nat} {x:AV} {ws:List (Nat×AV)}:fh t ((d,x)::ws)=if t=d then true else fh t ws:=by
 rw[fh.eq_2];by_cases h:t=d<;>simp[h]
theorem atc {t d:Nat} {x:AV} {ws:List (Nat×AV)}:lookW t ((d,x)::ws)=if t=d then x else lookW t ws:=.trans rfl rfl
theorem atP {f:GF}:okF [f]=true:=rfl
theorem atQ {c c':Bool} {t t':Nat} {b b':Bool} {ws wC:List (Nat×AV)} {fs:List GF}:okF (⟨c,t,b,ws⟩::⟨c',t',b',wC⟩::fs)=cond (fh t wC) (if t=t' then false else okF (⟨c',t',b',wC⟩::fs)) false:=by
 rw[okF.eq_3];simp only;cases fh t wC<;>by_cases h:t=t'<;>simp[h]
theorem atS {f:GF}:oT [f]=true:=rfl
theorem atT {c c':Bool} {t t':Nat} {b b':Bool} {ws wC:List (Nat×AV)} {fs:List GF}:oT (⟨c,t,b,ws⟩::⟨c',t',b',wC⟩::fs)=cond (fh t ws) false (cond (fh t' ws) false true):=by
 show(!fh t ws&&!fh t' ws)=_;cases fh t ws<;>cases fh t' ws<;>rfl
theorem afg:mf [] ρ=ρ:=rfl
theorem aff {c:Bool} {t:Nat} {b:Bool} {ws:List (Nat×AV)} {fs:List GF}:mf (⟨c,t,b,ws⟩::fs) ρ=put t (.v (.bool b)) (eT ws (mf fs ρ)):=rfl
theorem aj7 {c:Bool} {t:Nat} {b:Bool} {ws:List (Nat×AV)} {t':Nat} {b':Bool} {op:cm}:gY AP Fin [⟨c,t,b,ws⟩] (⟨none,some (t',b'),op⟩::rest) ks ρ m=
  cond (c==b) (dB AP Fin (⟨none,some (t',b'),op⟩::rest) ks ⟨put t (.v (.bool b)) (eT ws ρ),m⟩) (dB AP Fin (⟨none,some (t',b'),op⟩::rest) ks ⟨put t (.v (.bool !b)) (eT (gx ws) ρ),m⟩):=by
 unfold gY
 simp only[iR,ju,fK]
 cases c==b<;>rfl
theorem aj4 {c:Bool} {t:Nat} {b:Bool} {ws:List (Nat×AV)} {d:Nat} {x:AV} {m':ae}:re AP Fin ⟨c,t,b,ws⟩ [] d rest ks ρ m (some (x,m'))=cond (c==b) (dB AP Fin rest ks ⟨put d x (put t (.v (.bool b)) (eT ws ρ)),m'⟩) (dB AP Fin rest ks ⟨put d AV.undef (put t (.v (.bool !b)) (eT (gx ws) ρ)),m⟩):=by
 unfold re
 simp only[ju,kQ,iR,mf,fK]
 cases c==b<;>rfl
theorem aiw {c:Bool} {d t:Nat} {b:Bool} {op:cm}:vh AP Fin c t b d op rest ks ρ m=gY AP Fin [⟨c,t,b,[]⟩] (⟨some d,some (t,b),op⟩::rest) ks ρ m:=by
 unfold vh
 rw[YH]
 simp only[qC,eT]
 rw[YL]
 have e:put t (.v (.bool c)) ρ t=.v (.bool c):=by simp[put]
 rw[e,MU]
 unfold vh
 cases c<;>cases b<;>simp[av1]
section
variable{c:Bool} {t:Nat} {b:Bool} {ws:List (Nat×AV)} {fs:List GF} {d t':Nat} {b':Bool} {op:cm}
noncomputable def nF (AP:FuncId→Option aE) (Fin:c8→St→Option (AV×ae)) (c:Bool) (t:Nat) (b:Bool) (ws:List (Nat×AV)) (fs:List GF) (l:List bt) (ks:List K) (ρ:Nat→AV) (m:ae):Option (AV×ae):=gY AP Fin (⟨c,t,b,ws⟩::fs) l ks ρ m
noncomputable def G5 (AP:FuncId→Option aE) (Fin:c8→St→Option (AV×ae)) (c:Bool) (t:Nat) (b:Bool) (ws:List (Nat×AV)) (fs:List GF) (d:Nat) (l:List bt) (ks:List K) (ρ:Nat→AV) (m:ae) (r:Option (AV×ae)):Option (AV×ae):=re AP Fin ⟨c,t,b,ws⟩ fs d l ks ρ m r
noncomputable def qh (AP:FuncId→Option aE) (Fin:c8→St→Option (AV×ae)) (c:Bool) (t:Nat) (b:Bool) (ws:List (Nat×AV)) (fs:List GF) (l:List bt) (ks:List K) (ρ:Nat→AV) (m:ae):Option (AV×ae):=tT AP Fin (⟨c,t,b,ws⟩::fs) l ks ρ m
theorem aki {c':Bool} {l:List bt} (h:c=c'):nF AP Fin c t b ws fs l ks ρ m=nF AP Fin c' t b ws fs l ks ρ m:=by rw[h]
theorem akf {r r':Option (AV×ae)} (h:r=r'):G5 AP Fin c t b ws fs d rest ks ρ m r=G5 AP Fin c t b ws fs d rest ks ρ m r':=by rw[h]
theorem ake {l:List bt}:qh AP Fin c t b ws fs l ks ρ m=qh AP Fin c t b ws fs l ks ρ m:=rfl
theorem aix:vh AP Fin c t b d op rest ks ρ m=nF AP Fin c t b [] [] (⟨some d,some (t,b),op⟩::rest) ks ρ m:=aiw
noncomputable def Ij (AP:FuncId→Option aE) (Fin:c8→St→Option (AV×ae)) (x:AV) (t':Nat) (b':Bool) (c:Bool) (t:Nat) (b:Bool) (ws:List (Nat×AV)) (fs:List GF) (l:List bt) (ks:List K) (ρ:Nat→AV) (m:ae):Option (AV×ae):=
 l3 x (fun c'=>nF AP Fin c' t' b' [] (⟨c,t,b,ws⟩::fs) l ks ρ m) (qh AP Fin c t b ws fs l ks ρ m)
theorem avX {c':Bool} {l:List bt}:Ij AP Fin (.v (.bool c')) t' b' c t b ws fs l ks ρ m=nF AP Fin c' t' b' [] (⟨c,t,b,ws⟩::fs) l ks ρ m:=rfl
theorem avY {l:List bt}:Ij AP Fin AV.undef t' b' c t b ws fs l ks ρ m=qh AP Fin c t b ws fs l ks ρ m:=rfl
theorem avW {x x':AV} {l:List bt} (h:x=x'):Ij AP Fin x t' b' c t b ws fs l ks ρ m=Ij AP Fin x' t' b' c t b ws fs l ks ρ m:=by rw[h]
theorem akj (h:(okF (⟨c,t,b,ws⟩::fs)&&oT (⟨c,t,b,ws⟩::fs))=true):
  nF AP Fin c t b ws fs (⟨some d,some (t',b'),op⟩::rest) ks ρ m=
   if t'=t∧b'=b then G5 AP Fin c t b ws fs d rest ks ρ m (aO (aw AP) (aD (mf (⟨c,t,b,ws⟩::fs) ρ)) m op)
   else if t'=t then qh AP Fin c t b ws fs (⟨some d,some (t',b'),op⟩::rest) ks ρ m
   else if fh t' ws=true then Ij AP Fin (lookW t' ws) t' b' c t b ws fs (⟨some d,some (t',b'),op⟩::rest) ks ρ m
   else qh AP Fin c t b ws fs (⟨some d,some (t',b'),op⟩::rest) ks ρ m:=by
 refine(aj6 h).trans ?_
 by_cases h1:t'=t∧b'=b
 ·rw[aj h1,aj h1];rfl
 ·rw[ak h1,ak h1]
  by_cases h2:t'=t
  ·rw[aj h2,aj h2];rfl
  ·rw[ak h2,ak h2]
   cases h3:fh t' ws
   ·rw[ak (by simp)];rfl
   ·rw[aj rfl];rfl
theorem akp (h:(okF (⟨false,t,true,ws⟩::fs)&&oT (⟨false,t,true,ws⟩::fs))=true) (hd:decide (d=t)=false):
  nF AP Fin false t true ws fs (⟨some d,some (t',b'),op⟩::rest) ks ρ m=
   if t'=t∧b'=true then nF AP Fin false t true ((d,AV.undef)::ws) fs rest ks ρ m else qh AP Fin false t true ws fs (⟨some d,some (t',b'),op⟩::rest) ks ρ m:=aj9 h hd
theorem ako (h:(okF (⟨true,t,false,ws⟩::fs)&&oT (⟨true,t,false,ws⟩::fs))=true) (hd:decide (d=t)=false):
  nF AP Fin true t false ws fs (⟨some d,some (t',b'),op⟩::rest) ks ρ m=
   if t'=t∧b'=false then nF AP Fin true t false ((d,AV.undef)::ws) fs rest ks ρ m else qh AP Fin true t false ws fs (⟨some d,some (t',b'),op⟩::rest) ks ρ m:=aj8 h hd
theorem akn {d:Option Nat} (h:(okF (⟨c,t,b,ws⟩::fs)&&oT (⟨c,t,b,ws⟩::fs))=true):nF AP Fin c t b ws fs (⟨d,none,op⟩::rest) ks ρ m=qh AP Fin c t b ws fs (⟨d,none,op⟩::rest) ks ρ m:=B5 _ h
theorem akl {g:GF} (h:(okF (⟨c,t,b,ws⟩::g::fs)&&oT (⟨c,t,b,ws⟩::g::fs))=true):nF AP Fin c t b ws (g::fs) (⟨none,some (t',b'),op⟩::rest) ks ρ m=qh AP Fin c t b ws (g::fs) (⟨none,some (t',b'),op⟩::rest) ks ρ m:=B5 _ h
theorem akm:nF AP Fin c t b ws [] (⟨none,some (t',b'),op⟩::rest) ks ρ m=
  cond (c==b) (dB AP Fin (⟨none,some (t',b'),op⟩::rest) ks ⟨put t (.v (.bool b)) (eT ws ρ),m⟩) (dB AP Fin (⟨none,some (t',b'),op⟩::rest) ks ⟨put t (.v (.bool !b)) (eT (gx ws) ρ),m⟩):=aj7
theorem akk (h:(okF (⟨c,t,b,ws⟩::fs)&&oT (⟨c,t,b,ws⟩::fs))=true):nF AP Fin c t b ws fs [] ks ρ m=qh AP Fin c t b ws fs [] ks ρ m:=B5 _ h
theorem akc {l:List bt}:qh AP Fin c t b ws [] l ks ρ m=dB AP Fin l ks ⟨put t (.v (.bool c)) (eT (qC c b ws) ρ),m⟩:=rfl
theorem akd {c':Bool} {wC:List (Nat×AV)} {l:List bt}:qh AP Fin c t b ws (⟨c',t',b',wC⟩::fs) l ks ρ m=nF AP Fin c' t' b' (qC c b ws++(t,.v (.bool c))::wC) fs l ks ρ m:=rfl
theorem akh {x:AV} (h:(decide (d=t))=false):G5 AP Fin c t b ws fs d rest ks ρ m (some (x,m))=nF AP Fin c t b ((d,x)::ws) fs rest ks ρ m:=YG h
theorem akg {x:AV} {m':ae}:G5 AP Fin c t b ws [] d rest ks ρ m (some (x,m'))=cond (c==b) (dB AP Fin rest ks ⟨put d x (put t (.v (.bool b)) (eT ws ρ)),m'⟩) (dB AP Fin rest ks ⟨put d AV.undef (put t (.v (.bool !b)) (eT (gx ws) ρ)),m⟩):=aj4
end
theorem akz {t:Nat} {x:AV} {m':ae}:rf AP Fin (some t) rest ks ρ (some (x,m'))=dB AP Fin rest ks ⟨put t x ρ,m'⟩:=rfl
theorem akx {x:AV} {m':ae}:rf AP Fin none rest ks ρ (some (x,m'))=dB AP Fin rest ks ⟨ρ,m'⟩:=rfl
theorem aky {d:Option Nat}:rf AP Fin d rest ks ρ none=none:=rfl
theorem akv {d:Option Nat} {c:Bool} {x y:Option (AV×ae)}:rf AP Fin d rest ks ρ (cond c x y)=cond c (rf AP Fin d rest ks ρ x) (rf AP Fin d rest ks ρ y):=by cases c<;>rfl
theorem akw {d:Option Nat} {r r':Option (AV×ae)} (h:r=r'):rf AP Fin d rest ks ρ r=rf AP Fin d rest ks ρ r':=by rw[h]
theorem akr:dB AP Fin rest ks st=dB AP Fin rest ks st:=rfl
theorem go_congr:go AP Fin ks st=go AP Fin ks st:=rfl
theorem aG {f:FuncId} {np nt:Nat} {b:au} {rs:List iy} {own:Bool} (hf:AP f=some (.code np nt b rs own)) {as:List AV} {s:ae} (hl:as.length=np):
  aw AP (.fn f) as s=go AP (aR rs own) [.c b] ⟨jm as,s.push ⟨[],[]⟩⟩:=by
 rw[aha hf,aj hl]
 simp only[go,iS]
 cases h:fF AP b ⟨jm as,s.push ⟨[],[]⟩⟩with
 |none=>rfl
 |some p=>obtain⟨e,aM⟩:=p;cases e<;>rfl
end
section
variable{ρ:Nat→AV} {m:ae} {s:ae} {call:bj}
theorem aiS {t:Nat}:aD ρ (.tmp t)=ρ t:=.trans rfl rfl
theorem aiR {x:AV}:aD ρ (.const x)=x:=.trans rfl rfl
theorem av0 {t u:Nat} {x:AV}:put t x ρ u=if u=t then x else ρ u:=.trans rfl rfl
theorem afV {x:AV} {r:List AV}:jm (x::r) 0=x:=.trans rfl rfl
theorem afW {x:AV} {r:List AV} {n:Nat}:jm (x::r) (n+1)=jm r n:=.trans rfl rfl
theorem auB {x:aJ}:aO call (aD ρ) m (.move x)=some (aD ρ x,m):=.trans rfl rfl
theorem auD {c a b:aJ}:aO call (aD ρ) m (.pick c a b)=(Ii (aD ρ c) (aD ρ a) (aD ρ b)).map (·,m):=.trans rfl rfl
theorem at0 {z:AV} {zs:List AV}:aO call (aD ρ) m (.alloc (z::zs))=some (m.eG (z::zs)):=.trans rfl rfl
theorem auF {n:Nat}:aO call (aD ρ) m (.l5 n)=some (AV.undef,m.l5 n):=.trans rfl rfl
theorem MX {q:Nat} {g:Bool} {n:Nat} {x:aJ}:aO call (aD ρ) m (.fW q g n x)=(yd m q g n (aD ρ x)).map (·,m):=.trans rfl rfl
theorem S9 {q n:Nat} {x y:aJ}:aO call (aD ρ) m (.fill q n x y)=(y5 m q n (aD ρ x) (aD ρ y)).map (AV.undef,·):=.trans rfl rfl
theorem Tc {b:Nat} {zs:List AV}:aO call (aD ρ) m (.slot b zs)=mJ m b zs:=.trans rfl rfl
theorem at5 {n:Nat} {x:aJ}:aO call (aD ρ) m (.box n x)=yM m n (aD ρ x):=.trans rfl rfl
theorem at6 {zs:List AV} {ps:List (Nat×Nat×aJ)}:aO call (aD ρ) m (.build zs ps)=(nz zs (aD ρ) ps).map fun cs=>(.agg cs,m):=.trans rfl rfl
theorem aua {es:Nat} {rows:List (List AV)} {ps:List (Nat×aJ)}:aO call (aD ρ) m (.buildSlice es rows ps)=(mP rows (aD ρ) ps).map fun rs=>(.slice .full es rs,m):=.trans rfl rfl
theorem Ta {g:Bool} {n:Nat} {x:aJ}:aO call (aD ρ) m (.load g n x)=(m.load g n (aD ρ x)).map (·,m):=.trans rfl rfl
theorem auJ {n:Nat} {x y:aJ}:aO call (aD ρ) m (.store n x y)=(m.store n (aD ρ x) (aD ρ y)).map (AV.undef,·):=.trans rfl rfl
theorem auC {x:aJ}:aO call (aD ρ) m (.nilCheck x)=(zS (aD ρ x)).map (·,m):=.trans rfl rfl
theorem at4 {op:BinOp} {x y:aJ}:aO call (aD ρ) m (.arith op x y)=(cC op (aD ρ x) (aD ρ y)).map (·,m):=.trans rfl rfl
theorem auj {neg:Bool} {k:IT} {x y:aJ}:aO call (aD ρ) m (.eqv neg k x y)=(pg k (aD ρ x) (aD ρ y)).map fun t=>(.v (.bool (if neg then !t else t)),m):=.trans rfl rfl
theorem auK {op:UnOp} {x:aJ}:aO call (aD ρ) m (.un op x)=(unOp op (aD ρ x)).map (·,m):=.trans rfl rfl
theorem auh {k:IS} {x:aJ}:aO call (aD ρ) m (.conv k x)=(mQ k (aD ρ x)).map (·,m):=.trans rfl rfl
theorem auy {t:TypeId} {x:aJ}:aO call (aD ρ) m (.C0 t x)=(Mz t (aD ρ x)).map (·,m):=.trans rfl rfl
theorem auw {f:FuncId} {first caps:List aJ}:aO call (aD ρ) m (.mC f first caps)=if(first.map (aD ρ)).all AV.vS then some (.fn f (first.map (aD ρ)) (caps.map (aD ρ)),m)else none:=.trans rfl rfl
theorem auA {es:Nat} {zs:List AV} {len cap:aJ}:aO call (aD ρ) m (.zR es zs len cap)=yh m es zs (aD ρ len) (aD ρ cap):=.trans rfl rfl
theorem auz {es:Nat} {zs:List AV} {len cap:aJ}:aO call (aD ρ) m (.mkSlice es zs len cap)=yg m es zs (aD ρ len) (aD ρ cap):=.trans rfl rfl
theorem auG {k:DS} {x:aJ} {lo hi mx:Option aJ}:aO call (aD ρ) m (.slice k x lo hi mx)=(fQ k (aD ρ x) (qY (aD ρ) lo) (qY (aD ρ) hi) (qY (aD ρ) mx)).map (·,m):=.trans rfl rfl
theorem aun {off:Nat} {x:aJ}:aO call (aD ρ) m (.fieldAddr off x)=(Df off (aD ρ x)).map (·,m):=.trans rfl rfl
theorem auq {arr:Option Nat} {es:Nat} {x i:aJ}:aO call (aD ρ) m (.indexAddr arr es x i)=(gR arr es (aD ρ x) (aD ρ i)).map (·,m):=.trans rfl rfl
theorem aur {x i:aJ}:aO call (aD ρ) m (.CS x i)=(zJ (aD ρ x) (aD ρ i)).map (·,m):=.trans rfl rfl
theorem aup {n es:Nat} {g:Bool} {x i:aJ}:aO call (aD ρ) m (.index n es g x i)=(HV n es g (aD ρ x) (aD ρ i)).map (·,m):=.trans rfl rfl
theorem aum {g:Bool} {n off:Nat} {x:aJ}:aO call (aD ρ) m (.field g n off x)=(GS g n off (aD ρ x)).map (·,m):=.trans rfl rfl
theorem auk {i:Nat} {x:aJ}:aO call (aD ρ) m (.extract i x)=(y0 i (aD ρ x)).map (·,m):=.trans rfl rfl
theorem aub {ro:Bool} {f:FuncId} {as:List aJ}:aO call (aD ρ) m (.call ro f as)=eo call ro m (.fn f) (as.map (aD ρ)):=.trans rfl rfl
theorem aul {ro:Bool} {zs:List (List AV)} {f:FuncId} {as:List aJ}:aO call (aD ρ) m (.sg ro zs f as)=nD call ro m zs (.fn f) (as.map (aD ρ)):=.trans rfl rfl
theorem auc {f:FuncId} {as:List aJ}:aO call (aD ρ) m (.ve f as)=eo call false m (.inl f) (as.map (aD ρ)):=.trans rfl rfl
theorem aud {f:FuncId} {as:List aJ}:aO call (aD ρ) m (.xk f as)=eo call true m (.nat f) (as.map (aD ρ)):=.trans rfl rfl
theorem aue {f:FuncId} {as:List aJ}:aO call (aD ρ) m (.tK f as)=nA call m f (as.map (aD ρ)):=.trans rfl rfl
theorem auf {ro:Bool} {x:aJ} {as:List aJ}:aO call (aD ρ) m (.gW ro x as)=nB call ro m (aD ρ x) (as.map (aD ρ)):=.trans rfl rfl
theorem Tb {agg:Bool} {n:Nat} {x:aJ}:aO call (aD ρ) m (.jM agg n x)=(zN m agg n (aD ρ x)).map (·,m):=.trans rfl rfl
theorem at2 {es:Nat} {x y:aJ}:aO call (aD ρ) m (.wY es x y)=yA m es (aD ρ x) (aD ρ y):=.trans rfl rfl
theorem at3 {es:Nat} {x y:aJ}:aO call (aD ρ) m (.qT es x y)=mO m es (aD ρ x) (aD ρ y):=.trans rfl rfl
theorem aui {x y:aJ}:aO call (aD ρ) m (.copy x y)=tM m (aD ρ x) (aD ρ y):=.trans rfl rfl
theorem at7 {es:Nat} {row:List AV} {t:Nat}:aO call (aD ρ) m (.yO es row t)=yP m es row (ρ t):=.trans rfl rfl
theorem at1 {es:Nat} {x y:aJ}:aO call (aD ρ) m (.append es x y)=et m es (aD ρ x) (aD ρ y):=.trans rfl rfl
theorem aus {b:Bool} {x:aJ}:aO call (aD ρ) m (.len b x)=(oR b (aD ρ x)).map (·,m):=.trans rfl rfl
theorem aut {n:Nat}:aO call (aD ρ) m (.CW n)=some (.v (.int .i64 n),m):=.trans rfl rfl
theorem auv {mx:Bool} {xs:List aJ}:aO call (aD ρ) m (.zQ mx xs)=(rJ mx (xs.map (aD ρ))).map (·,m):=.trans rfl rfl
theorem ain {t:Target} {as:List AV}:eo call false m t as=call t as m:=.trans rfl rfl
def dP (m:ae):ae:={m with ro:=m.ag.length,cq:=m.loops.length}
theorem C4:Ok (dP m):=⟨aI _,aI _⟩
theorem aio {t:Target} {as:List AV}:eo call true m t as=(call t as (dP m)).map fun p=>(p.1,m):=.trans rfl rfl
theorem aho {f:FuncId} {a b as:List AV} {ro:Bool}:nB call ro m (.fn f a b) as=eo call ro m (.fn f) (a++as++b):=.trans rfl rfl
theorem ahp {l:Nat} {as:List AV} {ro:Bool}:nB call ro m (.yield l) as=eo call ro m (.yield l) as:=.trans rfl rfl
theorem avi {c:Bool} {a b:AV}:Ii (.v (.bool c)) a b=some (cond c a b):=by cases c<;>rfl
theorem MR {r:Rec} {cs:List AV}:(s.push r).eG cs=(.ptr s.ag.length r.boxes.length 0,s.push ⟨r.boxes++[cs],r.toks⟩):=by
 rw[ae.eG,gD,vW,afh]
def lH:Nat→List AV→Bool
 |0,[]=>true
 |n+1,x::r=>x.bK&&lH n r
 |_,_=>false
theorem qd:∀{n:Nat} {l:List AV},lH n l=true↔l.length=n∧l.all AV.bK=true
 |0,[]=>by simp[lH]
 |0,_::_=>by simp[lH]
 |n+1,[]=>by simp[lH]
 |n+1,x::r=>by simp only[lH,dE,qd (n:=n) (l:=r),cH,tm];constructor<;>(rintro⟨h1,h2,h3⟩;exact⟨by omega,by simp_all⟩)
theorem agE {n:Nat} {y:AV}:yM m (n+1) y=cond (lH (n+1) y.cells) (some (m.eG y.cells)) none:=by
 unfold yM
 cases h:lH (n+1) y.cells with
 |true=>rw[aj ⟨(qd.1 h).1,(qd.1 h).2,Nat.succ_pos n⟩];rfl
 |false=>rw[ak (fun e=>by rw[qd.2 ⟨e.1,e.2.1⟩]at h;cases h)];rfl
theorem awD {r:Rec} {n:Nat}:(s.push r).l5 n=s.push ⟨r.boxes++List.replicate n [],r.toks⟩:=by
 rw[ae.l5,gD,vZ]
def Nc (bs:List (List AV)) (tk:List (Option Nat)) (back:Nat) (zs:List AV):Option (Nat×List (List AV)):=
 if tk.any Option.isNone then none else
 match bs[bs.length-back]? with
 |some []=>if zs.isEmpty then none else some (bs.length-back,bs.set (bs.length-back) zs)
 |_=>none
theorem atF (s:ae) (r:Rec):(s.push r).lZ s.ag.length=r.toks.any Option.isNone:=by simp[ae.push,ae.lZ]
theorem axS {r:Rec} {back:Nat} {zs:List AV}:mJ (s.push r) back zs=(Nc r.boxes r.toks back zs).map fun p=>(.ptr s.ag.length p.1 0,s.push ⟨p.2,r.toks⟩):=by
 obtain⟨bs,tk⟩:=r
 unfold mJ Nc
 simp only[gD,vW,ib,TH,atF]
 cases hq:tk.any Option.isNone with
 | false =>
  simp only[ew,zT,eu]
  split
  ·rename_i h;rw[h];simp only;split<;>rfl
  ·rename_i h
   split
   ·rename_i h';exact absurd h' (by simpa using h)
   ·rfl
 |true=>
  simp only[or_true,cI]
  split<;>rfl
theorem as8 {g:Bool} {n d b off:Nat}:m.load g n (.ptr d b off)=(m.box d b).bind fun cs=>part g n cs off:=by
 simp only[ae.load,ae.row]
 cases m.box d b<;>rfl
theorem eA {d b:Nat} {cs:List AV} (h:m.box d b=some cs) (r:Rec):(m.push r).box d b=some cs:=by
 simp only[ae.box,ae.push]at h⊢
 rw[dG]
 ·exact h
 ·apply tj
  intro hn
  rw[lu (by omega)]at h
  cases h
theorem as9 {g:Bool} {n off:Nat} {cs:List AV}:m.load g n (.bd cs off)=part g n cs off:=rfl
theorem au6 {n off:Nat} {cs:List AV}:part false n cs off=cs[off]? :=rfl
def pf:Nat→Nat→List AV→Option (List AV)
 |0,0,_=>some []
 |0,n+1,x::r=>(pf 0 n r).map (x::·)
 |off+1,n,_::r=>pf off n r
 |_,_,[]=>none
theorem GH:∀(off n:Nat) (cs:List AV),pf off n cs=if off+n≤cs.length then some ((cs.drop off).take n)else none
 |0,0,_=>by simp[pf]
 |0,n+1,[]=>by simp[pf]
 |0,n+1,x::r=>by
  have:=GH 0 n r
  simp only[pf,this,iK,cH,UJ,gU]
  by_cases h:n≤r.length
  ·rw[aj h,aj (by omega)];rfl
  ·rw[ak h,ak (by omega)];rfl
 |off+1,n,[]=>by simp[pf]
 |off+1,n,x::r=>by
  have:=GH off n r
  simp only[pf,this,cH,Us]
  by_cases h:off+n≤r.length
  ·rw[aj h,aj (by omega)]
  ·rw[ak h,ak (by omega)]
theorem au8 {n off:Nat} {cs:List AV}:part true n cs off=(pf off n cs).map .agg:=by
 rw[GH];unfold part;by_cases h:off+n≤cs.length<;>simp[h]
def j5:List AV→Nat→List AV→Option (List AV)
 |row,0,[]=>some row
 |_::row,0,c::cs=>(j5 row 0 cs).map (c::·)
 |x::row,off+1,cs=>(j5 row off cs).map (x::·)
 |[],_,_=>none
theorem TI (x:AV):∀(cs:List AV) (row:List AV) (off:Nat),setCells (x::row) (off+1) cs=x::setCells row off cs
 |[],_,_=>rfl
 |c::cs,row,off=>by simp only[setCells,NX];exact TI x cs _ _
theorem pP:∀(row:List AV) (off:Nat) (cs:List AV),j5 row off cs=if off+cs.length≤row.length then some (setCells row off cs)else none
 |row,0,[]=>by simp[j5,setCells]
 |[],0,c::cs=>by simp[j5]
 |x::row,0,c::cs=>by
  simp only[j5,pP row 0 cs,setCells,DJ,cH,gU]
  by_cases h:cs.length≤row.length
  ·rw[aj h,aj (by omega)];simp[TI c cs row 0]
  ·rw[ak h,ak (by omega)];rfl
 |[],off+1,cs=>by simp[j5]
 |x::row,off+1,cs=>by
  simp only[j5,pP row off cs,cH,TI]
  by_cases h:off+cs.length≤row.length
  ·rw[aj h,aj (by omega)];rfl
  ·rw[ak h,ak (by omega)];rfl
theorem ro_le {r:Rec} (h:Ok s):(s.push r).ro≤s.ag.length:=h.ro
theorem adJ {r:Rec} {n b off:Nat} {y:AV} (h:Ok s):
  (s.push r).store n (.ptr s.ag.length b off) y=cond (lH n y.cells) (((r.boxes[b]?).bind fun row=>j5 row off y.cells).map fun row=>s.push ⟨r.boxes.set b row,r.toks⟩) none:=by
 cases hy:lH n y.cells with
 |false=>
  have:¬(y.cells.length=n∧y.cells.all AV.bK=true):=fun e=>by rw[qd.2 e]at hy;cases hy
  simp only[ae.store,ig]
  rw[ak (fun e=>this e.2)]
 | true =>
  have hy:=qd.1 hy
  simp only[ae.store,fK]
  rw[aj ⟨ro_le h,hy.1,hy.2⟩,gD,aj rfl]
  simp only[ib]
  cases r.boxes[b]? with
  |none=>rfl
  |some row=>
   simp only[dI,pP,hy.1]
   by_cases hq:off+n≤row.length
   ·simp only[aj hq,TH,dJ]
   ·simp only[ak hq,Option.map_none]
theorem ajA {cs:List AV} {off size:Nat} {x:AV}:y6 cs off size x=cond (lH size x.cells) (j5 cs off x.cells) none:=by
 unfold y6
 cases h:lH size x.cells with
 |true=>
  have:=qd.1 h
  rw[fK,pP,this.1]
  by_cases hq:off+size≤cs.length
  ·rw[aj ⟨rfl,hq,this.2⟩,aj hq]
  ·rw[ak (fun e=>hq e.2.1),ak hq]
 |false=>rw[ak (fun e=>by rw[qd.2 ⟨e.1,e.2.2⟩]at h;cases h)];rfl
theorem agJ {cs:List AV} {f:aJ→AV}:nz cs f []=some cs:=rfl
theorem agI {cs:List AV} {f:aJ→AV} {off size:Nat} {x:aJ} {r:List (Nat×Nat×aJ)}:nz cs f ((off,size,x)::r)=(cond (lH size (f x).cells) (j5 cs off (f x).cells) none).bind fun cs'=>nz cs' f r:=by
 rw[←ajA];simp only[nz];cases y6 cs off size (f x)<;>rfl
theorem agM {rows:List (List AV)} {f:aJ→AV}:mP rows f []=some rows:=rfl
def Is:List AV→List AV→Bool
 |[],[]=>true
 |_::a,_::b=>Is a b
 |_,_=>false
theorem ac6:∀(a b:List AV),Is a b=decide (a.length=b.length)
 |[],[]=>rfl
 |[],_::_=>rfl
 |_::_,[]=>rfl
 |_::a,_::b=>by simp[Is,ac6 a b]
theorem agL {rows:List (List AV)} {f:aJ→AV} {i:Nat} {x:aJ} {r:List (Nat×aJ)}:mP rows f ((i,x)::r)=(rows[i]?).bind fun row=>(closeAll (f x).cells).bind fun cs=>cond (Is cs row) (mP (rows.set i cs) f r) none:=by
 simp only[mP,ac6]
 cases rows[i]? with
 |none=>rfl
 |some row=>cases closeAll (f x).cells with
  |none=>rfl
  |some cs=>by_cases h:cs.length=row.length<;>simp[h]
theorem jW:closeAll []=some []:=rfl
theorem ie {x:AV} {r:List AV}:closeAll (x::r)=x.close.bind fun y=>(closeAll r).map fun s=>y::s:=by
 simp only[closeAll];cases x.close<;>cases closeAll r<;>rfl
theorem nC {k:IntKind} {n:Int}:AV.close (.v (.int k n))=some (.v (.int k n)):=rfl
theorem Xg {b:Bool}:AV.close (.v (.bool b))=some (.v (.bool b)):=rfl
theorem vf {b:ByteArray}:AV.close (.v (.string b))=some (.v (.string b)):=rfl
theorem ahJ {es:Nat} {xs:List (List AV)}:AV.close (.slice .aA es xs)=some (.slice .aA es xs):=rfl
theorem ahF {es:Nat} {xs:List (List AV)}:AV.close (.slice .any es xs)=some (.slice .any es xs):=rfl
theorem ahH {es:Nat} {xs:List (List AV)}:AV.close (.slice .full es xs)=some (.slice .full es xs):=rfl
theorem ahL {d g es:Nat} {xs:List (List AV)}:AV.close (.slice (.tok d g) es xs)=some (.slice .any es xs):=rfl
theorem avV {off d b o:Nat}:Df off (.ptr d b o)=some (.ptr d b (o+off)):=rfl
theorem avU {off o:Nat} {cs:List AV}:Df off (.bd cs o)=some (.bd cs (o+off)):=rfl
end
end Go.Ax.Sx
/-
  The rules to compute with, as one set.
-/
namespace Go.Ax.Sx
attribute [go_sem ↓] fK ig go_skip akI go_ret akF akK go_region akM akG aku YM YL aiB aiA aiz aiy akt aks akC akD akB
attribute [go_sem] akL akE akH akz akx aky akv MU
attribute [go_sem ↓ low] aix
attribute [go_sem high] akp ako
attribute [go_sem] avX avY akj akn akl akm akk akc akd akh eT gx qC alV alU atc atP atQ atS atT afg aff
attribute [go_sem low] akg
attribute [congr] avW aki akf ake atU akw akr go_congr
attribute [go_sem ↓] aiS aiR av0 afV afW
attribute [go_sem ↓] auB auD at0 auF Tc MX Tb S9 at5 at6 aua Ta auJ auC at4 auj auK auh auy auw auz auA auG aun auq aur aup aum auk aub aul auc aud aue auf at1 at3 at2 aui at7 aus aut auv
attribute [go_sem] aio C4 Ok.push ain aho ahp avi MR awD axS as8 ib as9 au6 au8 adJ lH pf j5 avV avU agE
section
variable{a b:Int} {c d:Bool}
theorem afB:cC .add (.v (.int .i64 a)) (.v (.int .i64 b))=some (.v (.int .i64 (IntKind.i64.wrap (a+b)))):=rfl
theorem afU:cC .sub (.v (.int .i64 a)) (.v (.int .i64 b))=some (.v (.int .i64 (IntKind.i64.wrap (a-b)))):=rfl
theorem afN:cC .mul (.v (.int .i64 a)) (.v (.int .i64 b))=some (.v (.int .i64 (IntKind.i64.wrap (a*b)))):=rfl
theorem afR (h:(b==0)=false):cC .quo (.v (.int .i64 a)) (.v (.int .i64 b))=some (.v (.int .i64 (IntKind.i64.wrap (a.tdiv b)))):=by
 have:b≠0:=by simpa using h
 simp[cC,pI,rH,this]
theorem afS (h:(b==0)=false):cC .rem (.v (.int .i64 a)) (.v (.int .i64 b))=some (.v (.int .i64 (a.tmod b))):=by
 have:b≠0:=by simpa using h
 simp[cC,pI,rH,this]
theorem afC:cC .eql (.v (.int .i64 a)) (.v (.int .i64 b))=some (.v (.bool (decide (a=b)))):=by
 simp only[cC,pI,rH];by_cases h:a=b<;>simp[h]
theorem afO:cC .neq (.v (.int .i64 a)) (.v (.int .i64 b))=some (.v (.bool (decide (a≠b)))):=by
 simp only[cC,pI,rH];by_cases h:a=b<;>simp[h]
theorem afL:cC .lss (.v (.int .i64 a)) (.v (.int .i64 b))=some (.v (.bool (decide (a<b)))):=rfl
theorem afJ:cC .leq (.v (.int .i64 a)) (.v (.int .i64 b))=some (.v (.bool (decide (a≤b)))):=rfl
theorem afH:cC .gtr (.v (.int .i64 a)) (.v (.int .i64 b))=some (.v (.bool (decide (b<a)))):=rfl
theorem afF:cC .geq (.v (.int .i64 a)) (.v (.int .i64 b))=some (.v (.bool (decide (b≤a)))):=rfl
theorem ayB:unOp .not (.v (.bool c))=some (.v (.bool !c)):=rfl
theorem ayA:unOp .neg (.v (.int .i64 a))=some (.v (.int .i64 (IntKind.i64.wrap (-a)))):=by simp[unOp]
theorem abm:rJ true [.v (.int .i64 a),.v (.int .i64 b)]=some (.v (.int .i64 (max a b))):=by
 have:(if b>a then b else a)=max a b:=by split<;>omega
 simp only[rJ,yf,CZ,cI,this]
theorem ats:rJ false [.v (.int .i64 a),.v (.int .i64 b)]=some (.v (.int .i64 (min a b))):=by
 have:(if b<a then b else a)=min a b:=by split<;>omega
 simp[rJ,yf,CZ,this]
theorem aih {k k':IntKind}:mQ (.int k) (.v (.int k' a))=some (.v (.int k (k.wrap a))):=rfl
theorem II (h:0≤a) (h2:a<18446744073709551616):IntKind.u64.wrap a=a:=by
 have e1:((2:Int)^(64:Nat))=18446744073709551616:=by decide
 show(if(false&&decide (a%(2:Int)^(64:Nat)≥(2:Int)^(64-1:Nat)))=true then a%(2:Int)^(64:Nat)-(2:Int)^(64:Nat)else a%(2:Int)^(64:Nat))=a
 simp only[e1,lr]
 simp;omega
theorem afT:cC .shr (.v (.int .u64 a)) (.v (.int .u64 1))=some (.v (.int .u64 (a/2))):=by
 have:a.fdiv 2=a/2:=by rw[Uh _ (by decide)]
 simp[cC,pI,rN,IntKind.bits,this]
theorem atr {c':Int}:rJ true [.v (.int .i64 a),.v (.int .i64 b),.v (.int .i64 c')]=some (.v (.int .i64 (max (max a b) c'))):=by
 have h1:(if b>a then b else a)=max a b:=by split<;>omega
 have h2:(if c'>max a b then c' else max a b)=max (max a b) c':=by split<;>omega
 simp only[rJ,yf,CZ,cI,h1,h2]
theorem aiT {x:AV} {r:List AV}:y0 0 (.tuple (x::r))=some x:=rfl
theorem aiU {x y:AV} {r:List AV}:y0 1 (.tuple (x::y::r))=some y:=rfl
theorem aiV {x y z:AV} {r:List AV}:y0 2 (.tuple (x::y::z::r))=some z:=rfl
theorem aa2 {o:Own} {es:Nat} {xs:List (List AV)}:oR false (.slice o es xs)=some (.v (.int .i64 xs.length)):=rfl
theorem as6 {x:ByteArray}:oR true (.v (.string x))=some (.v (.int .i64 x.size)):=rfl
theorem ajC {rs:List iy} {own:Bool} {st:St}:aR rs own .normal st=finish rs own st:=rfl
theorem ajD {rs:List iy} {own:Bool} {st:St}:aR rs own .ret st=finish rs own st:=rfl
theorem ajF {rs:List iy} {st:St}:finish rs false st=(sZ st rs).map fun l=>(packed l,st.sig.pop):=rfl
theorem awH {st:St}:sZ st []=some []:=rfl
theorem awG {st:St} {r:iy} {rest:List iy}:sZ st (r::rest)=(((uB st r).bind (dL st.sig)).bind fun x=>(sZ st rest).map fun s=>x::s):=by
 simp only[sZ]
 cases(uB st r).bind (dL st.sig)<;>cases sZ st rest<;>rfl
theorem awt {ρ:Nat→AV} {m:ae} {t:Nat}:uB ⟨ρ,m⟩ (.tmp t)=some (ρ t):=rfl
theorem aws {ρ:Nat→AV} {m:ae} {g:Bool} {n t:Nat}:uB ⟨ρ,m⟩ (.cell g n t)=m.load g n (ρ t):=rfl
theorem au1:packed []=.tuple []:=rfl
theorem au2 {x:AV}:packed [x]=x:=rfl
theorem au3 {x y:AV} {r:List AV}:packed (x::y::r)=.tuple (x::y::r):=rfl
section
variable{m:ae} {x:Value} {cs:List AV}
theorem asC {k:IntKind} {n:Int}:dL m (.v (.int k n))=some (.v (.int k n)):=rfl
theorem asx {b:Bool}:dL m (.v (.bool b))=some (.v (.bool b)):=rfl
theorem asK {b:ByteArray}:dL m (.v (.string b))=some (.v (.string b)):=rfl
theorem asv:dL m (.agg cs)=(nW m cs).map .agg:=rfl
theorem asD {es:Nat} {xs:List (List AV)}:dL m (.slice .aA es xs)=some (.slice .aA es xs):=rfl
theorem asw {es:Nat} {xs:List (List AV)}:dL m (.slice .any es xs)=some (.slice .any es xs):=rfl
theorem asA {es:Nat} {xs:List (List AV)}:dL m (.slice .full es xs)=some (.slice .full es xs):=rfl
theorem asL {d g es:Nat} {xs:List (List AV)}:dL m (.slice (.tok d g) es xs)=some (.slice .any es xs):=rfl
theorem asX:nW m []=some []:=rfl
theorem leaves_cons {x:AV} {r:List AV}:nW m (x::r)=(eR m x).bind fun y=>(nW m r).map fun s=>y::s:=by
 simp only[nW]
 cases eR m x<;>cases nW m r<;>rfl
theorem asR {k:IntKind} {n:Int}:eR m (.v (.int k n))=some (.v (.int k n)):=rfl
theorem asO {b:Bool}:eR m (.v (.bool b))=some (.v (.bool b)):=rfl
theorem asV {b:ByteArray}:eR m (.v (.string b))=some (.v (.string b)):=rfl
theorem asS {es:Nat} {xs:List (List AV)}:eR m (.slice .aA es xs)=some (.slice .aA es xs):=rfl
theorem asN {es:Nat} {xs:List (List AV)}:eR m (.slice .any es xs)=some (.slice .any es xs):=rfl
theorem asQ {es:Nat} {xs:List (List AV)}:eR m (.slice .full es xs)=some (.slice .full es xs):=rfl
theorem asW {d g es:Nat} {xs:List (List AV)}:eR m (.slice (.tok d g) es xs)=some (.slice .any es xs):=rfl
end
end
attribute [go_sem] aih afT afB afU afN afR afS afC afO afL afJ afH afF ayB ayA abm atr ats aiT aiU aiV aa2 as6
attribute [go_sem] ajC ajD ajF awH awG awt aws au1 au2 au3 asC asx asK asv asD asw asA asL asX leaves_cons asR asO asV asS asN asQ asW
attribute [go_sem] pop_push dJ dI Option.map_none Option.bind_none fR pb gL fZ AV.cells cH jU AV.bK tm Ap Am kQ Aq IY iK Us UJ DM DJ NX agJ agI agM agL Is jW ie nC Xg vf ahJ ahF ahH ahL
section
variable{o:Own} {es:Nat} {xs:List (List AV)} {k:Nat} {row:List AV}
theorem H0 (h:xs[k]? =some row):gR none es (.slice o es xs) (.v (.int .i64 (k:Int)))=some (.bd row 0):=by
 have hk:k<xs.length:=(bI.1 h).1
 have:(0:Int)≤(k:Int)∧(k:Int)<(xs.length:Int):=by omega
 simp only[gR,cI,idx,aj this,dI,pT,h,dJ]
theorem idx_eq {k:IntKind} {n:Int} {len:Nat}:idx (.v (.int k n)) len=if 0≤n∧n<len then some n.toNat else none:=rfl
theorem aos {n es:Nat} {g:Bool} {cs:List AV} {j:AV}:HV n es g (.agg cs) j=(idx j n).bind fun k=>part g es cs (k*es):=rfl
theorem ajx {n off:Nat} {g:Bool} {cs:List AV}:GS g n off (.agg cs)=part g n cs off:=rfl
theorem aoi {n d b off es:Nat} {j:AV}:gR (some n) es (.ptr d b off) j=(idx j n).map fun k=>.ptr d b (off+k*es):=rfl
theorem aoh {n off es:Nat} {cs:List AV} {j:AV}:gR (some n) es (.bd cs off) j=(idx j n).map fun k=>.bd cs (off+k*es):=rfl
theorem ay4 (x:Int):IntKind.i64.wrap x=if 9223372036854775808≤x%18446744073709551616 then x%18446744073709551616-18446744073709551616 else x%18446744073709551616:=by
 have e1:((2:Int)^(64:Nat))=18446744073709551616:=by decide
 have e2:((2:Int)^(64-1:Nat))=9223372036854775808:=by decide
 show(if(true&&decide (x%(2:Int)^(64:Nat)≥(2:Int)^(64-1:Nat)))=true then x%(2:Int)^(64:Nat)-(2:Int)^(64:Nat)else x%(2:Int)^(64:Nat))=_
 simp only[e1,e2,kQ,fB,ge_iff_le]
theorem bq {x:Int} (h1:-9223372036854775808≤x) (h2:x<9223372036854775808):IntKind.i64.wrap x=x:=by
 rw[ay4];split<;>omega
theorem bh {k n:Nat} (h:k<n) (hn:(n:Int)<9223372036854775808):IntKind.i64.wrap ((k:Int)+1)=((k+1:Nat):Int):=by
 rw[bq]<;>omega
end
section
variable{c:Bool} {x y z:AV} {a b:Bool} {n k:Int}
theorem aht:cond c (cond c x y) z=cond c x z:=by cases c<;>rfl
theorem ahu:cond c x (cond c y z)=cond c x z:=by cases c<;>rfl
theorem ahq:cond c (AV.v (.bool a)) (AV.v (.bool b))=.v (.bool (cond c a b)):=by cases c<;>rfl
theorem ahs:cond c (AV.v (.int .i64 n)) (AV.v (.int .i64 k))=.v (.int .i64 (cond c n k)):=by cases c<;>rfl
theorem ahr:cond c a false=(c&&a):=by cases c<;>simp
theorem ahv:cond c true a=(c||a):=by cases c<;>simp
end
attribute [go_sem] bq idx_eq aos ajx aoi aoh DW IH wX ov th beq_self_eq_true Bool.cond_self tO se aht ahu ahq ahs ahr ahv
end Go.Ax.Sx
/-
  How plain data look to the executor; loops over slices.
-/
namespace Go.Ax.Sx
abbrev I (n:Int):AV:=.v (.int .i64 n)
abbrev B (b:Bool):AV:=.v (.bool b)
def inI (x:Int):Prop:=-9223372036854775808≤x∧x<9223372036854775808
def ints (l:List Int):List (List AV):=l.map fun n=>[I n]
theorem aoy {l:List Int}:(ints l).length=l.length:=by simp[ints]
theorem aox {l:List Int} {k:Nat} {x:Int} (h:l[k]? =some x):(ints l)[k]? =some [I x]:=by simp[ints,h]
section
variable{AP:FuncId→Option aE} {F:c8→St→Option (AV×ae)} {L:au} {ks:List K}
theorem bA (N:Nat) (P:Nat→(Nat→AV)→ae→Prop) (R:Nat→Option (AV×ae))
  (step:∀k ρ m,k<N→P k ρ m→(∀ρ' m',P (k+1) ρ' m'→go AP F (.c (.loop L)::ks) ⟨ρ',m'⟩=R (k+1))→go AP F (.c L::.lp L::ks) ⟨ρ,m⟩=R k)
  (last:∀ρ m,P N ρ m→go AP F (.c L::.lp L::ks) ⟨ρ,m⟩=R N):
  ∀k ρ m,k≤N→P k ρ m→go AP F (.c (.loop L)::ks) ⟨ρ,m⟩=R k:=by
 intro k ρ m hk hP
 induction h:N-k generalizing k ρ m with
 |zero=>
  have e:k=N:=by omega
  subst e
  rw[go_loop];exact last ρ m hP
 |succ n ih=>
  rw[go_loop]
  exact step k ρ m (by omega) hP (fun ρ' m' vp=>ih (k+1) ρ' m' (by omega) vp (by omega))
theorem SK (hi:Int) (P:Int→(Nat→AV)→ae→Prop) (R:Int→Option (AV×ae))
  (step:∀i ρ m,i≤hi→P i ρ m→(∀ρ' m',P (i+1) ρ' m'→go AP F (.c (.loop L)::ks) ⟨ρ',m'⟩=R (i+1))→go AP F (.c L::.lp L::ks) ⟨ρ,m⟩=R i)
  (last:∀i ρ m,hi<i→P i ρ m→go AP F (.c L::.lp L::ks) ⟨ρ,m⟩=R i):
  ∀i ρ m,P i ρ m→go AP F (.c (.loop L)::ks) ⟨ρ,m⟩=R i:=by
 intro i ρ m hP
 induction h:(hi+1-i).toNat generalizing i ρ m with
 |zero=>rw[go_loop];exact last i ρ m (by omega) hP
 |succ n ih=>
  rw[go_loop]
  exact step i ρ m (by omega) hP (fun ρ' m' vp=>ih (i+1) ρ' m' vp (by omega))
theorem SJ (N:Nat) (P:Nat→(Nat→AV)→ae→Prop) (R:Option (AV×ae)→Prop)
  (step:∀k ρ m,k<N→P k ρ m→(∀ρ' m',P (k+1) ρ' m'→R (go AP F (.c (.loop L)::ks) ⟨ρ',m'⟩))→R (go AP F (.c L::.lp L::ks) ⟨ρ,m⟩))
  (last:∀ρ m,P N ρ m→R (go AP F (.c L::.lp L::ks) ⟨ρ,m⟩)):
  ∀k ρ m,k≤N→P k ρ m→R (go AP F (.c (.loop L)::ks) ⟨ρ,m⟩):=by
 intro k ρ m hk hP
 induction h:N-k generalizing k ρ m with
 |zero=>
  have e:k=N:=by omega
  subst e
  rw[go_loop];exact last ρ m hP
 |succ n ih=>
  rw[go_loop]
  exact step k ρ m (by omega) hP (fun ρ' m' vp=>ih (k+1) ρ' m' (by omega) vp (by omega))
theorem atd (hi:Int) (P:Int→(Nat→AV)→ae→Prop) (R:Option (AV×ae)→Prop)
  (step:∀i ρ m,i≤hi→P i ρ m→(∀ρ' m',P (i+1) ρ' m'→R (go AP F (.c (.loop L)::ks) ⟨ρ',m'⟩))→R (go AP F (.c L::.lp L::ks) ⟨ρ,m⟩))
  (last:∀i ρ m,hi<i→P i ρ m→R (go AP F (.c L::.lp L::ks) ⟨ρ,m⟩)):
  ∀i ρ m,P i ρ m→R (go AP F (.c (.loop L)::ks) ⟨ρ,m⟩):=by
 intro i ρ m hP
 induction h:(hi+1-i).toNat generalizing i ρ m with
 |zero=>rw[go_loop];exact last i ρ m (by omega) hP
 |succ n ih=>
  rw[go_loop]
  exact step i ρ m (by omega) hP (fun ρ' m' vp=>ih (i+1) ρ' m' vp (by omega))
theorem gO {α:Type} {l:List α} {k:Nat} {x:α} (h:l[k]? =some x):l.drop k=x::l.drop (k+1):=by
 have hk:=(bI.1 h).1
 rw[List.drop_eq_getElem_cons hk];congr 1
 exact(bI.1 h).2
theorem get_some {α:Type} {l:List α} {k:Nat} (h:k<l.length):∃x,l[k]? =some x:=⟨l[k],dq h⟩
theorem du {α:Type} {l:List α} {k:Nat} {x:α} (h:l[k]? =some x):l.take (k+1)=l.take k++[x]:=by
 rw[List.take_add_one,h];rfl
theorem aL {k n:Nat} (h:k<n):decide ((k:Int)<(n:Int))=true:=by simp;omega
theorem bg (n:Nat):decide ((n:Int)<(n:Int))=false:=by simp
end
theorem dec_lt (a b:Int):decide (b<a)=!decide (a≤b):=by
 by_cases h:a≤b
 ·simp[h]
 ·simp[h];omega
section
variable{α:Type} {l r:List α} {x x1 x2 x3 y:α}
theorem at_len:(l++x::r)[l.length]? =some x:=by simp
theorem AN:(l++x1::x::r)[l.length+1]? =some x:=by simp
theorem af0:(l++x1::x2::x::r)[l.length+1+1]? =some x:=by
 rw[jy (by omega)];simp[show l.length+1+1-l.length=2 by omega]
theorem af1:(l++x1::x2::x3::x::r)[l.length+1+1+1]? =some x:=by
 rw[jy (by omega)];simp[show l.length+1+1+1-l.length=3 by omega]
theorem adh:(l++x::r).set l.length y=l++y::r:=by simp
theorem TK:(l++x1::x::r).set (l.length+1) y=l++x1::y::r:=by
 rw[Ay _ _ (by omega)];simp
theorem axy:(l++x1::x2::x::r).set (l.length+1+1) y=l++x1::x2::y::r:=by
 rw[Ay _ _ (by omega)];simp[show l.length+1+1-l.length=2 by omega]
theorem axz:(l++x1::x2::x3::x::r).set (l.length+1+1+1) y=l++x1::x2::x3::y::r:=by
 rw[Ay _ _ (by omega)];simp[show l.length+1+1+1-l.length=3 by omega]
theorem as0:(l++[x]).length=l.length+1:=by simp
theorem as1:(l++[x,x1]).length=l.length+1+1:=by simp
theorem as4:(l++[x,x1,x2]).length=l.length+1+1+1:=by simp
end
attribute [go_sem] at_len AN af0 af1 adh TK axy axz as0 as1 as4 gK
def bB (es:Nat):List (List AV)→AV
 |[]=>.slice .aA 0 []
 |x::r=>.slice .any es (x::r)
def Acc (d es:Nat) (xs:List (List AV)) (x:AV) (og:Option Nat) (toks:List (Option Nat)):Prop:=
 match og with
 |none=>xs=[]∧x=.slice .aA 0 []
 |some g=>xs≠[]∧x=.slice (.tok d g) es xs∧toks[g]? =some (some xs.length)
theorem Acc.start {d es:Nat} {toks:List (Option Nat)}:Acc d es [] (.slice .aA 0 []) none toks:=⟨rfl,rfl⟩
theorem Acc.append {s:ae} {es:Nat} {xs:List (List AV)} {x:AV} {og:Option Nat} {toks:List (Option Nat)} (h:Acc s.ag.length es xs x og toks) (hs:Ok s) (o:Own) {ys:List (List AV)} (hy:ys≠[]) (hl:xs.length+ys.length≤4294967296):
  ∃x' bQ toks',(∀boxes,et (s.push ⟨boxes,toks⟩) es x (.slice o es ys)=some (x',s.push ⟨boxes,toks'⟩))∧Acc s.ag.length es (xs++ys) x' bQ toks'∧bQ≠none∧
   (∀ph pS x2 fb,Acc s.ag.length ph pS x2 fb toks→(fb≠og∨fb=none)→Acc s.ag.length ph pS x2 fb toks'∧fb≠bQ):=by
 have pG:ys.isEmpty=false:=by cases ys<;>simp_all
 cases og with
 | none =>
  obtain⟨rfl,rfl⟩:=h
  refine⟨.slice (.tok s.ag.length toks.length) es ys,some toks.length,toks++[some ys.length],fun boxes=>?_,⟨by simpa using hy,rfl,by simp⟩,by simp,?_⟩
  ·have:ys.length≤4294967296:=by simpa using hl
   simp[et,pG,Own.isNil,dD,this,pO,oC]
  ·intro ph pS x2 fb h2 _
   cases fb with
   |none=>exact⟨h2,by simp⟩
   |some g=>
    obtain⟨a,b,c⟩:=h2
    have:=(bI.1 c).1
    exact⟨⟨a,b,by rw[dG this];exact c⟩,by simp;omega⟩
 | some g =>
  obtain⟨hx,rfl,hg⟩:=h
  refine⟨.slice (.tok s.ag.length g) es (xs++ys),some g,toks.set g (some (xs.length+ys.length)),fun boxes=>?_,⟨by simp[hx],rfl,?_⟩,by simp,?_⟩
  ·simp[et,pG,dD,hl,Aj,hg,M8,hs.ro,Iu]
  ·rw[wH (bI.1 hg).1];simp
  ·intro ph pS x2 fb h2 aF
   cases fb with
   |none=>exact⟨h2,by simp⟩
   |some g2=>
    obtain⟨a,b,c⟩:=h2
    have aF:g2≠g:=by rcases aF with h|h<;>simp_all
    exact⟨⟨a,b,by rw[uM (fun e=>aF e.symm)];exact c⟩,by simpa using aF⟩
section
variable{d es:Nat} {xs:List (List AV)} {x:AV} {og:Option Nat} {toks:List (Option Nat)}
theorem Acc.leave (h:Acc d es xs x og toks) (m:ae):dL m x=some (bB es xs):=by
 cases og with
 |none=>obtain⟨rfl,rfl⟩:=h;rfl
 |some g=>
  obtain⟨hx,rfl,_⟩:=h
  cases xs with
  |nil=>exact absurd rfl hx
  |cons a r=>rfl
theorem Acc.yb (h:Acc d es xs x og toks) (m:ae):eR m x=some (bB es xs):=by
 cases og with
 |none=>obtain⟨rfl,rfl⟩:=h;rfl
 |some g=>
  obtain⟨hx,rfl,_⟩:=h
  cases xs with
  |nil=>exact absurd rfl hx
  |cons a r=>rfl
theorem Acc.close (h:Acc d es xs x og toks):x.close=some (bB es xs):=by
 cases og with
 |none=>obtain⟨rfl,rfl⟩:=h;rfl
 |some g=>
  obtain⟨hx,rfl,_⟩:=h
  cases xs with
  |nil=>exact absurd rfl hx
  |cons a r=>rfl
theorem Acc.len (h:Acc d es xs x og toks):oR false x=some (.v (.int .i64 xs.length)):=by
 cases og with
 |none=>obtain⟨rfl,rfl⟩:=h;rfl
 |some g=>obtain⟨hx,rfl,_⟩:=h;rfl
theorem Acc.bK (h:Acc d es xs x og toks):x.bK=true:=by
 cases og with
 |none=>obtain⟨rfl,rfl⟩:=h;rfl
 |some g=>obtain⟨hx,rfl,_⟩:=h;rfl
end
def xo:List (List AV)→Own
 |[]=>.full
 |_::_=>.any
def uG (d es:Nat) (xs:List (List AV)) (x:AV) (og:Option Nat) (toks:List (Option Nat)):Prop:=
 match og with
 |none=>xs=[]∧x=.slice .full es []
 |some g=>xs≠[]∧x=.slice (.tok d g) es xs∧toks[g]? =some (some xs.length)
theorem uG.start {d es:Nat} {toks:List (Option Nat)}:uG d es [] (.slice .full es []) none toks:=⟨rfl,rfl⟩
theorem uG.append {s:ae} {es:Nat} {xs:List (List AV)} {x:AV} {og:Option Nat} {toks:List (Option Nat)} (h:uG s.ag.length es xs x og toks) (hs:Ok s) (o:Own) {ys:List (List AV)} (hy:ys≠[]) (hl:xs.length+ys.length≤4294967296):
  ∃x' bQ toks',(∀boxes,et (s.push ⟨boxes,toks⟩) es x (.slice o es ys)=some (x',s.push ⟨boxes,toks'⟩))∧uG s.ag.length es (xs++ys) x' bQ toks'∧bQ≠none∧
   (∀ph pS x2 fb,uG s.ag.length ph pS x2 fb toks→(fb≠og∨fb=none)→uG s.ag.length ph pS x2 fb toks'∧fb≠bQ):=by
 have pG:ys.isEmpty=false:=by cases ys<;>simp_all
 cases og with
 | none =>
  obtain⟨rfl,rfl⟩:=h
  refine⟨.slice (.tok s.ag.length toks.length) es ys,some toks.length,toks++[some ys.length],fun boxes=>?_,⟨by simpa using hy,rfl,by simp⟩,by simp,?_⟩
  ·have:ys.length≤4294967296:=by simpa using hl
   simp[et,pG,Own.isNil,dD,this,pO,oC]
  ·intro ph pS x2 fb h2 _
   cases fb with
   |none=>exact⟨h2,by simp⟩
   |some g=>
    obtain⟨a,b,c⟩:=h2
    have:=(bI.1 c).1
    exact⟨⟨a,b,by rw[dG this];exact c⟩,by simp;omega⟩
 | some g =>
  obtain⟨hx,rfl,hg⟩:=h
  refine⟨.slice (.tok s.ag.length g) es (xs++ys),some g,toks.set g (some (xs.length+ys.length)),fun boxes=>?_,⟨by simp[hx],rfl,?_⟩,by simp,?_⟩
  ·simp[et,pG,dD,hl,Aj,hg,M8,hs.ro,Iu]
  ·rw[wH (bI.1 hg).1];simp
  ·intro ph pS x2 fb h2 aF
   cases fb with
   |none=>exact⟨h2,by simp⟩
   |some g2=>
    obtain⟨a,b,c⟩:=h2
    have aF:g2≠g:=by rcases aF with h|h<;>simp_all
    exact⟨⟨a,b,by rw[uM (fun e=>aF e.symm)];exact c⟩,by simpa using aF⟩
theorem uG.leave {d es:Nat} {xs:List (List AV)} {x:AV} {og:Option Nat} {toks:List (Option Nat)} (h:uG d es xs x og toks) (m:ae):dL m x=some (.slice (xo xs) es xs):=by
 cases og with
 |none=>obtain⟨rfl,rfl⟩:=h;rfl
 |some g=>
  obtain⟨hx,rfl,_⟩:=h
  cases xs with
  |nil=>exact absurd rfl hx
  |cons a r=>rfl
theorem ahW {s:ae} {r:Rec} {es:Nat} {x:AV} {xs:List (List AV)} {o:Own} (hx:x=.slice o es xs) (hl:xs.length≤4294967296):
  ∃x' t',et (s.push r) es (.slice .full es []) x=some (x',s.push ⟨r.boxes,t'⟩)∧∀m,dL m x'=some (.slice (xo xs) es xs):=by
 subst hx
 cases xs with
 |nil=>exact⟨.slice .full es [],r.toks,by simp[et],fun m=>rfl⟩
 |cons a l=>
  refine⟨.slice (.tok s.ag.length r.toks.length) es (a::l),r.toks++[some (l.length+1)],?_,fun m=>rfl⟩
  have nM:l.length+1≤4294967296:=by simpa using hl
  simp[et,Own.isNil,dD,nM,pO,oC]
theorem MF {es k:Nat} {xs:List (List AV)} {row:List AV} (h:xs[k]? =some row):gR none es (bB es xs) (.v (.int .i64 (k:Int)))=some (.bd row 0):=by
 cases xs with
 |nil=>simp at h
 |cons a r=>exact H0 h
theorem SH {es:Nat} {xs:List (List AV)}:oR false (bB es xs)=some (.v (.int .i64 xs.length)):=by cases xs<;>rfl
theorem asu {es:Nat} {xs:List (List AV)} {m:ae}:dL m (bB es xs)=some (bB es xs):=by cases xs<;>rfl
theorem asM {es:Nat} {xs:List (List AV)} {m:ae}:eR m (bB es xs)=some (bB es xs):=by cases xs<;>rfl
theorem ahE {es:Nat} {xs:List (List AV)}:(bB es xs).close=some (bB es xs):=by cases xs<;>rfl
theorem aoA {es:Nat} {xs:List (List AV)}:(bB es xs).bK=true:=by cases xs<;>rfl
theorem ahw {es:Nat} {xs:List (List AV)}:(bB es xs).cells=[bB es xs]:=by cases xs<;>rfl
attribute [go_sem] SH asu asM ahE aoA ahw
def eB:List Int→Int
 |[]=>0
 |e::r=>if e=0 then eB r else e
end Go.Ax.Sx
/-
  Loops over functions: the rounds.
-/
namespace Go.Ax.Sx
section
variable{AP:FuncId→Option aE} {Fin:c8→St→Option (AV×ae)} {ks:List K} {ρ:Nat→AV} {m S:ae} {l:Nat} {lp:da}
noncomputable def xG (AP:FuncId→Option aE) (Fin:c8→St→Option (AV×ae)) (l:Nat) (ks:List K) (ρ:Nat→AV) (s:ae):Option (AV×ae):=
 (ya s l).bind fun p=>iS AP Fin ks (p.1.getD .normal) ⟨ρ,p.2⟩
theorem B7 {x:aJ} {ps:List Nat} {a b:au} {g:FuncId} {first caps:List AV} (h:aD ρ x=.fn g first caps):
  go AP Fin (.c (.rangeFunc x ps a b)::ks) ⟨ρ,m⟩=(aw AP (.fn g) (first++.yield m.loops.length::caps) (enterLoop m ⟨true,none,ρ,ps,a,b⟩)).bind fun p=>xG AP Fin m.loops.length ks ρ p.2:=by
 simp only[go,iS,awX,h,xG]
 cases aw AP (.fn g) (first++.yield m.loops.length::caps) (enterLoop m ⟨true,none,ρ,ps,a,b⟩)with
 |none=>rfl
 |some p=>
  obtain⟨x,s⟩:=p
  simp only[dI]
  cases ya s m.loops.length with
  |none=>rfl
  |some q=>rfl
theorem SE (h:m.loops.length=l) (hr:lp.ready=true∨lp.eH.isSome=true):ya (enterLoop m lp) l=some (lp.eH,m):=by
 subst h
 have:(lp.ready=true∨lp.eH.isSome=true):=hr
 simp[ya,enterLoop,this]
theorem B6 (h:m.loops.length=l) (hr:lp.ready=true) (hp:lp.eH=none):xG AP Fin l ks ρ (enterLoop m lp)=go AP Fin ks ⟨ρ,m⟩:=by
 rw[xG,SE h (.inl hr),hp];rfl
theorem YK (h:m.loops.length=l) (hp:lp.eH=some .ret):xG AP Fin l ks ρ (enterLoop m lp)=Fin .ret ⟨ρ,m⟩:=by
 rw[xG,SE h (.inr (by simp[hp])),hp]
 exact G7 (ks:=ks)
theorem akq {j:Nat} (h:m.loops.length=l) (hp:lp.eH=some (.exit j)):xG AP Fin l ks ρ (enterLoop m lp)=tU AP Fin j ks ⟨ρ,m⟩:=by
 rw[xG,SE h (.inr (by simp[hp])),hp];rfl
structure kS (l:Nat) (lp:da) (S:ae):Prop where
 get:S.loops[l]? =some lp
 ready:lp.ready=true
 eH:lp.eH=none
 cq:S.cq≤l
def busy (l:Nat) (S:ae):ae:=ef S l fun p=>{p with ready:=false}
def over (l:Nat) (e:c8) (S:ae):ae:=ef S l fun p=>{p with ready:=false,eH:=some e}
theorem agQ {d b:Nat}:(busy l S).box d b=S.box d b:=rfl
theorem Ok.busy (h:Ok S):Ok (busy l S):=⟨h.ro,by have:=h.cq;simp[Sx.busy,ef];exact this⟩
theorem Ok.over {e:c8} (h:Ok S):Ok (over l e S):=⟨h.ro,by have:=h.cq;simp[Sx.over,ef];exact this⟩
theorem Ok.enter (h:Ok S):Ok (enterLoop S lp):=⟨h.ro,by have:=h.cq;simp[enterLoop];omega⟩
theorem aiC {d b:Nat}:(enterLoop S lp).box d b=S.box d b:=rfl
theorem TJ {r:Rec} {f:da→da}:ef (S.push r) l f=(ef S l f).push r:=rfl
theorem GK {ρ:Nat→AV} {ps:List Nat} {a b:au} (h:Ok m):kS m.loops.length ⟨true,none,ρ,ps,a,b⟩ (enterLoop m ⟨true,none,ρ,ps,a,b⟩):=⟨by simp[enterLoop],rfl,rfl,h.cq⟩
theorem kS.push (h:kS l lp S) (r:Rec):kS l lp (S.push r):=⟨h.get,h.ready,h.eH,h.cq⟩
theorem agP (h:kS l lp S):ef (busy l S) l (fun p=>{p with ready:=true,eH:=none})=S:=by
 have e:(S.loops.modify l fun p=>{p with ready:=false}).modify l (fun p=>{p with ready:=true,eH:=none})=S.loops:=by
  apply mM
  intro i
  simp only[wG]
  by_cases hi:l=i
  ·subst hi
   have:=h.get
   rw[this]
   obtain⟨a,b,c,d,f,g⟩:=lp
   have h1:=h.ready
   have h2:=h.eH
   simp at h1 h2
   simp[h1,h2]
  ·simp[hi]
 simp only[busy,ef,e]
noncomputable def Lf (AP:FuncId→Option aE) (l:Nat) (body:au) (e:c8) (st:St):Option (AV×ae):=
 match e with
 |.normal=>if CY st.sig l=true then go AP (jC l) [.c body] ⟨st.tmps,busy l st.sig⟩else none
 |_=>none
theorem akJ {body:au} {st:St}:go AP (jC l) [.c body] st=endRound l (fF AP body st):=by
 simp only[go,iS,jC]
 cases fF AP body st with
 |none=>rfl
 |some p=>rfl
theorem BF {as:List AV} (h:kS l lp S) (hl:as.length=lp.params.length):
  aw AP (.yield l) as S=go AP (Lf AP l lp.body) [.c lp.assign] ⟨uD lp.tmps lp.params as,S.push ⟨[],[]⟩⟩:=by
 rw[ahc,h.get]
 simp only
 rw[aj ⟨h.ready,h.cq,hl⟩]
 simp only[go,iS,Lf]
 cases fF AP lp.assign ⟨uD lp.tmps lp.params as,S.push ⟨[],[]⟩⟩with
 |none=>rfl
 | some p =>
  obtain⟨e,st⟩:=p
  cases e with
  |normal=>
   simp only[dI]
   have:=akJ (AP:=AP) (l:=l) (body:=lp.body) (st:=⟨st.tmps,busy l st.sig⟩)
   simp only[go,iS]at this
   rw[this];rfl
  |exit j=>rfl
  |ret=>rfl
theorem xv {body:au} {r:Rec} (h:kS l lp S):Lf AP l body .normal ⟨ρ,S.push r⟩=go AP (jC l) [.c body] ⟨ρ,(busy l S).push r⟩:=by
 have:CY (S.push r) l=true:=by
  simp only[CY,ae.push,h.get,h.ready]
 simp only[Lf,this,cI];rfl
theorem GU {r:Rec} (h:kS l lp S):jC l .normal ⟨ρ,(busy l S).push r⟩=some (.v (.bool true),S):=by
 simp only[jC,endRound,TJ,agP h,pop_push]
theorem ab2 {e:c8}:ef (busy l S) l (fun p=>{p with ready:=false,eH:=some e})=over l e S:=by
 have:(S.loops.modify l fun p=>{p with ready:=false}).modify l (fun p=>{p with ready:=false,eH:=some e})=S.loops.modify l fun p=>{p with ready:=false,eH:=some e}:=by
  apply mM
  intro i
  simp only[wG]
  by_cases hi:l=i
  ·cases S.loops[i]? <;>simp[hi]
  ·simp[hi]
 simp only[busy,over,ef,this]
theorem Yk {r:Rec}:jC l .ret ⟨ρ,(busy l S).push r⟩=some (.v (.bool false),over l .ret S):=by
 simp only[jC,endRound,TJ,ab2,pop_push]
theorem Yl {r:Rec} {j:Nat}:jC l (.exit j) ⟨ρ,(busy l S).push r⟩=some (.v (.bool false),over l (.exit j) S):=by
 simp only[jC,endRound,TJ,ab2,pop_push]
theorem ab3 {e:c8}:over m.loops.length e (enterLoop m lp)=enterLoop m {lp with ready:=false,eH:=some e}:=by
 have:∀(f:da→da) (L:List da),(L++[lp]).modify L.length f=L++[f lp]:=by
  intro f L
  induction L with
  |nil=>rfl
  |cons a L ih=>simpa using ih
 simp only[over,ef,enterLoop,this]
theorem wj {p:Nat} {x:AV}:uD ρ [p] [x]=put p x ρ:=rfl
theorem axw:uD ρ [] []=ρ:=rfl
end
section
variable{S s:ae} {r:Rec} {d b l:Nat} {lp:da}
theorem aa9:s.ag.length<(s.push r).ag.length:=by simp[ae.push]
theorem aa8 (h:d<S.ag.length):d<(S.push r).ag.length:=by simp[ae.push];omega
theorem ate (h:d<S.ag.length):d<(busy l S).ag.length:=h
theorem atf (h:d<S.ag.length):d<(enterLoop S lp).ag.length:=h
theorem P7 (h:d<S.ag.length):(S.push r).box d b=S.box d b:=by
 simp only[ae.box,ae.push]
 rw[dG h]
theorem agF:((busy l S).push r).box S.ag.length b=r.boxes[b]? :=ib (busy l S) r b
theorem afZ {α:Type} {l r:List α} {k:Nat}:(l++r)[l.length+k]? =r[k]? :=by
 rw[jy (by omega)];congr 1;omega
theorem axx {α:Type} {l r:List α} {k:Nat} {y:α}:(l++r).set (l.length+k) y=l++r.set k y:=by
 rw[Ay _ _ (by omega)];congr 2;omega
end
attribute [go_sem] axx
attribute [go_sem] aa9 aa8 ate atf P7 agF afZ cG
attribute [go_sem] agQ Ok.busy Ok.over Ok.enter aiC Yk Yl wj axw
end Go.Ax.Sx
/-
  Slices that came in: their cells and who owns them.
-/
namespace Go.Ax.Sx
structure Sl (α:Type)where
 o:Own
 e:Nat
 l:List α
abbrev Sl.v {α:Type} (f:α→List AV) (x:Sl α):AV:=.slice x.o x.e (x.l.map f)
def Sl.ok {α:Type} (n:Nat) (x:Sl α):Prop:=(x.l=[]∨x.e=n)∧(x.o=.any∨x.o=.full∨(x.o=.aA∧x.l=[]))
section
variable{α:Type} {f:α→List AV} {x:Sl α} {n k:Nat} {a:α} {m:ae}
theorem cz {o:Own} {es:Nat} {l:List α} (hk:l[k]? =some a):gR none es (.slice o es (l.map f)) (.v (.int .i64 (k:Int)))=some (.bd (f a) 0):=H0 (by rw[iL,hk];rfl)
theorem Sl.ix (h:x.ok n) (hk:x.l[k]? =some a):gR none n (x.v f) (.v (.int .i64 (k:Int)))=some (.bd (f a) 0):=by
 have he:x.e=n:=by
  rcases h.1 with h|h
  ·rw[h]at hk;simp at hk
  ·exact h
 rw[Sl.v,he]
 exact H0 (by simp[hk])
theorem Sl.kI (h:x.ok n):(x.v f).kI=true:=by
 rcases h.2 with h|h|h<;>simp[Sl.v,AV.kI,h]
theorem Sl.close (h:x.ok n):(x.v f).close=some (x.v f):=by
 rcases h.2 with h|h|h<;>simp[Sl.v,AV.close,AV.isClosed,AV.kI,h]
theorem Sl.yb (h:x.ok n):eR m (x.v f)=some (x.v f):=by
 rcases h.2 with h|h|h<;>simp[Sl.v,eR,AV.close,AV.isClosed,AV.kI,h]
theorem Sl.leave (h:x.ok n):dL m (x.v f)=some (x.v f):=by
 rw[show dL m (x.v f)=eR m (x.v f)from rfl];exact Sl.yb h
end
attribute [go_sem] cg
section
variable{a b:Int} {x y:ByteArray} {k:Nat} {c:UInt8}
theorem afM:cC .lss (.v (.int .u8 a)) (.v (.int .u8 b))=some (.v (.bool (decide (a<b)))):=rfl
theorem afK:cC .leq (.v (.int .u8 a)) (.v (.int .u8 b))=some (.v (.bool (decide (a≤b)))):=rfl
theorem afI:cC .gtr (.v (.int .u8 a)) (.v (.int .u8 b))=some (.v (.bool (decide (b<a)))):=rfl
theorem afG:cC .geq (.v (.int .u8 a)) (.v (.int .u8 b))=some (.v (.bool (decide (b≤a)))):=rfl
theorem afD:cC .eql (.v (.int .u8 a)) (.v (.int .u8 b))=some (.v (.bool (decide (a=b)))):=by
 simp only[cC,pI,rH];by_cases h:a=b<;>simp[h]
theorem afP:cC .neq (.v (.int .u8 a)) (.v (.int .u8 b))=some (.v (.bool (decide (a≠b)))):=by
 simp only[cC,pI,rH];by_cases h:a=b<;>simp[h]
theorem afE:cC .eql (.v (.string x)) (.v (.string y))=some (.v (.bool (decide (x=y)))):=by
 have:s7 .eql x y=some (.bool (decide (x=y))):=by
  simp only[s7]
  congr 2
  by_cases h:x=y
  ·simp[h]
  ·have:¬x.data=y.data:=fun e=>h (IQ e)
   simp[h,this]
 simp[cC,this]
theorem afQ:cC .neq (.v (.string x)) (.v (.string y))=some (.v (.bool (decide (x≠y)))):=by
 have:s7 .neq x y=some (.bool (decide (x≠y))):=by
  simp only[s7]
  congr 2
  by_cases h:x=y
  ·simp[h]
  ·have:¬x.data=y.data:=fun e=>h (IQ e)
   simp[h,this]
 simp[cC,this]
theorem aif:mQ .bytes (.v (.string x))=some (.slice .any 1 (byteCells x)):=rfl
theorem agT:(byteCells x).length=x.data.size:=by simp[byteCells]
theorem agS (h:x.data.toList[k]? =some c):(byteCells x)[k]? =some [.v (.int .u8 c.toNat)]:=by simp[byteCells]at h⊢;simp[h]
end
attribute [go_sem] afM afK afI afG afD afP afE afQ aif agT
theorem asE {m:ae}:dL m (.v (.pointer none))=some (.v (.pointer none)):=rfl
theorem asT {m:ae}:eR m (.v (.pointer none))=some (.v (.pointer none)):=rfl
theorem ahK:(AV.v (.pointer none)).close=some (.v (.pointer none)):=rfl
theorem asy {m:ae} {cs:List AV} {off:Nat}:dL m (.bd cs off)=some (.bd cs off):=rfl
theorem asP {m:ae} {cs:List AV} {off:Nat}:eR m (.bd cs off)=some (.bd cs off):=rfl
theorem ahG {cs:List AV} {off:Nat}:(AV.bd cs off).close=some (.bd cs off):=rfl
theorem asF {s:ae} {r:Rec} {b off:Nat}:dL (s.push r) (.ptr s.ag.length b off)=(r.boxes[b]?).bind fun cs=>(closeAll cs).map fun cs'=>.bd cs' off:=by
 have:dL (s.push r) (.ptr s.ag.length b off)=eR (s.push r) (.ptr s.ag.length b off):=rfl
 rw[this,eR,aj (by rw[gD]),ib]
theorem asU {s:ae} {r:Rec} {b off:Nat}:eR (s.push r) (.ptr s.ag.length b off)=(r.boxes[b]?).bind fun cs=>(closeAll cs).map fun cs'=>.bd cs' off:=by
 rw[eR,aj (by rw[gD]),ib]
attribute [go_sem] asE asT ahK asy asP ahG asF asU
theorem atD {d b off:Nat}:zS (.ptr d b off)=some (.ptr d b off):=rfl
theorem MS {cs:List AV} {off:Nat}:zS (.bd cs off)=some (.bd cs off):=rfl
attribute [go_sem] atD MS
theorem aiP {ρ:aJ→AV}:qY ρ none=none:=.trans rfl rfl
theorem aiQ {ρ:aJ→AV} {x:aJ}:qY ρ (some x)=some (ρ x):=.trans rfl rfl
attribute [go_sem ↓] aiP aiQ
theorem Qs {a b:Bool}:pg .bool (.v (.bool a)) (.v (.bool b))=some (a==b):=rfl
attribute [go_sem] Qs
theorem awK {m:ae} {d b:Nat}:(dP m).box d b=m.box d b:=rfl
theorem EX {s:ae} {b0:List AV} {r:List (List AV)} {t:List (Option Nat)}:(s.push ⟨b0::r,t⟩).box s.ag.length 0=some b0:=by rw[ib];rfl
theorem P6 {s:ae} {b0 b1:List AV} {r:List (List AV)} {t:List (Option Nat)}:(s.push ⟨b0::b1::r,t⟩).box s.ag.length 1=some b1:=by rw[ib];rfl
def fg (l:List Int):Sl Int:=⟨xo (ints l),1,l⟩
theorem xq {l:List Int}:(fg l).ok 1:=by
 refine⟨.inr rfl,?_⟩
 cases l
 ·exact .inr (.inl rfl)
 ·exact .inl rfl
end Go.Ax.Sx
/-
  Functions that yield: what a round gets, and what stands behind all rounds.
-/
namespace Go.Ax.Sx
def up (S:ae) (B:List Rec) (ls:List da):ae:={S with ag:=S.ag++B,loops:=S.loops++ls}
section
variable{S:ae} {B:List Rec} {ls:List da} {r:Rec} {lp:da} {d b:Nat}
theorem Nq:(up S B ls).push r=up S (B++[r]) ls:=by simp[up,ae.push]
theorem Ik:S.push r=up S [r] []:=by simp[up,ae.push]
theorem ayJ {B':List Rec} {SL:List da}:up (up S B ls) B' SL=up S (B++B') (ls++SL):=by simp[up]
theorem aed:enterLoop (up S B ls) lp=up S B (ls++[lp]):=by simp[up,enterLoop]
theorem ayH:(up S B ls).ag.length=S.ag.length+B.length:=by simp[up]
theorem ayI:(up S B ls).loops.length=S.loops.length+ls.length:=by simp[up]
theorem Ok.up (h:Ok S):Ok (up S B ls):=⟨by have:=h.ro;simp[Sx.up];omega,by have:=h.cq;simp[Sx.up];omega⟩
theorem Nr:(up S (r::B) ls).box S.ag.length b=r.boxes[b]? :=by
 simp[ae.box,up]
theorem IL {l:Nat} (h:kS l lp S):kS l lp (up S B ls):=
 ⟨by have:=(bI.1 h.get).1;simp only[up];rw[dG this];exact h.get,h.ready,h.eH,h.cq⟩
theorem H9 {α:Type} {l l':List α} {k:Nat} {f:α→α} (h:k<l.length):(l++l').modify k f=l.modify k f++l':=by
 apply mM
 intro i
 rw[wG]
 by_cases hi:i<l.length
 ·rw[dG hi,dG (by simpa using hi),wG]
 ·rw[jy (by omega),jy (by simp;omega),NN]
  have:¬k=i:=by omega
  simp[this]
theorem IK {l:Nat} (h:l<S.loops.length):busy l (up S B ls)=up (busy l S) B ls:=by
 simp only[busy,ef,up,H9 h]
theorem aee {l:Nat} {e:c8} (h:l<S.loops.length):over l e (up S B ls)=up (over l e S) B ls:=by
 simp only[over,ef,up,H9 h]
end
section
variable{α ι:Type} (I:List α→ι→Prop) (stop:List α→α→Bool) (O:List α→α→ι→Prop)
def Ends:List α→List α→Bool→ι→Prop
 |done,[],b,i=>b=true∧I done i
 |done,x::r,b,i=>if stop done x=true then b=false∧O done x i else Ends (done++[x]) r b i
variable{I stop O}
theorem Ends.all {done xs:List α} {i:ι} (h:Ends I stop O done xs true i):I (done++xs) i:=by
 induction xs generalizing done with
 |nil=>simpa using h.2
 |cons x r ih=>
  simp only[Ends]at h
  split at h
  ·exact absurd h.1 (by simp)
  ·have:=ih h;simpa using this
theorem Ends.Jm {done xs ys:List α} {i i':ι} {b:Bool} (h:Ends I stop O done xs true i) (h':Ends I stop O (done++xs) ys b i'):Ends I stop O done (xs++ys) b i':=by
 induction xs generalizing done with
 |nil=>simpa using h'
 | cons x r ih =>
  simp only[Ends,fZ]at h⊢
  split at h
  ·exact absurd h.1 (by simp)
  ·rename_i hs
   rw[ak hs]
   exact ih h (by simpa using h')
theorem Ends.Vg {done xs:List α} (ys:List α) {i:ι} (h:Ends I stop O done xs false i):Ends I stop O done (xs++ys) false i:=by
 induction xs generalizing done with
 |nil=>exact absurd h.1 (by simp)
 |cons x r ih=>
  simp only[Ends,fZ]at h⊢
  split at h
  ·rename_i hs;rw[aj hs];exact h
  ·rename_i hs;rw[ak hs];exact ih h
theorem Ends.never {done xs:List α} {i:ι} {b:Bool} (hs:∀d x,stop d x=false) (h:Ends I stop O done xs b i):b=true∧I (done++xs) i:=by
 have:b=true:=by
  induction xs generalizing done with
  |nil=>exact h.1
  |cons x r ih=>
   simp only[Ends,hs]at h
   exact ih (by simpa using h)
 subst this
 exact⟨rfl,h.all⟩
theorem Ends.first {done xs:List α} {i:ι} (h:Ends I stop O done xs false i):∃pre x post,xs=pre++x::post∧O (done++pre) x i∧stop (done++pre) x=true∧∀p y q,pre=p++y::q→stop (done++p) y=false:=by
 induction xs generalizing done with
 |nil=>exact absurd h.1 (by simp)
 | cons x r ih =>
  simp only[Ends]at h
  split at h
  ·rename_i hs
   exact⟨[],x,r,rfl,by simpa using h.2,by simpa using hs,fun p y q e=>by simp at e⟩
  ·rename_i hs
   obtain⟨pre,y,post,e1,e2,e3,e4⟩:=ih h
   refine⟨x::pre,y,post,by simp[e1],by simpa using e2,by simpa using e3,fun p z q e=>?_⟩
   cases p with
   |nil=>
    simp only[gL,DB]at e
    rw[←e.1];simpa using hs
   |cons a p=>
    simp only[fZ,DB]at e
    have:=e4 p z q e.2
    rw[e.1]at this;simpa using this
end
theorem Ends.map {α β ι κ:Type} {I:List α→ι→Prop} {stop:List α→α→Bool} {O:List α→α→ι→Prop} {mk:β→α} {f:κ→ι} {d0:List α} {I2:List β→κ→Prop} {adH:List β→β→Bool} {O2:List β→β→κ→Prop}
  (hI:∀dn j,I2 dn j→I (d0++dn.map mk) (f j)) (hs:∀dn g,adH dn g=stop (d0++dn.map mk) (mk g)) (hO:∀dn g j,O2 dn g j→O (d0++dn.map mk) (mk g) (f j)) {xs:List β} {b:Bool} {j:κ}:
  ∀{dn:List β},Ends I2 adH O2 dn xs b j→Ends I stop O (d0++dn.map mk) (xs.map mk) b (f j):=by
 induction xs with
 |nil=>intro dn h;exact⟨h.1,hI _ _ h.2⟩
 | cons x r ih =>
  intro dn h
  simp only[Ends,fR]at h⊢
  rw[hs]at h
  by_cases hc:stop (d0++dn.map mk) (mk x)=true
  ·rw[aj hc]at h⊢;exact⟨h.1,hO _ _ _ h.2⟩
  ·rw[ak hc]at h⊢
   have:=ih h
   simpa using this
section
variable{S:ae} {B:List Rec} {ls:List da} {lp:da} {l:Nat}
theorem agR (h:S.loops.length=l):busy l (up S B (lp::ls))=up S B ({lp with ready:=false}::ls):=by
 subst h
 have:∀(L:List da) (f:da→da),(L++lp::ls).modify L.length f=L++f lp::ls:=by
  intro L f
  induction L with
  |nil=>rfl
  |cons a L ih=>simpa using ih
 simp only[busy,ef,up,this]
theorem auP {e:c8} (h:S.loops.length=l):over l e (up S B (lp::ls))=up S B ({lp with ready:=false,eH:=some e}::ls):=by
 subst h
 have:∀(L:List da) (f:da→da),(L++lp::ls).modify L.length f=L++f lp::ls:=by
  intro L f
  induction L with
  |nil=>rfl
  |cons a L ih=>simpa using ih
 simp only[over,ef,up,this]
theorem acJ (hs:Ok S) (h:S.loops.length=l) (hr:lp.ready=true) (hp:lp.eH=none):kS l lp (up S B (lp::ls)):=by
 subst h
 exact⟨by simp[up],hr,hp,hs.cq⟩
end
structure Hand {α ι:Type} (AP:FuncId→Option aE) (L:Nat) (V:α→AV) (base:ι→ae) (I:List α→ι→Prop) (stop:List α→α→Bool) (O:List α→α→ι→Prop) (X:α→Prop) (N NL M:Nat):Prop where
 ok:∀i,Ok (base i)
 len:∀i,(base i).ag.length=N
 jL:∀i,(base i).loops.length=NL
 go:∀done x i B ls,done.length<M→I done i→X x→stop done x=false→∃i',aw AP (.yield L) [V x] (up (base i) B ls)=some (.v (.bool true),up (base i') B ls)∧I (done++[x]) i'
 st:∀done x i B ls,done.length<M→I done i→X x→stop done x=true→∃i',aw AP (.yield L) [V x] (up (base i) B ls)=some (.v (.bool false),up (base i') B ls)∧O done x i'
section
variable{α ι:Type} {AP:FuncId→Option aE} {L:Nat} {V:α→AV} {base:ι→ae} {I:List α→ι→Prop} {stop:List α→α→Bool} {O:List α→α→ι→Prop} {X:α→Prop} {N NL M:Nat}
theorem Hand.one (h:Hand AP L V base I stop O X N NL M) {done:List α} {x:α} {i:ι} {B:List Rec} {ls:List da} (hm:done.length<M) (hi:I done i) (hx:X x) (r:Rec):
  ∃b i',aw AP (.yield L) [V x] ((up (base i) B ls).push r)=some (.v (.bool b),(up (base i') B ls).push r)∧Ends I stop O done [x] b i':=by
 rw[Nq]
 cases hs:stop done x with
 |false=>
  obtain⟨i',h1,h2⟩:=h.go done x i (B++[r]) ls hm hi hx hs
  exact⟨true,i',by rw[h1,Nq],by simp[Ends,hs,h2]⟩
 |true=>
  obtain⟨i',h1,h2⟩:=h.st done x i (B++[r]) ls hm hi hx hs
  exact⟨false,i',by rw[h1,Nq],by simp[Ends,hs,h2]⟩
end
structure fu (X:Rec→ae) (d:Nat):Prop where
 get:∀r,(X r).ag[d]? =some r
 on:∀r f,(X r).bG d f=X (f r)
 ro:∀r,(X r).ro≤d
theorem H8 {s:ae} {l:Nat} {lp:da} {B:List Rec} {ls:List da} (hs:Ok s):fu (fun r=>up (busy l (enterLoop (s.push r) lp)) B ls) s.ag.length:=by
 refine⟨fun r=>?_,fun r f=>?_,fun r=>hs.ro⟩
 ·simp[up,busy,ef,enterLoop,ae.push]
 ·have:((s.ag++[r])++B).modify s.ag.length f=(s.ag++[f r])++B:=by
   rw[H9 (by simp)]
   congr 1
   exact(gX ae.ag (vZ s r f):_)
  simp only[ae.bG,up,busy,ef,enterLoop,ae.push,this]
section
variable{X:Rec→ae} {d:Nat} {r r0:Rec}
theorem fu.lt (h:fu X d) (r:Rec):d<(X r).ag.length:=(bI.1 (h.get r)).1
theorem fu.S4 (h:fu X d) (f:Rec→Rec):((X r).push r0).bG d f=(X (f r)).push r0:=by
 rw[←h.on r f]
 simp only[ae.bG,ae.push,H9 (h.lt r)]
theorem fu.box (h:fu X d) {b:Nat}:((X r).push r0).box d b=r.boxes[b]? :=by
 have:=h.lt r
 simp only[ae.box,ae.push]
 rw[dG this,h.get r];rfl
theorem fu.tok (h:fu X d) {g:Nat}:((X r).push r0).tok d g=(r.toks[g]?).join:=by
 have:=h.lt r
 simp only[ae.tok,ae.push]
 rw[dG this,h.get r];rfl
theorem fu.j4 (h:fu X d):((X r).push r0).j4 d=r.toks.length:=by
 have:=h.lt r
 simp only[ae.j4,ae.push]
 rw[dG this,h.get r]
theorem fu.dQ (h:fu X d) {b:Nat} {cs:List AV}:((X r).push r0).dQ d b cs=(X ⟨r.boxes.set b cs,r.toks⟩).push r0:=h.S4 _
theorem fu.mH (h:fu X d) {g:Nat} {n:Option Nat}:((X r).push r0).mH d g n=(X ⟨r.boxes,r.toks.set g n⟩).push r0:=h.S4 _
theorem fu.lB (h:fu X d) {n:Nat}:((X r).push r0).lB d n=(X ⟨r.boxes,r.toks++[some n]⟩).push r0:=h.S4 _
theorem Lh {m:ae} {d:Nat}:∀{cs:List AV},(cs.all AV.isClosed=true)→m.fitAll d cs=some (cs,m)
 |[],_=>rfl
 | x :: r, h => by
  simp only[tm,dE]at h
  have hx:m.fit d x=some (x,m):=by
   cases x with
   |slice o es xs=>
    cases o with
    |tok=>simp[AV.isClosed,AV.kI]at h
    |_=>simp[ae.fit,AV.close,AV.isClosed,AV.kI]
   |ptr=>simp[AV.isClosed,AV.kI]at h
   |aN=>simp[AV.isClosed,AV.kI]at h
   |_=>simp only[ae.fit,AV.close,h.1,cI,dJ]
  simp only[ae.fitAll,hx,Lh h.2]
theorem fu.store (h:fu X d) {b off n:Nat} {y:AV} (hc:y.cells.all AV.isClosed=true) (hn:lH n y.cells=true) {row row':List AV} (hb:r.boxes[b]? =some row) (ho:j5 row off y.cells=some row'):
  ((X r).push r0).store n (.ptr d b off) y=some ((X ⟨r.boxes.set b row',r.toks⟩).push r0):=by
 have aB:=h.lt r
 have lM:((X r).push r0).cur=(X r).ag.length:=gD _ _
 have bO:((X r).push r0).ro≤d:=h.ro r
 obtain⟨h1,h2⟩:=qd.1 hn
 have aF:¬d=(X r).ag.length:=by omega
 rw[pP]at ho
 by_cases hl:off+y.cells.length≤row.length
 ·rw[aj hl]at ho
  injection ho with ho
  subst ho
  have hle:off+n≤row.length:=by omega
  simp only[ae.store,bO,h1,h2,wX,cI,lM,aF,eu,Lh hc,h.box,hb,hle,h.dQ]
 ·rw[ak hl]at ho;cases ho
theorem fu.append (h:fu X d) {es b:Nat} {xs:List (List AV)} {x:AV} {og:Option Nat} (ha:Acc d es xs x og r.toks) (o:Own) {ys:List (List AV)} (hy:ys≠[]) (hl:xs.length+ys.length≤4294967296) (hb:b<r.boxes.length) (cw:∃c,r.boxes[b]? =some [c]):
  ∃x1 m1 Dh x' bQ tk',et ((X r).push r0) es x (.slice o es ys)=some (x1,m1)∧m1.store 1 (.ptr d b 0) x1=some ((X ⟨r.boxes.set b [x'],tk'⟩).push Dh)∧Dh.boxes=r0.boxes∧Acc d es (xs++ys) x' bQ tk'∧bQ≠none∧
   (∀ph pS x2 fb,Acc d ph pS x2 fb r.toks→(fb≠og∨fb=none)→Acc d ph pS x2 fb tk'∧fb≠bQ):=by
 have aB:=h.lt r
 have lM:∀q,((X r).push q).cur=(X r).ag.length:=fun q=>gD _ _
 have bO:∀q,((X r).push q).ro≤d:=fun q=>h.ro r
 have aF:¬d=(X r).ag.length:=by omega
 have am1:¬(X r).ag.length≤d:=by omega
 obtain⟨c,cw⟩:=cw
 have pG:ys.isEmpty=false:=by cases ys<;>simp_all
 cases og with
 | none =>
  obtain⟨rfl,rfl⟩:=ha
  have nM:ys.length≤4294967296:=by simpa using hl
  refine⟨.slice (.tok (X r).ag.length r0.toks.length) es ys,(X r).push ⟨r0.boxes,r0.toks++[some ys.length]⟩,⟨r0.boxes,(r0.toks++[some ys.length]).set r0.toks.length none⟩,.slice (.tok d r.toks.length) es ys,some r.toks.length,r.toks++[some ys.length],?_,?_,rfl,⟨by simpa using hy,rfl,by simp⟩,by simp,?_⟩
  ·simp[et,pG,Own.isNil,dD,nM,lM,pO,oC]
  ·have bw:(AV.slice (.tok (X r).ag.length r0.toks.length) es ys).cells=[.slice (.tok (X r).ag.length r0.toks.length) es ys]:=rfl
   have zF:((X r).push ⟨r0.boxes,r0.toks++[some ys.length]⟩).tok (X r).ag.length r0.toks.length=some ys.length:=by rw[Aj];simp
   have nJ:((X r).push ⟨r0.boxes,r0.toks++[some ys.length]⟩).fitAll d [.slice (.tok (X r).ag.length r0.toks.length) es ys]=some ([.slice (.tok d r.toks.length) es ys],(X ⟨r.boxes,r.toks++[some ys.length]⟩).push ⟨r0.boxes,(r0.toks++[some ys.length]).set r0.toks.length none⟩):=by
    simp only[ae.fitAll,ae.fit,am1,eu,lM,zF,wX,cI,h.j4,Iu,h.lB]
   simp only[ae.store,bO,bw,cH,jU,tm,Ap,AV.bK,Al,wX,cI,lM,aF,eu,nJ,h.box,cw,h.dQ,gU,aI,setCells,DJ]
  ·intro ph pS x2 fb h2 _
   cases fb with
   |none=>exact⟨h2,by simp⟩
   |some g=>
    obtain⟨a,b,c⟩:=h2
    have:=(bI.1 c).1
    exact⟨⟨a,b,by rw[dG this];exact c⟩,by simp;omega⟩
 | some g =>
  obtain⟨hx,rfl,hg⟩:=ha
  refine⟨.slice (.tok d g) es (xs++ys),(X ⟨r.boxes,r.toks.set g (some (xs.length+ys.length))⟩).push r0,r0,.slice (.tok d g) es (xs++ys),some g,r.toks.set g (some (xs.length+ys.length)),?_,?_,rfl,⟨by simp[hx],rfl,?_⟩,by simp,?_⟩
  ·simp[et,pG,dD,hl,h.tok,hg,bO,h.mH]
  ·have bw:(AV.slice (.tok d g) es (xs++ys)).cells=[.slice (.tok d g) es (xs++ys)]:=rfl
   have al9:∀q tk,((X ⟨r.boxes,tk⟩).push q).cur=(X ⟨r.boxes,tk⟩).ag.length:=fun q tk=>gD _ _
   have anJ:∀q tk,((X ⟨r.boxes,tk⟩).push q).ro≤d:=fun q tk=>h.ro _
   have RE:∀tk,¬d=(X ⟨r.boxes,tk⟩).ag.length:=fun tk=>by have:=h.lt ⟨r.boxes,tk⟩;omega
   have nJ:∀m:ae,m.fitAll d [.slice (.tok d g) es (xs++ys)]=some ([.slice (.tok d g) es (xs++ys)],m):=fun m=>by
    simp only[ae.fitAll,ae.fit,aI,cI]
   simp only[ae.store,anJ,bw,cH,jU,tm,Ap,AV.bK,Al,wX,cI,al9,RE,eu,nJ,h.box,cw,h.dQ,gU,aI,setCells,DJ]
  ·rw[wH (bI.1 hg).1];simp
  ·intro ph pS x2 fb h2 aF
   cases fb with
   |none=>exact⟨h2,by simp⟩
   |some g2=>
    obtain⟨a,b,c⟩:=h2
    have aF:g2≠g:=by rcases aF with h|h<;>simp_all
    exact⟨⟨a,b,by rw[uM (fun e=>aF e.symm)];exact c⟩,by simpa using aF⟩
end
end Go.Ax.Sx
/-
  From the executor's answer to a law's row: the arguments opened and shut.
-/
namespace Go.Ax
open Go.ChangeShapes Go.WideShapes Go.ChangeAt Go.RowKit Sx
def tf (P:Program) (d:Nat) (t:TypeId) (x:AV):Prop:=
 match P.underlying t with
 |some (.struct _)|some (.array _ _)=>∃bM,x=.agg bM∧ej P d t bM
 |_=>ej P d t [x]
inductive Dx (P:Program) (d:Nat):List TypeId→List AV→Prop
 |nil:Dx P d [] []
 |cons {t:TypeId} {ts:List TypeId} {x:AV} {xs:List AV} (h:tf P d t x) (r:Dx P d ts xs):Dx P d (t::ts) (x::xs)
section
variable{H:Type} {enc:TypeId×Value→H} {P:Program} {w:World}
theorem ahx {v:Value} {cs:Array Value} (h:v.cells=cs) (hn:∀c,v≠.agg c):cs.toList=[v]:=by
 subst h
 cases v<;>first|rfl|exact absurd rfl (hn _)
theorem acI {bM:List AV} {cs:Array Value} (h:RL w bM cs.toList):Reads w (.agg bM) (.agg cs):=
 .agg (by simpa using h.len.symm) (fun c hc=>by
  obtain⟨i,hi⟩:=oZ hc
  have uh:=(bI.1 hi).1
  have hl:=h.len
  have aQ:i<cs.toList.length:=by omega
  exact(h.get i c (cs.toList[i]) hi (dq aQ)).2) (fun i hi=>by
  have hl:=h.len
  have aQ:i<cs.toList.length:=by omega
  have:=(h.get i bM[i] (cs.toList[i]) (dq hi) (dq aQ)).1
  have e:cs.getD i Go.undef=cs.toList[i]:=by
   have:i<cs.size:=by simpa using aQ
   simp[Array.getD,this]
  rw[e];exact this)
theorem atX {d:Nat} {r:Reach} {b0:Nat} {t:TypeId} {v:Value} {x:DataW H} {ps:List MemPlace} (bz:nh P d t=true) (jK:Value.okWide P w r b0 t v) (h:DataW.Trod enc P w 0 (fun _=>true) true t v x ps) (mw:∀n∈x.weights P t,n≤reachBytes):
  ∃a,Reads w a v∧tf P d t a:=by
 obtain⟨fuel,hf⟩:=h
 obtain⟨bM,h1,h2,h3⟩:=abU d t fuel _ _ bz hf mw
 cases d with
 |zero=>simp[nh]at bz
 | succ d =>
  unfold nh at bz
  cases hu:P.underlying t with
  |none=>rw[hu]at bz;cases bz
  | some u =>
   rw[hu]at bz
   have key:(∀c,v≠.agg c)→(P.cellsOf t=1)→∃a,Reads w a v∧ej P (d+1) t [a]:=by
    intro hn h1c
    have hc:=ahx (v:=v) rfl hn
    rw[hc]at h1
    have hl:=h1.len
    match bM,hl,h1,h3 with
    |[a],_,h1,h3=>exact⟨a,(h1.get 0 a v rfl rfl).1,h3⟩
   cases u with
   |bool=>
    obtain⟨a,k1,k2⟩:=key (fun c e=>by subst e;simp only[Value.okWide,hu]at jK;simp[Cell.okWide,Cell.ok,hu]at jK) (by simpa using bz)
    exact⟨a,k1,by simp only[tf,hu];exact k2⟩
   |int k=>
    obtain⟨a,k1,k2⟩:=key (fun c e=>by subst e;simp only[Value.okWide,hu]at jK;simp[Cell.okWide,Cell.ok,hu]at jK) (by simpa using bz)
    exact⟨a,k1,by simp only[tf,hu];exact k2⟩
   |string=>
    obtain⟨a,k1,k2⟩:=key (fun c e=>by subst e;simp only[Value.okWide,hu]at jK;simp[Cell.okWide,Cell.ok,hu]at jK) (by simpa using bz)
    exact⟨a,k1,by simp only[tf,hu];exact k2⟩
   |slice e=>
    obtain⟨a,k1,k2⟩:=key (fun c e=>by subst e;simp only[Value.okWide,hu]at jK;simp[Cell.okWide,Cell.ok,hu]at jK) (by simp only[dE,fB]at bz;exact bz.1.1)
    exact⟨a,k1,by simp only[tf,hu];exact k2⟩
   |struct fs=>
    simp only[Value.okWide,hu]at jK
    obtain⟨cs,rfl,_,_⟩:=jK
    exact⟨.agg bM,acI h1,by simp only[tf,hu];exact⟨bM,rfl,h3⟩⟩
   |array n e=>
    simp only[Value.okWide,hu]at jK
    obtain⟨cs,rfl,_,_⟩:=jK
    exact⟨.agg bM,acI h1,by simp only[tf,hu];exact⟨bM,rfl,h3⟩⟩
   |_=>cases bz
theorem abR {d:Nat} {r:Reach} {b0:Nat}:∀{ts:List TypeId} {vs:List Value} {ds:List (DataW H)} {ps:List MemPlace},(∀t∈ts,nh P d t=true)→(∀(j:Nat) t v,ts[j]? =some t→vs[j]? =some v→Value.okWide P w r b0 t v)→
  DataW.TrodAll enc P w 0 (fun _=>true) true ts vs ds ps→(∀n∈DataW.weightsEach P ts ds,n≤reachBytes)→∃as:List AV,Dx P d ts as∧as.length=vs.length∧∀(i:Nat) a v,as[i]? =some a→vs[i]? =some v→Reads w a v
 |[],[],[],_,_,_,_,_=>⟨[],.nil,rfl,fun i a v h=>by simp at h⟩
 | t :: ts, v :: vs, x :: ds, _, bz, jK, ⟨p, q, h1, h2, _⟩, mw => by
  obtain⟨a,k1,k2⟩:=atX (bz t (Ar ..)) (jK 0 t v rfl rfl) h1 (fun n hn=>mw n (by simp only[DataW.weightsEach,dR];exact .inl hn))
  obtain⟨as,m1,m2,m3⟩:=abR (fun t ht=>bz t (cD _ ht)) (fun j t v h1 h2=>jK (j+1) t v (by simpa using h1) (by simpa using h2)) h2 (fun n hn=>mw n (by simp only[DataW.weightsEach,dR];exact .inr hn))
  exact⟨a::as,.cons k2 m1,by simp[m2],fun i b u hb hu=>by
   cases i with
   |zero=>simp at hb hu;subst hb hu;exact k1
   |succ i=>simp at hb hu;exact m3 i b u hb hu⟩
theorem ad4 {sp:Nat→Bool} {held:Bool} {base:Nat}:∀{ts:List TypeId} {vs:List Value} {ds:List (DataW H)} {ps:List MemPlace},DataW.TrodAll enc P w base sp held ts vs ds ps→ds.length=ts.length
 |[],[],[],_,_=>rfl
 |t::ts,v::vs,x::ds,_,⟨p,q,h1,h2,_⟩=>by simp[ad4 h2]
theorem adF (hl:laidOutB P=true) {W':World} (hb:Below w.heap.size w W') {sp:Nat→Bool}:∀{ts:List TypeId} {vs:List Value} {ds:List (DataW H)} {ps:List MemPlace},(∀t∈ts,P.readableRec t=true∧t<P.types.size)→
  DataW.TrodAll enc P w 0 (fun _=>true) true ts vs ds ps→(∀p∈ps,p.block<w.heap.size)→(∀p∈ps,sp p.block=true)→DataW.TrodAll enc P W' 0 sp true ts vs ds ps
 |[],[],[],_,_,h,_,_=>h
 | t :: ts, v :: vs, x :: ds, _, hT, ⟨p, q, h1, h2, e⟩, aB, nS => by
  subst e
  have ht:=hT t (Ar ..)
  exact⟨p,q,WideElems.Trod_stays hl ht.1 ht.2 h1 (fun y hy=>hb.same (aB y (tu _ hy))) (fun y hy=>nS y (tu _ hy)),
   adF hl hb (fun t ht=>hT t (cD _ ht)) h2 (fun y hy=>aB y (I6 _ hy)) (fun y hy=>nS y (I6 _ hy)),rfl⟩
theorem avG {f:Func} {s:ChangeSpec} {apart fresh handsOn again:Bool} {W W':World} {args:Array Value} {v:Value} {ds gs:List (DataW H)} {before pa pv:List MemPlace}
  (hW:DataW.Whole enc P f.params.toList s.vars apart W args.toList ds gs before)
  (iW:∀(b:Nat) (sp:Nat→Bool) (hd:Bool),DataW.TrodAll enc P W' b sp hd f.resultTypes.toList (v.resultList f.resultTypes.size) (s.fn H (ds++gs)).results [])
  (qn:∀sp:Nat→Bool,(∀p∈before,sp p.block=true)→DataW.TrodAll enc P W' 0 sp true f.params.toList args.toList (s.fn H (ds++gs)).args pa)
  (aac:∀sp:Nat→Bool,(∀p∈before,sp p.block=true)→DataW.TrodVars enc P W' sp s.vars (s.fn H (ds++gs)).vars pv)
  (gn:before=pa++pv) (hb:Below W.heap.size W W')
  (bz:∀(j:Nat) (t:TypeId) (r:Value),f.resultTypes[j]? =some t→(v.resultList f.resultTypes.size)[j]? =some r→Value.okWide P W' .any 0 t r):
  s.post enc P f apart fresh handsOn again W args v W':=by
 have aB:∀p∈before,p.block<W.heap.size:=fun p hp=>hW.lt p hp
 have hold:∀p∈before,(fun b=>decide (b<W.heap.size)) p.block=true:=fun p hp=>by simpa using aB p hp
 refine⟨ds,gs,before,[],pa,pv,hW,iW _ _ _,qn _ hold,aac _ hold,World.keptBut_mono (fun p hp=>⟨hp,?_⟩) (hb.frame (· ∈before)),fun _=>?_⟩
 ·rw[gn,dR]at hp
  exact Or.inr hp
 ·obtain⟨_,_,_,_,_,hz,hn⟩:=hW
  refine⟨bz,_,_,([]++pa)++pv,⟨[]++pa,pv,trodAll_append (qn _ (fun _ _=>rfl)) (iW _ _ _),aac _ (fun _ _=>rfl),rfl,?_,?_⟩,?_⟩
  ·intro b off hp
   have bH:MemPlace.cell b off∈before:=by rw[gn];simpa using hp
   rw[hb.frozen (aB _ bH)]
   exact hz b off bH
  ·intro ha
   have:=hn ha
   rw[gn]at this
   simpa using this
  ·intro p hp _
   rw[gn]
   simpa using hp
def Um (P:Program) (AP:FuncId→Option aE) (f:FuncId) (d:Nat) (ts:List TypeId):Prop:=
 ∀(as:List AV) (s:ae),Ok s→Dx P d ts as→aw AP (.fn f) as s=some (.v (.bool true),s)
theorem ase {AP:FuncId→Option aE} {K:World→Prop} (hp:tD P AP K) (hK:∀w',Below w.heap.size w w'→K w') {f:FuncId} {d:Nat} {ts:List TypeId} (amF:Um P AP f d ts) {args:Array Value} {ds:List (DataW H)} {ps:List MemPlace} {r:Reach} {b0:Nat} (bz:∀t∈ts,nh P d t=true)
  (jK:∀(j:Nat) t v,ts[j]? =some t→args.toList[j]? =some v→Value.okWide P w r b0 t v) (hA:DataW.TrodAll enc P w 0 (fun _=>true) true ts args.toList ds ps) (mw:(DataW.weightsEach P ts ds).all (· ≤reachBytes)=true):
  Calls P f args w fun e w'=>e=.returned (.bool true)∧Below w.heap.size w w':=by
 obtain⟨as,h1,h2,h3⟩:=abR bz jK hA (fun n hn=>by simpa using jh.1 mw n hn)
 obtain⟨n,hn⟩:=vb.1 (amF as Dp ⟨aI _,aI _⟩ h1)
 refine aw2 hp hK (by simpa using h2.symm) (fun i hi=>?_) hn
 have br:i<args.toList.length:=by omega
 have e:args.getD i Go.undef=args.toList[i]:=by
  have:i<args.size:=by simpa using br
  simp[Array.getD,this]
 rw[e]
 exact h3 i as[i] args.toList[i] (dq hi) (dq br)
end
end Go.Ax
/-
  What a shape says, type by type.
-/
namespace Go.Ax.Sx
section
variable{P:Program} {d:Nat} {t:TypeId} {bM:List AV}
theorem s6 (hu:P.underlying t=some (.int .i64)) (h:ej P (d+1) t bM):∃x,bM=[I x]∧inI x:=by
 simp only[ej,hu]at h
 obtain⟨x,rfl,hw⟩:=h
 refine⟨x,rfl,?_⟩
 simp only[Lit.wf,dE,fB]at hw
 have h1:IntKind.i64.min=-9223372036854775808:=by decide
 have h2:IntKind.i64.max=9223372036854775807:=by decide
 unfold inI;omega
theorem adp (hu:P.underlying t=some .string) (h:ej P (d+1) t bM):∃x:ByteArray,bM=[.v (.string x)]∧x.size≤maxLen:=by
 simp only[ej,hu]at h;exact h
theorem axH {fs:Array Field} (hu:P.underlying t=some (.struct fs)) (h:ej P (d+1) t bM):∃ps:List (List AV),bM=ps.flatten∧ps.length=fs.size∧∀(i:Nat) (f:Field) (p:List AV),fs[i]? =some f→ps[i]? =some p→ej P d f.type p:=by
 simp only[ej,hu]at h
 obtain⟨ps,h1,h2,h3⟩:=h
 exact⟨ps,h1,h2,fun i f p a b=>(h3 i f p a b).2⟩
theorem Af {e:TypeId} (hu:P.underlying t=some (.slice e)) (h:ej P (d+1) t bM):∃o rows,bM=[.slice o (P.cellsOf e) rows]∧(o=.any∨(o=.aA∧rows=[]))∧rows.length≤maxLen∧∀r∈rows,ej P d e r:=by
 simp only[ej,hu]at h
 obtain⟨o,rows,h1,h2,h3,h4,_⟩:=h
 exact⟨o,rows,h1,h2,h3,fun r a=>(h4 r a).2⟩
theorem acU {α:Type} {q:List AV→α→Prop}:∀{rows:List (List AV)},(∀r∈rows,∃a,q r a)→∃l:List α,rows.length=l.length∧∀(i:Nat) r a,rows[i]? =some r→l[i]? =some a→q r a
 |[],_=>⟨[],rfl,fun i r a h=>by simp at h⟩
 | r :: rows, h => by
  obtain⟨a,ha⟩:=h r (Ar ..)
  obtain⟨l,h1,h2⟩:=acU (rows:=rows) (fun r hr=>h r (cD _ hr))
  exact⟨a::l,by simp[h1],fun i r' a' h3 h4=>by
   cases i with
   |zero=>simp at h3 h4;subst h3 h4;exact ha
   |succ i=>simp at h3 h4;exact h2 i r' a' h3 h4⟩
theorem Ac {α:Type} {f:α→List AV} {g:α→Prop} {rows:List (List AV)} (h:∀r∈rows,∃a,r=f a∧g a):∃l:List α,rows=l.map f∧∀a∈l,g a:=by
 obtain⟨l,h1,h2⟩:=acU (q:=fun r a=>r=f a∧g a) h
 refine⟨l,?_,fun a ha=>?_⟩
 ·apply mM
  intro i
  by_cases hi:i<rows.length
  ·obtain⟨a,ha⟩:=get_some (l:=l) (k:=i) (by omega)
   rw[iL,ha,dq hi]
   exact gX some (h2 i _ a (dq hi) ha).1
  ·rw[lu (by omega),lu (by simp;omega)]
 ·obtain⟨i,hi⟩:=oZ ha
  have uh:=(bI.1 hi).1
  obtain⟨r,hr⟩:=get_some (l:=rows) (k:=i) (by omega)
  exact(h2 i r a hr hi).2
end
end Go.Ax.Sx
/-
  What is taken from the library's shelf.
-/
namespace Go.Ax.Sx.Sc
def td (n:Nat):List AV:=List.replicate n (.v (.bool false))
def eO (n:Nat):List UInt8:=if n<10 then[UInt8.ofNat (48+n)]else[UInt8.ofNat (48+n/10),UInt8.ofNat (48+n%10)]
def aaB:List AV→Option AV
 |[.v (.int .i64 n)]=>if 0≤n∧n<100 then some (.v (.string ⟨(eO n.toNat).toArray⟩))else none
 |_=>none
def uE:List (List AV)→Option (List (List UInt8))
 |[]=>some []
 |[.v (.string s)]::r=>(uE r).map (s.data.toList::·)
 |_=>none
def H2:List AV→Option AV
 |[.slice _ _ rows,.v (.string sep)]=>(uE rows).bind fun l=>
  if l.length≤1000000∧(sep.data.toList.intercalate l).length≤1000000 then some (.v (.string ⟨(sep.data.toList.intercalate l).toArray⟩))else none
 |_=>none
def C8:aE:=.lg H2
end Go.Ax.Sx.Sc
/-
  What is taken from the library's shelf for the strings of plans: numerals, cuts at a byte, numbers read.
-/
namespace Go.Ax.Sx.Sc
def cd (c:UInt8):List UInt8→List (List UInt8)
 |[]=>[[]]
 |x::r=>if x=c then[]::cd c r else match cd c r with
  |h::t=>(x::h)::t
  |[]=>[[x]]
def eN (c:UInt8):List UInt8→List UInt8×List UInt8×Bool
 |[]=>([],[],false)
 |x::r=>if x=c then([],r,true)else((x::(eN c r).1),(eN c r).2.1,(eN c r).2.2)
def gG (c:UInt8):List UInt8→Int
 |[]=>-1
 |x::r=>if x=c then 0 else if gG c r<0 then-1 else gG c r+1
theorem My {c:UInt8}:∀{l:List UInt8},-1≤gG c l
 |[]=>by simp[gG]
 |b::l=>by
  have ih:=My (c:=c) (l:=l)
  rw[gG]
  split
  ·omega
  ·split<;>omega
theorem TS {c:UInt8}:∀{l:List UInt8},gG c l=-1→cd c l=[l]
 |[],_=>rfl
 | b :: l, h => by
  unfold gG at h
  have hg:=My (c:=c) (l:=l)
  split at h
  ·cases h
  ·rename_i hb
   split at h
   ·rw[cd,ak hb,TS (by omega)]
   ·omega
theorem TR {c:UInt8}:∀{l:List UInt8} {i:Nat},gG c l=i→cd c l=l.take i::cd c (l.drop (i+1))
 |[],i,h=>by unfold gG at h;omega
 | b :: l, i, h => by
  unfold gG at h
  split at h
  ·rename_i hb
   have:i=0:=by omega
   subst this
   rw[cd,aj hb];simp
  ·rename_i hb
   split at h
   ·omega
   ·obtain⟨j,rfl⟩:∃j,i=j+1:=⟨i-1,by omega⟩
    rw[cd,ak hb,TR (i:=j) (by omega)]
    simp
def HZ:List AV→Option AV
 |[.v (.int .i64 n)]=>if 0≤n∧n<100 then some (.v (.string ⟨(eO n.toNat).toArray⟩))else
  if-9223372036854775808≤n∧n≤9223372036854775807 then some (.v (.string ⟨(Lib.itoa n).toArray⟩))else none
 |_=>none
def DZ:List AV→Option AV
 |[.v (.string s)]=>if s.size≤1000000 then(match Lib.atoiAll s.data.toList with
  |.ok v=>some (.tuple [.v (.int .i64 v),.v .nilIface])
  |.range=>some (.tuple [.v (.int .i64 (Lib.atoiSat s.data.toList)),.qF])
  |_=>some (.tuple [.v (.int .i64 0),.qF]))else none
 |_=>none
def K1:List AV→Option AV
 |[.v (.string s),.v (.string sep)]=>match sep.data.toList with
  |[c]=>if s.size≤1000000 then some (.tuple [.v (.string ⟨(eN c s.data.toList).1.toArray⟩),.v (.string ⟨(eN c s.data.toList).2.1.toArray⟩),.v (.bool (eN c s.data.toList).2.2)])else none
  |_=>none
 |_=>none
def Nd:List AV→Option AV
 |[.v (.string s),.v (.string sep)]=>match sep.data.toList with
  |[c]=>if s.size≤1000000 then some (.slice .any 1 ((cd c s.data.toList).map fun b=>[.v (.string ⟨b.toArray⟩)]))else none
  |_=>none
 |_=>none
def MC:List AV→Option AV
 |[.v (.string s),.v (.string sep)]=>match sep.data.toList with
  |[c]=>if s.size≤1000000 then some (.v (.int .i64 (gG c s.data.toList)))else none
  |_=>none
 |_=>none
def zW:aE:=.lg HZ
def zV:aE:=.lg DZ
def C6:aE:=.lg K1
def C9:aE:=.lg Nd
def C7:aE:=.lg MC
end Go.Ax.Sx.Sc
