/-
  What is taken from the library's shelf, said in the executor's words.
-/
import Derived.Test.YthoojemlmhliaaaGreatDoorT5
import Derived.Test.YthoojemlmhliaaaGreatDoorT4
import Derived.Shelf.Strings.OnBuilder
import Derived.Shelf.Strconv.Itoa3
import Derived.Shelf.Strconv.AtoiAll
import Derived.Shelf.Strings.Cut
import Derived.Shelf.Strings.Split
import Derived.Handed
import Derived.LaidLaws
import Derived.Test.YthoojemlmhliaaaGreatDoorT6
import Derived.Test.YthoojemlmhliaaaGreatDoorProg
import Derived.KernelRfl
import Derived.Test.YthoojemlmhliaaaGreatDoorT11
set_option linter.unusedSimpArgs false
set_option linter.unusedVariables false
set_option maxRecDepth 100000
namespace Go.Ax.Sx.Sc
open Go.Ax Go.Proofs Go.Shelf Go.RowKit

variable{P:Program} {ρ:Ren} {K:World→Prop}

theorem XM {n:Nat} (h:n<100):eO n=Lib.decDigits n:=by
  unfold eO
  rw[Lib.decDigits]
  by_cases h1:n<10
  · rw[if_pos h1,dif_pos h1]
  · rw[if_neg h1,dif_neg h1,Lib.decDigits,dif_pos (by omega)];rfl

theorem sY {I:fG} {x y:Value} (h:bN I (.v x) y):y=x:=by cases h;rfl

theorem S6 {xs : Array Value} (hl : xs.size = 1) : xs = #[xs.getD 0 Go.undef] := by
  apply Array.ext
  · simp[hl]
  · intro i h1 h2
    have:i=0:=by omega
    subst this
    simp[Array.getD,hl]
theorem Ni {xs : Array Value} (hl : xs.size = 2) : xs = #[xs.getD 0 Go.undef, xs.getD 1 Go.undef] := by
  apply Array.ext
  · simp[hl]
  · intro i h1 h2
    have:i=0∨i=1:=by omega
    rcases this with rfl|rfl<;>simp[Array.getD,hl]

theorem aBT (L : Lays.n171 P ρ) : uP P K (ρ.f 171) aaB := by
  intro I w ys xs r _ hI hl hR hF
  unfold aaB at hF
  split at hF
  · rename_i n
    split at hF
    · rename_i hn
      injection hF with hF
      subst hF
      have h0:=sY (hR 0 (by simp))
      have hx : xs = #[.int .i64 (n.toNat : Int)] := by
        rw[S6 hl,h0,show((n.toNat:Nat):Int)=n by omega]
      rw[hx]
      refine(Any.strconv_Itoa_small L n.toNat (by omega) w).mono fun e w' ⟨he,hw⟩=>?_
      subst hw
      refine⟨_,I,he,fun _ _ _ h=>h,fun _ _ _ h=>.inl h,hI,Below.refl _ _,.inl ?_⟩
      rw[XM (by omega)]
      exact .v rfl
    · cases hF
  · cases hF

theorem adK:∀{rows:List (List AV)} {ls:List (List UInt8)},uE rows=some ls→∃bs:List ByteArray,rows=bs.map (fun b=>[.v (.string b)])∧ls=bs.map (·.data.toList)
  | [], ls, h => by
    simp only[uE]at h
    injection h with h
    exact⟨[],rfl,h.symm⟩
  | row :: r, ls, h => by
    unfold uE at h
    split at h
    · cases ‹_::_=[]›
    · rename_i s r' e
      injection e with e1 e2
      subst e1 e2
      obtain⟨SL,h1,h2⟩:=Option.map_eq_some_iff.1 h
      obtain⟨bs,b1,b2⟩:=adK h1
      exact⟨s::bs,by rw[b1];rfl,by rw[←h2,b2];rfl⟩
    · cases h

theorem auY (L : Lays.n156 P ρ) (X : Builder.Extra P ρ) : uP P K (ρ.f 156) H2 := by
  intro I w ys xs r _ hI hl hR hF
  unfold H2 at hF
  split at hF
  · rename_i o es rows sep
    obtain⟨ls,hs,hF⟩:=Option.bind_eq_some_iff.1 hF
    split at hF
    · rename_i ZE
      injection hF with hF
      subst hF
      obtain⟨bs,ik,iB⟩:=adK hs
      have h1:=sY (hR 1 (by simp))
      have h0:bN I (.slice o es rows) (xs.getD 0 Go.undef):=hR 0 (by simp)
      have hx : xs = #[xs.getD 0 Go.undef, .string sep] := by
        rw[Ni hl];simp only[h1];rfl
      have SY:∀a c,rows=[]→xs.getD 0 Go.undef=.slice a 0 c→Calls P (ρ.f 156) xs w fun e w'=>∃z I',e=.returned z∧(∀b i v,I b i=some v→I' b i=some v)∧(∀b i v,I' b i=some v→I b i=some v∨w.heap.size≤b)∧(∀b i v,I' b i=some v→w'.cell? ⟨b,i,none⟩=some v)∧
          Below w.heap.size w w'∧yu I' (.v (.string ⟨(sep.data.toList.intercalate ls).toArray⟩)) z:=by
        intro a c iF hv
        have fm:ls=[]:=by
          rw[iF]at hs;simp only[uE]at hs;injection hs with hs;exact hs.symm
        rw[hx,hv]
        refine(Any.strings_Join_none L X a c sep w).mono fun e w' ⟨he,hw⟩=>?_
        subst hw
        refine⟨_,I,he,fun _ _ _ h=>h,fun _ _ _ h=>.inl h,hI,Below.refl _ _,.inl ?_⟩
        rw[fm]
        exact .v rfl
      generalize hv:xs.getD 0 Go.undef=v at*
      cases h0 with
      |aA=>exact SY _ _ rfl rfl
      |empty ho=>exact SY _ _ rfl rfl
      | slice f ho hc eV bw hIc hRc =>
        rename_i blk off cap
        by_cases aF:rows=[]
        · subst aF
          exact SY _ _ rfl rfl
        · have fV : rows.length = bs.length := by rw [ik]; simp
          have Rn:es=1:=by
            cases kt:bs with
            |nil=>rw[kt]at ik;exact absurd ik aF
            | cons b t =>
              have h3:=eV [.v (.string b)] (by rw[ik,kt];simp)
              rw[←h3];rfl
          subst Rn
          have vv:∀(j:Nat) x,bs[j]? =some x→w.cell? ⟨blk,off+j,none⟩=some (.string x):=by
            intro j x hj
            have nL:j<rows.length:=by rw[fV];exact(List.getElem?_eq_some_iff.1 hj).1
            have cw:rows[j]=[.v (.string x)]:=by
              have:rows[j]? =some [.v (.string x)]:=by rw[ik,List.getElem?_map,hj];rfl
              rw[List.getElem?_eq_getElem nL]at this
              injection this
            have pC:0<rows[j].length:=by rw[cw];simp
            have hi:=hIc j nL 0 pC
            have aT:=hRc j nL 0 pC
            have e1:rows[j][0]=.v (.string x):=by simp only[cw];rfl
            rw[e1]at aT
            rw[sY aT]at hi
            have:=hI _ _ _ hi
            rw[show off+j*1+0=off+j by omega]at this
            exact this
          have Ck:blk<w.heap.size:=by
            have db:0<bs.length:=by rw[←fV];exact List.length_pos_iff.2 aF
            exact World.block_lt_of_cell? _ _ (vv 0 _ (List.getElem?_eq_getElem db))
          have ZA:Lib.join (bs.map (·.data.toList)) sep.data.toList=sep.data.toList.intercalate ls:=by rw[iB];rfl
          have aBe:ls.length=bs.length:=by rw[iB];simp
          rw[hx]
          have anH:rows.length=bs.length:=fV
          rw[anH]at hc⊢
          refine(Any.strings_Join L X blk off cap bs sep w vv Ck (by omega) hc (by rw[ZA];omega)).mono fun e w' ⟨he,hw⟩=>?_
          refine⟨_,I,he,fun _ _ _ h=>h,fun _ _ _ h=>.inl h,fun b i v h=>?_,hw,.inl ?_⟩
          · have h1 := hI b i v h
            have hb:=World.block_lt_of_cell? _ _ h1
            have hh:=hw.block b hb
            rw[←h1]
            exact Gx hh rfl
          · rw[ZA];exact .v rfl
    · cases hF
  · cases hF
end Go.Ax.Sx.Sc
/-
  What is taken from the library's shelf for the strings of plans, said in the executor's words: numerals, cuts at a byte, numbers read; what a world must hold for it.
-/
namespace Go.Ax.Sx.Sc
open Go.Ax Go.Proofs Go.Shelf Go.RowKit Go.Sort
theorem index_one {c:UInt8}:∀{l:List UInt8},Lib.index l [c]=gG c l
 |[]=>rfl
 | b :: l => by
  unfold Lib.index gG
  rw[index_one (l:=l)]
  by_cases h:b=c
  ·subst h;simp
  ·have h1:([c]:List UInt8).isPrefixOf (b::l)=false:=by
    simp only[List.isPrefixOf,Am]
    exact WU.2 fun e=>h e.symm
   have hg:=Lib.index_ge l [c]
   rw[index_one]at hg
   rw[h1,ak h]
   simp only[ew,eu,P3]
   by_cases h2:gG c l=-1
   ·rw[aj h2,aj (by omega)]
   ·rw[ak h2,ak (by omega)]
theorem XH {c:UInt8}:∀{l:List UInt8},Lib.cut l [c]=eN c l
 |[]=>rfl
 | b :: l => by
  have ih:=XH (c:=c) (l:=l)
  unfold Lib.cut at ih⊢
  rw[index_one]at ih⊢
  unfold gG eN
  by_cases h:b=c
  ·subst h;simp
  ·rw[ak h,ak h]
   by_cases h2:gG c l<0
   ·rw[aj h2,ak (by omega)]
    rw[ak (by omega)]at ih
    rw[←ih]
   ·rw[ak h2,aj (by omega)]
    rw[aj (by omega)]at ih
    rw[←ih]
    have e:(gG c l+1).toNat=(gG c l).toNat+1:=by omega
    rw[e]
    simp
theorem adz {c:UInt8}:∀(n:Nat) (l:List UInt8),l.length≤n→Lib.splitK [c] 0 (Lib.count l [c]) l=cd c l
 | n, l, hl => by
  have hg:=My (c:=c) (l:=l)
  by_cases h:gG c l=-1
  ·rw[Lib.count_miss (by rw[index_one];exact h),TS h];rfl
  ·obtain⟨i,hi⟩:∃i:Nat,gG c l=i:=⟨(gG c l).toNat,by omega⟩
   have hx:Lib.index l [c]=i:=by rw[index_one];exact hi
   have hr:=Lib.index_room l [c] (by omega)
   rw[hx]at hr
   simp only[pV]at hr
   rw[Lib.count_hit (by simp) hx,TR hi,NY 1,Lib.splitK,hx]
   rw[ak (by simp only[P3];omega)]
   simp only[pT,AA,pV]
   cases n with
   |zero=>omega
   |succ n=>rw[adz n _ (by rw[pU];omega)]
structure DA (P:Program) (g1 g15 g16:Nat) (w:World):Prop where
 rP:Lib.TabIs P w "internal/strconv.uint64pow10" .u64 Lib.pow10Tab
 len:∃m,w.cell? ⟨g1,0,none⟩=some (.int .i64 m)
 e1:∃ev,w.cell? ⟨g15,0,none⟩=some ev∧(ev=.nilIface∨∃te pe,ev=.iface te pe)
 e2:∃ev,w.cell? ⟨g16,0,none⟩=some ev∧(ev=.nilIface∨∃te pe,ev=.iface te pe)
theorem Gw {w w':World} {b i:Nat} {v:Value} (hb:Below w.heap.size w w') (h:w.cell? ⟨b,i,none⟩=some v):w'.cell? ⟨b,i,none⟩=some v:=
 (hb.cell (World.block_lt_of_cell? _ _ h)).trans h
theorem ayk {P:Program} {w w':World} {nm:String} {k:IntKind} {zs:List Int} (hb:Below w.heap.size w w') (h:Lib.TabIs P w nm k zs):Lib.TabIs P w' nm k zs:=by
 unfold Lib.TabIs World.var? at h⊢
 obtain⟨g,hg,h⟩:=dS.1 h
 rw[hg,dI]
 have aB:g<w.heap.size:=by
  split at h
  ·rename_i e;exact(uI.1 e).1
  ·cases h
 rw[hb.block g aB]
 exact h
theorem DA.below {P:Program} {g1 g15 g16:Nat} {w w':World} (h:DA P g1 g15 g16 w) (hb:Below w.heap.size w w'):DA P g1 g15 g16 w':=
 ⟨ayk hb h.rP,let⟨m,hm⟩:=h.len;⟨m,Gw hb hm⟩,let⟨e,he,hk⟩:=h.e1;⟨e,Gw hb he,hk⟩,let⟨e,he,hk⟩:=h.e2;⟨e,Gw hb he,hk⟩⟩
variable{P:Program} {ρ:Ren} {K:World→Prop}
theorem H4 {I:fG} {w w':World} (hI:∀b i v,I b i=some v→w.cell? ⟨b,i,none⟩=some v) (hw:Below w.heap.size w w'):∀b i v,I b i=some v→w'.cell? ⟨b,i,none⟩=some v:=fun b i v h=>Gw hw (hI b i v h)
theorem auX (L:LaysM.n171 P ρ) (hK:∀w,K w→Lib.TabIs P w "internal/strconv.uint64pow10" .u64 Lib.pow10Tab):uP P K (ρ.f 171) HZ:=by
 intro I w ys xs r hk hI hl hR hF
 unfold HZ at hF
 split at hF
 ·rename_i n
  have h0:=sY (hR 0 (by simp))
  have hx : xs = #[.int .i64 n] := by rw [S6 hl, h0]
  split at hF
  ·rename_i hn
   injection hF with hF
   subst hF
   rw[hx,show(Value.int .i64 n)=.int .i64 (n.toNat:Int)by rw[show((n.toNat:Nat):Int)=n by omega]]
   refine(Any.strconv_Itoa_small {L with} n.toNat (by omega) w).mono fun e w' ⟨he,hw⟩=>?_
   subst hw
   refine⟨_,I,he,fun _ _ _ h=>h,fun _ _ _ h=>.inl h,hI,Below.refl _ _,.inl ?_⟩
   rw[XM (by omega)]
   exact .v rfl
  ·split at hF
   ·rename_i hn
    injection hF with hF
    subst hF
    rw[hx]
    refine(Any.strconv_Itoa L n hn.1 hn.2 w (hK w hk)).mono fun e w' ⟨he,k,os,hw⟩=>?_
    subst hw
    have hb:Below w.heap.size w (grow (w.drewN k) os):=⟨rfl,rfl,rfl,by show w.heap.size≤(w.heap++os).size;rw[Array.size_append];omega,fun j hj=>by show(w.heap++os)[j]? =_;simp[Array.getElem?_append,hj]⟩
    exact⟨_,I,he,fun _ _ _ h=>h,fun _ _ _ h=>.inl h,H4 hI hb,hb,.inl (.v rfl)⟩
   ·cases hF
 ·cases hF
theorem M6 {I:fG} {vs:List AV} {arr:Array Value} (hl:arr.size=vs.length) (h:∀i (hi:i<vs.length),bN I vs[i] (arr.getD i Go.undef)):yu I (.tuple vs) (.tuple arr):=.inr ⟨_,_,rfl,rfl,hl,h⟩
theorem auU (L:LaysC.n172 P ρ) (sn:∀w,K w→∃ev,w.cell? ⟨ρ.g 15,0,none⟩=some ev∧(ev=.nilIface∨∃te pe,ev=.iface te pe)) (mS:∀w,K w→∃ev,w.cell? ⟨ρ.g 16,0,none⟩=some ev∧(ev=.nilIface∨∃te pe,ev=.iface te pe)):uP P K (ρ.f 172) DZ:=by
 intro I w ys xs r hk hI hl hR hF
 unfold DZ at hF
 split at hF
 case h_2=>cases hF
 rename_i s
 split at hF
 case isFalse=>cases hF
 rename_i hs
 have h0:=sY (hR 0 (by simp))
 have hx : xs = #[.string s] := by rw [S6 hl, h0]
 rw[hx]
 cases hv:Lib.atoiAll s.data.toList
 ·rename_i v
  rw[hv]at hF
  injection hF with hF
  subst hF
  refine(Any.strconv_Atoi_ok L s (by omega) v hv w).mono fun e w' ⟨he,hw⟩=>?_
  have hb:Below w.heap.size w w':=by
   rcases hw with rfl|⟨t,rfl⟩
   ·exact Below.refl _ _
   ·exact Lib.bytesWorld_below _ _ _
  refine⟨_,I,he,fun _ _ _ h=>h,fun _ _ _ h=>.inl h,H4 hI hb,hb,M6 rfl fun i hi=>?_⟩
  match i,hi with
  |0,_=>exact .v rfl
  |1,_=>exact .v rfl
 ·rw[hv]at hF
  injection hF with hF
  subst hF
  obtain⟨ev,Ro,kB⟩:=sn w hk
  refine(Any.strconv_Atoi_syntax L s (by omega) hv ev w Ro kB).mono fun e w' ⟨N,he,_,_,hb⟩=>?_
  refine⟨_,I,he,fun _ _ _ h=>h,fun _ _ _ h=>.inl h,H4 hI hb,hb,M6 rfl fun i hi=>?_⟩
  match i,hi with
  |0,_=>exact .v rfl
  |1,_=>exact .qF
 ·rw[hv]at hF
  injection hF with hF
  subst hF
  obtain⟨ev,Ro,kB⟩:=mS w hk
  refine(Any.strconv_Atoi_range L s (by omega) hv ev w Ro kB).mono fun e w' ⟨N,he,_,_,hb⟩=>?_
  refine⟨_,I,he,fun _ _ _ h=>h,fun _ _ _ h=>.inl h,H4 hI hb,hb,M6 rfl fun i hi=>?_⟩
  match i,hi with
  |0,_=>exact .v rfl
  |1,_=>exact .qF
theorem auV (L:Lays.n145 P ρ) (h1:∀w,K w→∃m,w.cell? ⟨ρ.g 1,0,none⟩=some (.int .i64 m)):uP P K (ρ.f 145) K1:=by
 intro I w ys xs r hk hI hl hR hF
 unfold K1 at hF
 split at hF
 case h_2=>cases hF
 rename_i s sep
 split at hF
 case h_2=>cases hF
 rename_i c hc
 split at hF
 case isFalse=>cases hF
 rename_i hs
 injection hF with hF
 subst hF
 have e0:=sY (hR 0 (by simp))
 have e1:=sY (hR 1 (by simp))
 have hx : xs = #[.string s, .string sep] := by rw [Ni hl, e0, e1]
 rw[hx]
 obtain⟨m,hm⟩:=h1 w hk
 refine(Any.strings_Cut L s sep m w (by omega) hm).mono fun e w' ⟨he,n,hw⟩=>?_
 subst hw
 rw[hc,XH]at he
 have hb:Below w.heap.size w (w.drewN n):=(Below.refl _ _).trans ⟨rfl,rfl,rfl,aI _,fun _ _=>rfl⟩
 refine⟨_,I,he,fun _ _ _ h=>h,fun _ _ _ h=>.inl h,H4 hI hb,hb,M6 rfl fun i hi=>?_⟩
 match i,hi with
 |0,_=>exact .v rfl
 |1,_=>exact .v rfl
 |2,_=>exact .v rfl
theorem auW (L:Lays.n143 P ρ) (h1:∀w,K w→∃m,w.cell? ⟨ρ.g 1,0,none⟩=some (.int .i64 m)):uP P K (ρ.f 143) MC:=by
 intro I w ys xs r hk hI hl hR hF
 unfold MC at hF
 split at hF
 case h_2=>cases hF
 rename_i s sep
 split at hF
 case h_2=>cases hF
 rename_i c hc
 split at hF
 case isFalse=>cases hF
 rename_i hs
 injection hF with hF
 subst hF
 have e0:=sY (hR 0 (by simp))
 have e1:=sY (hR 1 (by simp))
 have hx : xs = #[.string s, .string sep] := by rw [Ni hl, e0, e1]
 rw[hx]
 obtain⟨m,hm⟩:=h1 w hk
 refine(Any.strings_Index L s sep m w (by omega) hm).mono fun e w' ⟨he,hw⟩=>?_
 subst hw
 rw[hc,index_one]at he
 exact⟨_,I,he,fun _ _ _ h=>h,fun _ _ _ h=>.inl h,hI,Below.refl _ _,.inl (.v rfl)⟩
theorem au0 (L : Lays.n146 P ρ) (hi9 : (P.info? (ρ.t 9)).map (fun i => (i.zero, i.size, i.bytes)) = some (some (.string ByteArray.empty), 1, 16)) (h1 : ∀ w, K w → ∃ m, w.cell? ⟨ρ.g 1, 0, none⟩ = some (.int .i64 m)) : uP P K (ρ.f 146) Nd := by
  intro I w ys xs r hk hI hl hR hF
  unfold Nd at hF
  split at hF
  case h_2=>cases hF
  rename_i s sep
  split at hF
  case h_2=>cases hF
  rename_i c hc
  split at hF
  case isFalse=>cases hF
  rename_i hs
  injection hF with hF
  subst hF
  have e0:=sY (hR 0 (by simp))
  have e1:=sY (hR 1 (by simp))
  have hx : xs = #[.string s, .string sep] := by rw [Ni hl, e0, e1]
  rw[hx]
  obtain⟨m,hm⟩:=h1 w hk
  have cj:1≤sep.size:=by rw[show sep.size=sep.data.toList.length from(NA (xs:=sep.data)).symm,hc];exact aI _
  refine(Any.strings_Split L hi9 s sep m w (by omega) hm cj).mono fun e w' ⟨he,hw⟩=>?_
  have hd:(Lib.splitB sep 0 (Lib.countB s sep) s).map (·.data.toList)=cd c s.data.toList:=by
    rw[Lib.splitB_data,hc]
    show Lib.splitK [c] 0 (Lib.count s.data.toList sep.data.toList) s.data.toList=_
    rw[hc]
    exact adz _ _ (aI _)
  have hlen:=Lib.splitB_all sep cj 0 _ s rfl
  generalize hq:Lib.splitB sep 0 (Lib.countB s sep) s=q at*
  have hb:Below w.heap.size w w':=by rw[hw];exact Below.alloc (Below.refl _ _) (aI _) _
  have nR:(cd c s.data.toList).map (fun b=>[AV.v (.string ⟨b.toArray⟩)])=q.map fun b=>[AV.v (.string b)]:=by
    rw[←hd,I4];rfl
  rw[nR]
  have bw:∀i (hi:i<q.length),w'.cell? ⟨w.heap.size,i,none⟩=some (.string q[i]):=fun i hi=>by
    rw[hw]
    rw[World.cell?_alloc_new]
    simp[hi]
  refine⟨_,fun b i=>if b=w.heap.size then(q[i]?).map Value.string else I b i,he,fun b i v h=>?_,fun b i v h=>?_,fun b i v h=>?_,hb,.inl ?_⟩
  · have := World.block_lt_of_cell? _ _ (hI b i v h)
    have hn:b≠w.heap.size:=by intro e;subst e;exact wN _ this
    show(if b=w.heap.size then _ else _)=_
    rw[ak hn]
    exact h
  · by_cases e : b = w.heap.size
    · exact .inr (by omega)
    · replace h : (if b = w.heap.size then (q[i]?).map Value.string else I b i) = some v := h
      rw[ak e]at h;exact .inl h
  · dsimp only at h
    split at h
    · rename_i e
      subst e
      obtain⟨x,hx,rfl⟩:=aZ.1 h
      obtain⟨hi,rfl⟩:=bI.1 hx
      exact bw i hi
    · exact Gw hb (hI b i v h)
  · have := bN.slice (I := fun b i => if b = w.heap.size then (q[i]?).map Value.string else I b i) (o := .any) (es := 1) (xs := q.map fun b => [AV.v (.string b)]) (blk := w.heap.size) (off := 0) (cap := Lib.countB s sep + 1) (fun i _ => match q[i]? with | some b => .string b | none => Go.undef) (.inl rfl) (by simp; omega) (fun r hr => by obtain ⟨b, _, rfl⟩ := cN.1 hr; rfl)
      (fun r hr c hc=>by obtain⟨b,_,rfl⟩:=cN.1 hr;simp at hc;subst hc;rfl)
      (fun i hi j hj=>by
        have br:i<q.length:=by simpa using hi
        have dx:j=0:=by simp at hj;exact hj
        subst dx
        simp[br])
      (fun i hi j hj=>by
        have br:i<q.length:=by simpa using hi
        have dx:j=0:=by simp at hj;exact hj
        subst dx
        simp only[List.getElem_map,wL,dq br]
        exact .v rfl)
    rw[cg,hlen]at this
    exact this
end Go.Ax.Sx.Sc
/-
  What a row's conditions say of the library's variables; the wrap of a row that keeps the world's shape.
-/
namespace Go.Ax.Sx.Sc
open Go.Ax Go.Proofs Go.Shelf Go.RowKit
section
variable{H:Type} {enc:TypeId×Value→H}
theorem alK {a:Assume} {C:Checked} {os:Os} {f:FuncId} {fn:Func} {s:ChangeSpec} {conds:List PathCond} {apart fresh handsOn again:Bool} {X:World→Array Value→Prop}
    (hX:∀(w w':World) (args:Array Value),w.heap=w'.heap→X w args→X w' args)
    (own:ownKnob C.prog.godebug=none) (started:os.Started) (atE:C.prog.inits.idxOf? f=none) (sH:C.prog.funcs[f]? =some fn)
    (witness:∃(w:World) (tape:Tape) (i:Input),w.os=os∧(w.forCall tape i).Shaped C.prog∧i.vars=[]∧Input.okWide C.prog (w.forCall tape i) .any w.heap.size f i∧
      ((s.pre enc C.prog fn conds apart (w.forCall tape i).memory i.args∧X (w.forCall tape i).memory i.args)∧sizedMet enc C.prog fn (OpenSpec.ofChange s) apart (w.forCall tape i).memory i.args)∧a.holds C.prog (lone (Frame.enter C.prog f i.args .normal) [] (w.forCall tape i)))
    (ahU:∀(W:World) (base:Nat) (args:Array Value) (ds gs:List (DataW H)) (before:List MemPlace),
      (∀(j:Nat) t v,fn.params[j]? =some t→args[j]? =some v→Value.okWide C.prog W .any base t v)→
      DataW.Whole enc C.prog fn.params.toList s.vars apart W args.toList ds gs before→
      conds.all (PathCond.test C.prog ⟨fn.params.toList,ds,s.plain.varTypes C.prog,gs⟩)=true→
      (DataW.weightsEach C.prog (fn.params.toList++s.plain.varTypes C.prog) (ds++gs)).all (· ≤reachBytes)=true→W.ShapedOpen C.prog→X W args→
      a.holds C.prog (lone (Frame.enter C.prog f args .normal) [] W)→
      Calls C.prog f args W fun e W'=>∃v,e=.returned v∧s.post enc C.prog fn apart fresh handsOn again W args v W'):
    ReturnsInHanded a C os f .any (fun w args=>(s.pre enc C.prog fn conds apart w args∧X w args)∧sizedMet enc C.prog fn (OpenSpec.ofChange s) apart w args) (s.post enc C.prog fn apart fresh handsOn again):=by
  refine returnsInHanded_of_calls own started atE witness ?_
  intro w tape i _ iH _ bz jZ amx
  obtain⟨_,_,_,fn',amn,_,_,_,_,jK⟩:=bz
  have e:fn'=fn:=AE (amn.symm.trans sH)
  subst e
  obtain⟨⟨⟨ds,gs,before,hw,hc⟩,hx⟩,hz⟩:=jZ
  have hw':=DataW.Whole.of_heap (w':=w.forCall tape i) (by rfl) hw
  refine(ahU (w.forCall tape i) w.heap.size i.args ds gs before jK hw' hc (hz.weights hw) iH (hX _ _ _ (by rfl) hx) amx).mono fun e W' ⟨v,he,hp⟩=>?_
  subst he
  exact ChangeSpec.post_blind hp
end
theorem MJ {P:Program} {w:World} {n:String} {d:DataW Unit}:∀{L:List (String×DataW Unit)} {ps:List MemPlace} {i:Nat},DataW.LaidVars P w L ps→L[i]? =some (n,d)→
  ∃g t cs fuel p,P.globalNamed n=some g∧(P.globals[g]?).map (·.type)=some t∧w.var? P n=some cs∧DataW.trod (fun _=>()) P w 0 (fun _=>true) false fuel t cs.toList=some (d,p)
 |[],_,i,_,h=>by simp at h
 |(n',d')::r,ps,0,⟨g,t,cs,fuel,p,q,h1,h2,h3,h4,_,_⟩,h=>by
  simp only[Aq,fI,AF]at h
  obtain⟨rfl,rfl⟩:=h
  exact⟨g,t,cs,fuel,p,h1,h2,h3,h4⟩
 |(n',d')::r,ps,i+1,⟨g,t,cs,fuel,p,q,_,_,_,_,h5,_⟩,h=>MJ h5 (by simpa using h)
theorem aau {P:Program} {w:World} {base:Nat} {sp:Nat→Bool} {held:Bool} {fuel:Nat} {t:TypeId} {cs:List Value} {nm:String} {d:DataW Unit} {p:List MemPlace} {ms:Array (String×TypeId)} (hu:P.underlying t=some (.interface ms))
  (h:DataW.trod (fun _=>()) P w base sp held fuel t cs=some (.iface nm d,p)):∃u v,cs=[.iface u v]:=by
 cases fuel with
 |zero=>simp[DataW.trod]at h
 |succ fuel=>
  simp only[DataW.trod,hu]at h
  split at h<;>first|cases h|skip
  all_goals first|exact⟨_,_,rfl⟩|simp_all
structure Ul (P:Program) (L:List (String×DataW Unit)) (g15 g16:Nat):Prop where
 rP:∃(i g:Nat) (t e:TypeId),L[i]? =some ("internal/strconv.uint64pow10",(Lib.tabData .u64 Lib.pow10Tab:DataW Unit))∧P.globalNamed "internal/strconv.uint64pow10" =some g∧(P.globals[g]?).map (·.type)=some t∧P.underlying t=some (.array 20 e)∧P.underlying e=some (.int .u64)∧P.cellsOf e=1∧P.cellsOf t=20
 e1:∃(i:Nat) (t:TypeId) (ms:Array (String×TypeId)) (nm:String) (d:DataW Unit),L[i]? =some ("strconv.ErrSyntax",.iface nm d)∧P.globalNamed "strconv.ErrSyntax" =some g15∧(P.globals[g15]?).map (·.type)=some t∧P.underlying t=some (.interface ms)
 e2:∃(i:Nat) (t:TypeId) (ms:Array (String×TypeId)) (nm:String) (d:DataW Unit),L[i]? =some ("strconv.ErrRange",.iface nm d)∧P.globalNamed "strconv.ErrRange" =some g16∧(P.globals[g16]?).map (·.type)=some t∧P.underlying t=some (.interface ms)
theorem ar6 {P:Program} {L:List (String×DataW Unit)} {g1 g15 g16:Nat} {W:World} (T:Ul P L g15 g16) (h:laidMet P L W) (hm:∃m,W.cell? ⟨g1,0,none⟩=some (.int .i64 m)):DA P g1 g15 g16 W:=by
 obtain⟨ps,hv,_⟩:=h
 refine⟨?_,hm,?_,?_⟩
 ·obtain⟨i,g,t,e,hi,hg,ht,hu,he,Hh,pq⟩:=T.rP
  obtain⟨g',t',cs,fuel,p,h1,h2,h3,h4⟩:=MJ hv hi
  obtain rfl:=AE (hg.symm.trans h1)
  obtain rfl:=AE (ht.symm.trans h2)
  unfold Lib.TabIs
  rw[h3,←Lib.cells_of_tab hu he Hh pq h4]
 ·obtain⟨i,t,ms,nm,d,hi,hg,ht,hu⟩:=T.e1
  obtain⟨g',t',cs,fuel,p,h1,h2,h3,h4⟩:=MJ hv hi
  obtain rfl:=AE (hg.symm.trans h1)
  obtain rfl:=AE (ht.symm.trans h2)
  obtain⟨u,v,e⟩:=aau hu h4
  have hc:=World.var?_cell hg h3 0
  have e2:cs[0]? =some (.iface u v):=by
   have:cs.toList[0]? =some (.iface u v):=by rw[e];rfl
   simpa using this
  exact⟨.iface u v,by rw[hc,e2],.inr ⟨u,v,rfl⟩⟩
 ·obtain⟨i,t,ms,nm,d,hi,hg,ht,hu⟩:=T.e2
  obtain⟨g',t',cs,fuel,p,h1,h2,h3,h4⟩:=MJ hv hi
  obtain rfl:=AE (hg.symm.trans h1)
  obtain rfl:=AE (ht.symm.trans h2)
  obtain⟨u,v,e⟩:=aau hu h4
  have hc:=World.var?_cell hg h3 0
  have e2:cs[0]? =some (.iface u v):=by
   have:cs.toList[0]? =some (.iface u v):=by rw[e];rfl
   simpa using this
  exact⟨.iface u v,by rw[hc,e2],.inr ⟨u,v,rfl⟩⟩
end Go.Ax.Sx.Sc
/- The codes that are computed with are those of the program: each one is what compFn gives; what is taken from the library is what the shelf says of it. -/
namespace Go.Proofs.YthoojemlmhliaaaGreatDoor.Ak
open Go.Ax Go.Ax.Sx Go.Ax.Sx.Sc Go.Shelf

theorem k3:aP Tryz.prog false ⟨false,[],[],false,false,[]⟩ Tryz.f3=some xi:=by kernel_rfl
theorem k4:aP Tryz.prog false ⟨false,[],[],false,false,[]⟩ Tryz.f4=some F2:=by kernel_rfl
theorem k5:aP Tryz.prog false ⟨false,[],[],false,false,[]⟩ Tryz.f5=some yR:=by kernel_rfl
theorem k6:aP Tryz.prog false ⟨false,[],[],false,false,[]⟩ Tryz.f6=some Bi:=by kernel_rfl
theorem k7:aP Tryz.prog false ⟨false,[],[],false,false,[]⟩ Tryz.f7=some Bg:=by kernel_rfl
theorem k8:aP Tryz.prog false ⟨false,[],[],false,false,[]⟩ Tryz.f8=some FB:=by kernel_rfl
theorem k9:aP Tryz.prog false ⟨false,[],[],false,false,[]⟩ Tryz.f9=some Fm:=by kernel_rfl
theorem Sr:aP Tryz.prog false ⟨true,[],[],false,false,[]⟩ Tryz.f10=some Bm:=by kernel_rfl
theorem k11:aP Tryz.prog false ⟨false,[],[],false,false,[]⟩ Tryz.f11=some xg:=by kernel_rfl
theorem Ss:aP Tryz.prog false ⟨false,[],[],false,false,[]⟩ Tryz.f12=some E1:=by kernel_rfl
theorem k13:aP Tryz.prog false ⟨false,[],[],false,false,[]⟩ Tryz.f13=some Bn:=by kernel_rfl
theorem k14:aP Tryz.prog false ⟨false,[],[],false,false,[]⟩ Tryz.f14=some Fo:=by kernel_rfl
theorem k15:aP Tryz.prog false ⟨false,[],[],false,false,[]⟩ Tryz.f15=some Fq:=by kernel_rfl
theorem k16:aP Tryz.prog false ⟨true,[47],[],false,false,[71,32]⟩ Tryz.f16=some yS:=by kernel_rfl
theorem k17:aP Tryz.prog false ⟨false,[],[],false,false,[]⟩ Tryz.f17=some Bk:=by kernel_rfl
theorem k18:aP Tryz.prog true ⟨false,[],[],false,false,[]⟩ Tryz.f18=some Fl:=by kernel_rfl
theorem k19:aP Tryz.prog false ⟨false,[],[],false,false,[]⟩ Tryz.f19=some Bh:=by kernel_rfl
theorem k20:aP Tryz.prog false ⟨true,[],[],false,false,[]⟩ Tryz.f20=some Bl:=by kernel_rfl
theorem k21:aP Tryz.prog false ⟨false,[],[],false,false,[]⟩ Tryz.f21=some E5:=by kernel_rfl
theorem k22:aP Tryz.prog false ⟨false,[],[],false,false,[]⟩ Tryz.f22=some E3:=by kernel_rfl
theorem k23:aP Tryz.prog false ⟨false,[],[],false,false,[]⟩ Tryz.f23=some Fc:=by kernel_rfl
theorem k24:aP Tryz.prog false ⟨false,[],[],false,false,[]⟩ Tryz.f24=some Fb:=by kernel_rfl
theorem k25:aP Tryz.prog false ⟨false,[],[],false,false,[]⟩ Tryz.f25=some Ft:=by kernel_rfl
theorem k26:aP Tryz.prog false ⟨false,[],[],false,false,[]⟩ Tryz.f26=some Fs:=by kernel_rfl
theorem k27:aP Tryz.prog false ⟨false,[],[],false,false,[]⟩ Tryz.f27=some Bq:=by kernel_rfl
theorem k28:aP Tryz.prog false ⟨false,[],[],false,false,[]⟩ Tryz.f28=some F9:=by kernel_rfl
theorem k29:aP Tryz.prog false ⟨false,[],[],false,false,[]⟩ Tryz.f29=some E6:=by kernel_rfl
theorem k30:aP Tryz.prog false ⟨false,[],[],false,false,[]⟩ Tryz.f30=some E2:=by kernel_rfl
theorem k31:aP Tryz.prog true ⟨false,[],[],false,false,[]⟩ Tryz.f31=some xf:=by kernel_rfl
theorem k32:aP Tryz.prog false ⟨false,[],[],false,false,[]⟩ Tryz.f32=some Bo:=by kernel_rfl
theorem k33:aP Tryz.prog false ⟨false,[],[],false,false,[]⟩ Tryz.f33=some BA:=by kernel_rfl
theorem k34:aP Tryz.prog false ⟨false,[],[],false,false,[]⟩ Tryz.f34=some FE:=by kernel_rfl
theorem k35:aP Tryz.prog false ⟨false,[],[],false,false,[]⟩ Tryz.f35=some Bt:=by kernel_rfl
theorem k36:aP Tryz.prog false ⟨false,[],[],false,false,[]⟩ Tryz.f36=some Bz:=by kernel_rfl
theorem k37:aP Tryz.prog false ⟨false,[],[],false,false,[]⟩ Tryz.f37=some FI:=by kernel_rfl
theorem k38:aP Tryz.prog false ⟨false,[],[],false,false,[]⟩ Tryz.f38=some FC:=by kernel_rfl
theorem k39:aP Tryz.prog false ⟨false,[],[],false,false,[]⟩ Tryz.f39=some Gn:=by kernel_rfl
theorem k40:aP Tryz.prog false ⟨false,[],[],false,false,[]⟩ Tryz.f40=some FY:=by kernel_rfl
theorem k41:aP Tryz.prog false ⟨false,[],[],false,false,[]⟩ Tryz.f41=some Ge:=by kernel_rfl
theorem k42:aP Tryz.prog false ⟨false,[],[],false,false,[]⟩ Tryz.f42=some F8:=by kernel_rfl
theorem k43:aP Tryz.prog false ⟨false,[],[],false,false,[]⟩ Tryz.f43=some Gc:=by kernel_rfl
theorem k44:aP Tryz.prog false ⟨false,[],[],false,false,[]⟩ Tryz.f44=some FF:=by kernel_rfl
theorem k45:aP Tryz.prog false ⟨false,[],[],false,false,[]⟩ Tryz.f45=some Gv:=by kernel_rfl
theorem k46:aP Tryz.prog false ⟨false,[],[],false,false,[]⟩ Tryz.f46=some Fi:=by kernel_rfl
theorem k47:aP Tryz.prog false ⟨false,[79],[],false,false,[]⟩ Tryz.f47=some FZ:=by kernel_rfl
theorem k50:aP Tryz.prog false ⟨false,[],[],false,false,[]⟩ Tryz.f50=some yT:=by kernel_rfl
theorem k51:aP Tryz.prog false ⟨false,[],[],false,false,[]⟩ Tryz.f51=some Bw:=by kernel_rfl
theorem k54:aP Tryz.prog false ⟨false,[],[],false,false,[]⟩ Tryz.f54=some Fw:=by kernel_rfl
theorem k55:aP Tryz.prog false ⟨false,[],[],false,false,[]⟩ Tryz.f55=some Bp:=by kernel_rfl
theorem k56:aP Tryz.prog false ⟨false,[],[],false,false,[]⟩ Tryz.f56=some Gb:=by kernel_rfl
theorem k57:aP Tryz.prog false ⟨false,[],[],false,false,[]⟩ Tryz.f57=some Fp:=by kernel_rfl
theorem k58:aP Tryz.prog false ⟨false,[],[],false,false,[]⟩ Tryz.f58=some Fj:=by kernel_rfl
theorem k59:aP Tryz.prog false ⟨false,[],[],false,false,[]⟩ Tryz.f59=some FP:=by kernel_rfl
theorem k60:aP Tryz.prog false ⟨false,[],[],false,false,[]⟩ Tryz.f60=some Gk:=by kernel_rfl
theorem k61:aP Tryz.prog false ⟨false,[],[],false,false,[]⟩ Tryz.f61=some FX:=by kernel_rfl
theorem k62:aP Tryz.prog false ⟨false,[],[],false,false,[]⟩ Tryz.f62=some Fa:=by kernel_rfl
theorem k63:aP Tryz.prog false ⟨false,[],[],false,false,[]⟩ Tryz.f63=some E8:=by kernel_rfl
theorem k64:aP Tryz.prog false ⟨false,[],[],false,false,[]⟩ Tryz.f64=some E7:=by kernel_rfl
theorem k65:aP Tryz.prog false ⟨false,[],[],false,false,[]⟩ Tryz.f65=some Gp:=by kernel_rfl
theorem k66:aP Tryz.prog false ⟨false,[],[],false,false,[]⟩ Tryz.f66=some E9:=by kernel_rfl
theorem k67:aP Tryz.prog false ⟨false,[],[],false,false,[]⟩ Tryz.f67=some FD:=by kernel_rfl
theorem k68:aP Tryz.prog false ⟨false,[],[],false,false,[]⟩ Tryz.f68=some BD:=by kernel_rfl
theorem k69:aP Tryz.prog false ⟨false,[],[],false,false,[]⟩ Tryz.f69=some Br:=by kernel_rfl
theorem k70:aP Tryz.prog false ⟨false,[],[],false,false,[]⟩ Tryz.f70=some BB:=by kernel_rfl
theorem k71:aP Tryz.prog false ⟨false,[],[],false,false,[]⟩ Tryz.f71=some Fe:=by kernel_rfl
theorem k72:aP Tryz.prog false ⟨false,[],[],false,false,[]⟩ Tryz.f72=some KQ:=by kernel_rfl
theorem k73:aP Tryz.prog false ⟨false,[],[],false,false,[]⟩ Tryz.f73=some Gt:=by kernel_rfl
theorem k74:aP Tryz.prog false ⟨false,[],[],false,false,[]⟩ Tryz.f74=some Gf:=by kernel_rfl
theorem k75:aP Tryz.prog false ⟨false,[],[],false,false,[]⟩ Tryz.f75=some Ga:=by kernel_rfl
theorem Sv:aP Tryz.prog false ⟨false,[],[],false,false,[]⟩ Tryz.f76=some FK:=by kernel_rfl
theorem Sw:aP Tryz.prog false ⟨false,[],[],false,false,[]⟩ Tryz.f77=some Fg:=by kernel_rfl
theorem Sy:aP Tryz.prog false ⟨false,[],[],false,false,[]⟩ Tryz.f78=some Fx:=by kernel_rfl
theorem k79:aP Tryz.prog false ⟨false,[],[],false,false,[]⟩ Tryz.f79=some F0:=by kernel_rfl
theorem k83:aP Tryz.prog false ⟨false,[],[],false,false,[]⟩ Tryz.f83=some By:=by kernel_rfl
theorem k88:aP Tryz.prog false ⟨false,[],[],false,false,[]⟩ Tryz.f88=some EZ:=by kernel_rfl
theorem k89:aP Tryz.prog false ⟨false,[],[],false,false,[]⟩ Tryz.f89=some FO:=by kernel_rfl
theorem k90:aP Tryz.prog false ⟨false,[],[],false,false,[]⟩ Tryz.f90=some F3:=by kernel_rfl
theorem k91:aP Tryz.prog false ⟨false,[],[],false,false,[]⟩ Tryz.f91=some Bj:=by kernel_rfl
theorem k92:aP Tryz.prog false ⟨false,[],[],false,false,[]⟩ Tryz.f92=some Fz:=by kernel_rfl
theorem k93:aP Tryz.prog false ⟨false,[],[],false,false,[]⟩ Tryz.f93=some Fu:=by kernel_rfl
theorem k94:aP Tryz.prog false ⟨false,[],[],false,false,[]⟩ Tryz.f94=some Fy:=by kernel_rfl
theorem k95:aP Tryz.prog false ⟨false,[],[],false,false,[]⟩ Tryz.f95=some Gr:=by kernel_rfl
theorem k96:aP Tryz.prog false ⟨false,[],[],false,false,[]⟩ Tryz.f96=some FN:=by kernel_rfl
theorem k97:aP Tryz.prog false ⟨false,[],[],false,false,[]⟩ Tryz.f97=some FQ:=by kernel_rfl
theorem k98:aP Tryz.prog false ⟨false,[],[],false,false,[]⟩ Tryz.f98=some Gh:=by kernel_rfl
theorem k99:aP Tryz.prog false ⟨false,[],[],false,false,[]⟩ Tryz.f99=some Bs:=by kernel_rfl
theorem aoG:aP Tryz.prog false ⟨false,[],[],false,false,[]⟩ Tryz.f100=some Gu:=by kernel_rfl
theorem aoH:aP Tryz.prog true ⟨false,[],[],false,false,[]⟩ Tryz.f101=some Bu:=by kernel_rfl
theorem aoI:aP Tryz.prog false ⟨false,[],[],false,false,[]⟩ Tryz.f102=some FJ:=by kernel_rfl
theorem aoJ:aP Tryz.prog false ⟨false,[],[],false,false,[]⟩ Tryz.f103=some FG:=by kernel_rfl
theorem aoK:aP Tryz.prog false ⟨false,[],[],false,false,[]⟩ Tryz.f104=some FU:=by kernel_rfl
theorem aoL:aP Tryz.prog false ⟨false,[],[],false,false,[]⟩ Tryz.f105=some yV:=by kernel_rfl
theorem aoM:aP Tryz.prog false ⟨false,[],[],false,false,[]⟩ Tryz.f107=some Bv:=by kernel_rfl
theorem aoN:aP Tryz.prog false ⟨false,[],[],false,false,[]⟩ Tryz.f108=some F7:=by kernel_rfl
theorem aoO:aP Tryz.prog false ⟨false,[],[],false,false,[]⟩ Tryz.f109=some F5:=by kernel_rfl
theorem aoQ:aP Tryz.prog false ⟨false,[],[],false,false,[]⟩ Tryz.f110=some yU:=by kernel_rfl
theorem aoR:aP Tryz.prog false ⟨false,[],[],false,false,[]⟩ Tryz.f119=some Ff:=by kernel_rfl
theorem aoS:aP Tryz.prog false ⟨false,[],[],false,false,[]⟩ Tryz.f120=some KN:=by kernel_rfl
theorem aoT:aP Tryz.prog false ⟨false,[],[],false,false,[]⟩ Tryz.f121=some FL:=by kernel_rfl
theorem aoU:aP Tryz.prog false ⟨false,[],[],false,false,[]⟩ Tryz.f122=some xh:=by kernel_rfl
theorem aoV:aP Tryz.prog true ⟨false,[],[],false,false,[]⟩ Tryz.f123=some Gi:=by kernel_rfl
theorem aoW:aP Tryz.prog false ⟨false,[],[],false,false,[]⟩ Tryz.f124=some KP:=by kernel_rfl
theorem aoX:aP Tryz.prog false ⟨false,[],[],false,false,[]⟩ Tryz.f125=some Fh:=by kernel_rfl
theorem aoY:aP Tryz.prog false ⟨false,[],[],false,false,[]⟩ Tryz.f126=some Fk:=by kernel_rfl
theorem aoZ:aP Tryz.prog false ⟨false,[],[],false,false,[]⟩ Tryz.f127=some F1:=by kernel_rfl
theorem ao1:aP Tryz.prog false ⟨false,[],[],false,false,[]⟩ Tryz.f138=some F4:=by kernel_rfl
theorem ao2:aP Tryz.prog false ⟨false,[],[],false,false,[]⟩ Tryz.f139=some Fv:=by kernel_rfl
theorem ao4:aP Tryz.prog false ⟨false,[],[],false,false,[]⟩ Tryz.f140=some E4:=by kernel_rfl
theorem ao5:aP Tryz.prog false ⟨false,[],[],false,false,[]⟩ Tryz.f141=some FA:=by kernel_rfl
theorem ao6:aP Tryz.prog false ⟨false,[],[],false,false,[]⟩ Tryz.f142=some Bx:=by kernel_rfl
theorem ao7:aP Tryz.prog false ⟨false,[],[],false,false,[]⟩ Tryz.f143=some FT:=by kernel_rfl
theorem ao8:aP Tryz.prog false ⟨false,[],[],false,false,[]⟩ Tryz.f144=some Gj:=by kernel_rfl
theorem ao9:aP Tryz.prog false ⟨false,[],[],false,false,[]⟩ Tryz.f145=some FH:=by kernel_rfl
theorem apa:aP Tryz.prog false ⟨false,[],[],false,false,[]⟩ Tryz.f146=some FM:=by kernel_rfl
theorem apb:aP Tryz.prog false ⟨false,[],[],false,false,[]⟩ Tryz.f147=some FV:=by kernel_rfl
theorem apc:aP Tryz.prog false ⟨false,[],[],false,false,[]⟩ Tryz.f149=some Gl:=by kernel_rfl
theorem ape:aP Tryz.prog false ⟨false,[],[],false,false,[]⟩ Tryz.f150=some F6:=by kernel_rfl
theorem apf:aP Tryz.prog false ⟨false,[],[],false,false,[]⟩ Tryz.f156=some KO:=by kernel_rfl
theorem api:aP Tryz.prog false ⟨false,[],[],false,false,[]⟩ Tryz.f175=some Gd:=by kernel_rfl
theorem apj:aP Tryz.prog false ⟨false,[],[],false,false,[]⟩ Tryz.f176=some Gq:=by kernel_rfl
theorem apk:aP Tryz.prog false ⟨false,[],[],false,false,[]⟩ Tryz.f177=some FW:=by kernel_rfl
theorem apl:aP Tryz.prog false ⟨false,[],[],false,false,[]⟩ Tryz.f179=some Gs:=by kernel_rfl
theorem apo:aP Tryz.prog false ⟨false,[],[],false,false,[]⟩ Tryz.f190=some Gg:=by kernel_rfl

theorem ahQ (f:FuncId) (np nt:Nat) (b:au) (rs:List iy) (own:Bool) (h:AP f=some (.code np nt b rs own)):∃fn mu,Tryz.prog.funcs[f]? =some fn∧aP Tryz.prog own mu fn=some (.code np nt b rs own):=by
  match f,h with
  |0,h=>have e:AP 0=none:=rfl;rw[e]at h;cases h
  |1,h=>have e:AP 1=none:=rfl;rw[e]at h;cases h
  |2,h=>have e:AP 2=none:=rfl;rw[e]at h;cases h
  |3,h=>have e:xi=.code np nt b rs own:=Option.some.inj h;unfold xi at e;cases e;exact⟨_,_,Tryz.func3,k3⟩
  |4,h=>have e:F2=.code np nt b rs own:=Option.some.inj h;unfold F2 at e;cases e;exact⟨_,_,Tryz.func4,k4⟩
  |5,h=>have e:yR=.code np nt b rs own:=Option.some.inj h;unfold yR at e;cases e;exact⟨_,_,Tryz.func5,k5⟩
  |6,h=>have e:Bi=.code np nt b rs own:=Option.some.inj h;unfold Bi at e;cases e;exact⟨_,_,Tryz.func6,k6⟩
  |7,h=>have e:Bg=.code np nt b rs own:=Option.some.inj h;unfold Bg at e;cases e;exact⟨_,_,Tryz.func7,k7⟩
  |8,h=>have e:FB=.code np nt b rs own:=Option.some.inj h;unfold FB at e;cases e;exact⟨_,_,Tryz.func8,k8⟩
  |9,h=>have e:Fm=.code np nt b rs own:=Option.some.inj h;unfold Fm at e;cases e;exact⟨_,_,Tryz.func9,k9⟩
  |10,h=>have e:Bm=.code np nt b rs own:=Option.some.inj h;unfold Bm at e;cases e;exact⟨_,_,Tryz.func10,Sr⟩
  |11,h=>have e:xg=.code np nt b rs own:=Option.some.inj h;unfold xg at e;cases e;exact⟨_,_,Tryz.func11,k11⟩
  |12,h=>have e:E1=.code np nt b rs own:=Option.some.inj h;unfold E1 at e;cases e;exact⟨_,_,Tryz.func12,Ss⟩
  |13,h=>have e:Bn=.code np nt b rs own:=Option.some.inj h;unfold Bn at e;cases e;exact⟨_,_,Tryz.func13,k13⟩
  |14,h=>have e:Fo=.code np nt b rs own:=Option.some.inj h;unfold Fo at e;cases e;exact⟨_,_,Tryz.func14,k14⟩
  |15,h=>have e:Fq=.code np nt b rs own:=Option.some.inj h;unfold Fq at e;cases e;exact⟨_,_,Tryz.func15,k15⟩
  |16,h=>have e:yS=.code np nt b rs own:=Option.some.inj h;unfold yS at e;cases e;exact⟨_,_,Tryz.func16,k16⟩
  |17,h=>have e:Bk=.code np nt b rs own:=Option.some.inj h;unfold Bk at e;cases e;exact⟨_,_,Tryz.func17,k17⟩
  |18,h=>have e:Fl=.code np nt b rs own:=Option.some.inj h;unfold Fl at e;cases e;exact⟨_,_,Tryz.func18,k18⟩
  |19,h=>have e:Bh=.code np nt b rs own:=Option.some.inj h;unfold Bh at e;cases e;exact⟨_,_,Tryz.func19,k19⟩
  |20,h=>have e:Bl=.code np nt b rs own:=Option.some.inj h;unfold Bl at e;cases e;exact⟨_,_,Tryz.func20,k20⟩
  |21,h=>have e:E5=.code np nt b rs own:=Option.some.inj h;unfold E5 at e;cases e;exact⟨_,_,Tryz.func21,k21⟩
  |22,h=>have e:E3=.code np nt b rs own:=Option.some.inj h;unfold E3 at e;cases e;exact⟨_,_,Tryz.func22,k22⟩
  |23,h=>have e:Fc=.code np nt b rs own:=Option.some.inj h;unfold Fc at e;cases e;exact⟨_,_,Tryz.func23,k23⟩
  |24,h=>have e:Fb=.code np nt b rs own:=Option.some.inj h;unfold Fb at e;cases e;exact⟨_,_,Tryz.func24,k24⟩
  |25,h=>have e:Ft=.code np nt b rs own:=Option.some.inj h;unfold Ft at e;cases e;exact⟨_,_,Tryz.func25,k25⟩
  |26,h=>have e:Fs=.code np nt b rs own:=Option.some.inj h;unfold Fs at e;cases e;exact⟨_,_,Tryz.func26,k26⟩
  |27,h=>have e:Bq=.code np nt b rs own:=Option.some.inj h;unfold Bq at e;cases e;exact⟨_,_,Tryz.func27,k27⟩
  |28,h=>have e:F9=.code np nt b rs own:=Option.some.inj h;unfold F9 at e;cases e;exact⟨_,_,Tryz.func28,k28⟩
  |29,h=>have e:E6=.code np nt b rs own:=Option.some.inj h;unfold E6 at e;cases e;exact⟨_,_,Tryz.func29,k29⟩
  |30,h=>have e:E2=.code np nt b rs own:=Option.some.inj h;unfold E2 at e;cases e;exact⟨_,_,Tryz.func30,k30⟩
  |31,h=>have e:xf=.code np nt b rs own:=Option.some.inj h;unfold xf at e;cases e;exact⟨_,_,Tryz.func31,k31⟩
  |32,h=>have e:Bo=.code np nt b rs own:=Option.some.inj h;unfold Bo at e;cases e;exact⟨_,_,Tryz.func32,k32⟩
  |33,h=>have e:BA=.code np nt b rs own:=Option.some.inj h;unfold BA at e;cases e;exact⟨_,_,Tryz.func33,k33⟩
  |34,h=>have e:FE=.code np nt b rs own:=Option.some.inj h;unfold FE at e;cases e;exact⟨_,_,Tryz.func34,k34⟩
  |35,h=>have e:Bt=.code np nt b rs own:=Option.some.inj h;unfold Bt at e;cases e;exact⟨_,_,Tryz.func35,k35⟩
  |36,h=>have e:Bz=.code np nt b rs own:=Option.some.inj h;unfold Bz at e;cases e;exact⟨_,_,Tryz.func36,k36⟩
  |37,h=>have e:FI=.code np nt b rs own:=Option.some.inj h;unfold FI at e;cases e;exact⟨_,_,Tryz.func37,k37⟩
  |38,h=>have e:FC=.code np nt b rs own:=Option.some.inj h;unfold FC at e;cases e;exact⟨_,_,Tryz.func38,k38⟩
  |39,h=>have e:Gn=.code np nt b rs own:=Option.some.inj h;unfold Gn at e;cases e;exact⟨_,_,Tryz.func39,k39⟩
  |40,h=>have e:FY=.code np nt b rs own:=Option.some.inj h;unfold FY at e;cases e;exact⟨_,_,Tryz.func40,k40⟩
  |41,h=>have e:Ge=.code np nt b rs own:=Option.some.inj h;unfold Ge at e;cases e;exact⟨_,_,Tryz.func41,k41⟩
  |42,h=>have e:F8=.code np nt b rs own:=Option.some.inj h;unfold F8 at e;cases e;exact⟨_,_,Tryz.func42,k42⟩
  |43,h=>have e:Gc=.code np nt b rs own:=Option.some.inj h;unfold Gc at e;cases e;exact⟨_,_,Tryz.func43,k43⟩
  |44,h=>have e:FF=.code np nt b rs own:=Option.some.inj h;unfold FF at e;cases e;exact⟨_,_,Tryz.func44,k44⟩
  |45,h=>have e:Gv=.code np nt b rs own:=Option.some.inj h;unfold Gv at e;cases e;exact⟨_,_,Tryz.func45,k45⟩
  |46,h=>have e:Fi=.code np nt b rs own:=Option.some.inj h;unfold Fi at e;cases e;exact⟨_,_,Tryz.func46,k46⟩
  |47,h=>have e:FZ=.code np nt b rs own:=Option.some.inj h;unfold FZ at e;cases e;exact⟨_,_,Tryz.func47,k47⟩
  |48,h=>have e:C6=.code np nt b rs own:=Option.some.inj h;unfold C6 at e;cases e
  |49,h=>have e:C9=.code np nt b rs own:=Option.some.inj h;unfold C9 at e;cases e
  |50,h=>have e:yT=.code np nt b rs own:=Option.some.inj h;unfold yT at e;cases e;exact⟨_,_,Tryz.func50,k50⟩
  |51,h=>have e:Bw=.code np nt b rs own:=Option.some.inj h;unfold Bw at e;cases e;exact⟨_,_,Tryz.func51,k51⟩
  |52,h=>have e:zW=.code np nt b rs own:=Option.some.inj h;unfold zW at e;cases e
  |53,h=>have e:C8=.code np nt b rs own:=Option.some.inj h;unfold C8 at e;cases e
  |54,h=>have e:Fw=.code np nt b rs own:=Option.some.inj h;unfold Fw at e;cases e;exact⟨_,_,Tryz.func54,k54⟩
  |55,h=>have e:Bp=.code np nt b rs own:=Option.some.inj h;unfold Bp at e;cases e;exact⟨_,_,Tryz.func55,k55⟩
  |56,h=>have e:Gb=.code np nt b rs own:=Option.some.inj h;unfold Gb at e;cases e;exact⟨_,_,Tryz.func56,k56⟩
  |57,h=>have e:Fp=.code np nt b rs own:=Option.some.inj h;unfold Fp at e;cases e;exact⟨_,_,Tryz.func57,k57⟩
  |58,h=>have e:Fj=.code np nt b rs own:=Option.some.inj h;unfold Fj at e;cases e;exact⟨_,_,Tryz.func58,k58⟩
  |59,h=>have e:FP=.code np nt b rs own:=Option.some.inj h;unfold FP at e;cases e;exact⟨_,_,Tryz.func59,k59⟩
  |60,h=>have e:Gk=.code np nt b rs own:=Option.some.inj h;unfold Gk at e;cases e;exact⟨_,_,Tryz.func60,k60⟩
  |61,h=>have e:FX=.code np nt b rs own:=Option.some.inj h;unfold FX at e;cases e;exact⟨_,_,Tryz.func61,k61⟩
  |62,h=>have e:Fa=.code np nt b rs own:=Option.some.inj h;unfold Fa at e;cases e;exact⟨_,_,Tryz.func62,k62⟩
  |63,h=>have e:E8=.code np nt b rs own:=Option.some.inj h;unfold E8 at e;cases e;exact⟨_,_,Tryz.func63,k63⟩
  |64,h=>have e:E7=.code np nt b rs own:=Option.some.inj h;unfold E7 at e;cases e;exact⟨_,_,Tryz.func64,k64⟩
  |65,h=>have e:Gp=.code np nt b rs own:=Option.some.inj h;unfold Gp at e;cases e;exact⟨_,_,Tryz.func65,k65⟩
  |66,h=>have e:E9=.code np nt b rs own:=Option.some.inj h;unfold E9 at e;cases e;exact⟨_,_,Tryz.func66,k66⟩
  |67,h=>have e:FD=.code np nt b rs own:=Option.some.inj h;unfold FD at e;cases e;exact⟨_,_,Tryz.func67,k67⟩
  |68,h=>have e:BD=.code np nt b rs own:=Option.some.inj h;unfold BD at e;cases e;exact⟨_,_,Tryz.func68,k68⟩
  |69,h=>have e:Br=.code np nt b rs own:=Option.some.inj h;unfold Br at e;cases e;exact⟨_,_,Tryz.func69,k69⟩
  |70,h=>have e:BB=.code np nt b rs own:=Option.some.inj h;unfold BB at e;cases e;exact⟨_,_,Tryz.func70,k70⟩
  |71,h=>have e:Fe=.code np nt b rs own:=Option.some.inj h;unfold Fe at e;cases e;exact⟨_,_,Tryz.func71,k71⟩
  |72,h=>have e:KQ=.code np nt b rs own:=Option.some.inj h;unfold KQ at e;cases e;exact⟨_,_,Tryz.func72,k72⟩
  |73,h=>have e:Gt=.code np nt b rs own:=Option.some.inj h;unfold Gt at e;cases e;exact⟨_,_,Tryz.func73,k73⟩
  |74,h=>have e:Gf=.code np nt b rs own:=Option.some.inj h;unfold Gf at e;cases e;exact⟨_,_,Tryz.func74,k74⟩
  |75,h=>have e:Ga=.code np nt b rs own:=Option.some.inj h;unfold Ga at e;cases e;exact⟨_,_,Tryz.func75,k75⟩
  |76,h=>have e:FK=.code np nt b rs own:=Option.some.inj h;unfold FK at e;cases e;exact⟨_,_,Tryz.func76,Sv⟩
  |77,h=>have e:Fg=.code np nt b rs own:=Option.some.inj h;unfold Fg at e;cases e;exact⟨_,_,Tryz.func77,Sw⟩
  |78,h=>have e:Fx=.code np nt b rs own:=Option.some.inj h;unfold Fx at e;cases e;exact⟨_,_,Tryz.func78,Sy⟩
  |79,h=>have e:F0=.code np nt b rs own:=Option.some.inj h;unfold F0 at e;cases e;exact⟨_,_,Tryz.func79,k79⟩
  |80,h=>have e:AP 80=none:=rfl;rw[e]at h;cases h
  |81,h=>have e:AP 81=none:=rfl;rw[e]at h;cases h
  |82,h=>have e:zV=.code np nt b rs own:=Option.some.inj h;unfold zV at e;cases e
  |83,h=>have e:By=.code np nt b rs own:=Option.some.inj h;unfold By at e;cases e;exact⟨_,_,Tryz.func83,k83⟩
  |84,h=>have e:AP 84=none:=rfl;rw[e]at h;cases h
  |85,h=>have e:AP 85=none:=rfl;rw[e]at h;cases h
  |86,h=>have e:AP 86=none:=rfl;rw[e]at h;cases h
  |87,h=>have e:AP 87=none:=rfl;rw[e]at h;cases h
  |88,h=>have e:EZ=.code np nt b rs own:=Option.some.inj h;unfold EZ at e;cases e;exact⟨_,_,Tryz.func88,k88⟩
  |89,h=>have e:FO=.code np nt b rs own:=Option.some.inj h;unfold FO at e;cases e;exact⟨_,_,Tryz.func89,k89⟩
  |90,h=>have e:F3=.code np nt b rs own:=Option.some.inj h;unfold F3 at e;cases e;exact⟨_,_,Tryz.func90,k90⟩
  |91,h=>have e:Bj=.code np nt b rs own:=Option.some.inj h;unfold Bj at e;cases e;exact⟨_,_,Tryz.func91,k91⟩
  |92,h=>have e:Fz=.code np nt b rs own:=Option.some.inj h;unfold Fz at e;cases e;exact⟨_,_,Tryz.func92,k92⟩
  |93,h=>have e:Fu=.code np nt b rs own:=Option.some.inj h;unfold Fu at e;cases e;exact⟨_,_,Tryz.func93,k93⟩
  |94,h=>have e:Fy=.code np nt b rs own:=Option.some.inj h;unfold Fy at e;cases e;exact⟨_,_,Tryz.func94,k94⟩
  |95,h=>have e:Gr=.code np nt b rs own:=Option.some.inj h;unfold Gr at e;cases e;exact⟨_,_,Tryz.func95,k95⟩
  |96,h=>have e:FN=.code np nt b rs own:=Option.some.inj h;unfold FN at e;cases e;exact⟨_,_,Tryz.func96,k96⟩
  |97,h=>have e:FQ=.code np nt b rs own:=Option.some.inj h;unfold FQ at e;cases e;exact⟨_,_,Tryz.func97,k97⟩
  |98,h=>have e:Gh=.code np nt b rs own:=Option.some.inj h;unfold Gh at e;cases e;exact⟨_,_,Tryz.func98,k98⟩
  |99,h=>have e:Bs=.code np nt b rs own:=Option.some.inj h;unfold Bs at e;cases e;exact⟨_,_,Tryz.func99,k99⟩
  |100,h=>have e:Gu=.code np nt b rs own:=Option.some.inj h;unfold Gu at e;cases e;exact⟨_,_,Tryz.func100,aoG⟩
  |101,h=>have e:Bu=.code np nt b rs own:=Option.some.inj h;unfold Bu at e;cases e;exact⟨_,_,Tryz.func101,aoH⟩
  |102,h=>have e:FJ=.code np nt b rs own:=Option.some.inj h;unfold FJ at e;cases e;exact⟨_,_,Tryz.func102,aoI⟩
  |103,h=>have e:FG=.code np nt b rs own:=Option.some.inj h;unfold FG at e;cases e;exact⟨_,_,Tryz.func103,aoJ⟩
  |104,h=>have e:FU=.code np nt b rs own:=Option.some.inj h;unfold FU at e;cases e;exact⟨_,_,Tryz.func104,aoK⟩
  |105,h=>have e:yV=.code np nt b rs own:=Option.some.inj h;unfold yV at e;cases e;exact⟨_,_,Tryz.func105,aoL⟩
  |106,h=>have e:AP 106=none:=rfl;rw[e]at h;cases h
  |107,h=>have e:Bv=.code np nt b rs own:=Option.some.inj h;unfold Bv at e;cases e;exact⟨_,_,Tryz.func107,aoM⟩
  |108,h=>have e:F7=.code np nt b rs own:=Option.some.inj h;unfold F7 at e;cases e;exact⟨_,_,Tryz.func108,aoN⟩
  |109,h=>have e:F5=.code np nt b rs own:=Option.some.inj h;unfold F5 at e;cases e;exact⟨_,_,Tryz.func109,aoO⟩
  |110,h=>have e:yU=.code np nt b rs own:=Option.some.inj h;unfold yU at e;cases e;exact⟨_,_,Tryz.func110,aoQ⟩
  |111,h=>have e:AP 111=none:=rfl;rw[e]at h;cases h
  |112,h=>have e:AP 112=none:=rfl;rw[e]at h;cases h
  |113,h=>have e:AP 113=none:=rfl;rw[e]at h;cases h
  |114,h=>have e:AP 114=none:=rfl;rw[e]at h;cases h
  |115,h=>have e:AP 115=none:=rfl;rw[e]at h;cases h
  |116,h=>have e:AP 116=none:=rfl;rw[e]at h;cases h
  |117,h=>have e:AP 117=none:=rfl;rw[e]at h;cases h
  |118,h=>have e:AP 118=none:=rfl;rw[e]at h;cases h
  |119,h=>have e:Ff=.code np nt b rs own:=Option.some.inj h;unfold Ff at e;cases e;exact⟨_,_,Tryz.func119,aoR⟩
  |120,h=>have e:KN=.code np nt b rs own:=Option.some.inj h;unfold KN at e;cases e;exact⟨_,_,Tryz.func120,aoS⟩
  |121,h=>have e:FL=.code np nt b rs own:=Option.some.inj h;unfold FL at e;cases e;exact⟨_,_,Tryz.func121,aoT⟩
  |122,h=>have e:xh=.code np nt b rs own:=Option.some.inj h;unfold xh at e;cases e;exact⟨_,_,Tryz.func122,aoU⟩
  |123,h=>have e:Gi=.code np nt b rs own:=Option.some.inj h;unfold Gi at e;cases e;exact⟨_,_,Tryz.func123,aoV⟩
  |124,h=>have e:KP=.code np nt b rs own:=Option.some.inj h;unfold KP at e;cases e;exact⟨_,_,Tryz.func124,aoW⟩
  |125,h=>have e:Fh=.code np nt b rs own:=Option.some.inj h;unfold Fh at e;cases e;exact⟨_,_,Tryz.func125,aoX⟩
  |126,h=>have e:Fk=.code np nt b rs own:=Option.some.inj h;unfold Fk at e;cases e;exact⟨_,_,Tryz.func126,aoY⟩
  |127,h=>have e:F1=.code np nt b rs own:=Option.some.inj h;unfold F1 at e;cases e;exact⟨_,_,Tryz.func127,aoZ⟩
  |128,h=>have e:AP 128=none:=rfl;rw[e]at h;cases h
  |129,h=>have e:C7=.code np nt b rs own:=Option.some.inj h;unfold C7 at e;cases e
  |130,h=>have e:AP 130=none:=rfl;rw[e]at h;cases h
  |131,h=>have e:AP 131=none:=rfl;rw[e]at h;cases h
  |132,h=>have e:AP 132=none:=rfl;rw[e]at h;cases h
  |133,h=>have e:AP 133=none:=rfl;rw[e]at h;cases h
  |134,h=>have e:AP 134=none:=rfl;rw[e]at h;cases h
  |135,h=>have e:AP 135=none:=rfl;rw[e]at h;cases h
  |136,h=>have e:AP 136=none:=rfl;rw[e]at h;cases h
  |137,h=>have e:AP 137=none:=rfl;rw[e]at h;cases h
  |138,h=>have e:F4=.code np nt b rs own:=Option.some.inj h;unfold F4 at e;cases e;exact⟨_,_,Tryz.func138,ao1⟩
  |139,h=>have e:Fv=.code np nt b rs own:=Option.some.inj h;unfold Fv at e;cases e;exact⟨_,_,Tryz.func139,ao2⟩
  |140,h=>have e:E4=.code np nt b rs own:=Option.some.inj h;unfold E4 at e;cases e;exact⟨_,_,Tryz.func140,ao4⟩
  |141,h=>have e:FA=.code np nt b rs own:=Option.some.inj h;unfold FA at e;cases e;exact⟨_,_,Tryz.func141,ao5⟩
  |142,h=>have e:Bx=.code np nt b rs own:=Option.some.inj h;unfold Bx at e;cases e;exact⟨_,_,Tryz.func142,ao6⟩
  |143,h=>have e:FT=.code np nt b rs own:=Option.some.inj h;unfold FT at e;cases e;exact⟨_,_,Tryz.func143,ao7⟩
  |144,h=>have e:Gj=.code np nt b rs own:=Option.some.inj h;unfold Gj at e;cases e;exact⟨_,_,Tryz.func144,ao8⟩
  |145,h=>have e:FH=.code np nt b rs own:=Option.some.inj h;unfold FH at e;cases e;exact⟨_,_,Tryz.func145,ao9⟩
  |146,h=>have e:FM=.code np nt b rs own:=Option.some.inj h;unfold FM at e;cases e;exact⟨_,_,Tryz.func146,apa⟩
  |147,h=>have e:FV=.code np nt b rs own:=Option.some.inj h;unfold FV at e;cases e;exact⟨_,_,Tryz.func147,apb⟩
  |148,h=>have e:AP 148=none:=rfl;rw[e]at h;cases h
  |149,h=>have e:Gl=.code np nt b rs own:=Option.some.inj h;unfold Gl at e;cases e;exact⟨_,_,Tryz.func149,apc⟩
  |150,h=>have e:F6=.code np nt b rs own:=Option.some.inj h;unfold F6 at e;cases e;exact⟨_,_,Tryz.func150,ape⟩
  |151,h=>have e:AP 151=none:=rfl;rw[e]at h;cases h
  |152,h=>have e:AP 152=none:=rfl;rw[e]at h;cases h
  |153,h=>have e:AP 153=none:=rfl;rw[e]at h;cases h
  |154,h=>have e:AP 154=none:=rfl;rw[e]at h;cases h
  |155,h=>have e:AP 155=none:=rfl;rw[e]at h;cases h
  |156,h=>have e:KO=.code np nt b rs own:=Option.some.inj h;unfold KO at e;cases e;exact⟨_,_,Tryz.func156,apf⟩
  |157,h=>have e:AP 157=none:=rfl;rw[e]at h;cases h
  |158,h=>have e:AP 158=none:=rfl;rw[e]at h;cases h
  |159,h=>have e:AP 159=none:=rfl;rw[e]at h;cases h
  |160,h=>have e:AP 160=none:=rfl;rw[e]at h;cases h
  |161,h=>have e:AP 161=none:=rfl;rw[e]at h;cases h
  |162,h=>have e:AP 162=none:=rfl;rw[e]at h;cases h
  |163,h=>have e:AP 163=none:=rfl;rw[e]at h;cases h
  |164,h=>have e:AP 164=none:=rfl;rw[e]at h;cases h
  |165,h=>have e:AP 165=none:=rfl;rw[e]at h;cases h
  |166,h=>have e:AP 166=none:=rfl;rw[e]at h;cases h
  |167,h=>have e:AP 167=none:=rfl;rw[e]at h;cases h
  |168,h=>have e:AP 168=none:=rfl;rw[e]at h;cases h
  |169,h=>have e:AP 169=none:=rfl;rw[e]at h;cases h
  |170,h=>have e:AP 170=none:=rfl;rw[e]at h;cases h
  |171,h=>have e:AP 171=none:=rfl;rw[e]at h;cases h
  |172,h=>have e:AP 172=none:=rfl;rw[e]at h;cases h
  |173,h=>have e:AP 173=none:=rfl;rw[e]at h;cases h
  |174,h=>have e:AP 174=none:=rfl;rw[e]at h;cases h
  |175,h=>have e:Gd=.code np nt b rs own:=Option.some.inj h;unfold Gd at e;cases e;exact⟨_,_,Tryz.func175,api⟩
  |176,h=>have e:Gq=.code np nt b rs own:=Option.some.inj h;unfold Gq at e;cases e;exact⟨_,_,Tryz.func176,apj⟩
  |177,h=>have e:FW=.code np nt b rs own:=Option.some.inj h;unfold FW at e;cases e;exact⟨_,_,Tryz.func177,apk⟩
  |178,h=>have e:AP 178=none:=rfl;rw[e]at h;cases h
  |179,h=>have e:Gs=.code np nt b rs own:=Option.some.inj h;unfold Gs at e;cases e;exact⟨_,_,Tryz.func179,apl⟩
  |180,h=>have e:AP 180=none:=rfl;rw[e]at h;cases h
  |181,h=>have e:AP 181=none:=rfl;rw[e]at h;cases h
  |182,h=>have e:AP 182=none:=rfl;rw[e]at h;cases h
  |183,h=>have e:AP 183=none:=rfl;rw[e]at h;cases h
  |184,h=>have e:AP 184=none:=rfl;rw[e]at h;cases h
  |185,h=>have e:AP 185=none:=rfl;rw[e]at h;cases h
  |186,h=>have e:AP 186=none:=rfl;rw[e]at h;cases h
  |187,h=>have e:AP 187=none:=rfl;rw[e]at h;cases h
  |188,h=>have e:AP 188=none:=rfl;rw[e]at h;cases h
  |189,h=>have e:AP 189=none:=rfl;rw[e]at h;cases h
  |190,h=>have e:Gg=.code np nt b rs own:=Option.some.inj h;unfold Gg at e;cases e;exact⟨_,_,Tryz.func190,apo⟩
  |m+191,h=>have e:AP (m+191)=none:=rfl;rw[e]at h;cases h

def aaU:Ren where
  f:=fun x=>match x with|145=>48|220=>80|219=>130|217=>158|225=>159|224=>160|267=>161|266=>181|314=>182|n=>n
  t:=fun x=>match x with|9=>9|4=>4|59=>97|3=>3|5=>5|46=>130|146=>184|51=>181|n=>n
  g:=fun x=>match x with|1=>0|n=>n
theorem aaT:LaysM.n145 Tryz.prog aaU where
  mixed:=by kernel_rfl
  f145:=Eq.trans Tryz.func48 (by kernel_rfl)
  f217:=Eq.trans Tryz.func158 (by kernel_rfl)
  f219:=Eq.trans Tryz.func130 (by kernel_rfl)
  f220:=Eq.trans Tryz.func80 (by kernel_rfl)
  f224:=Eq.trans Tryz.func160 (by kernel_rfl)
  f225:=Eq.trans Tryz.func159 (by kernel_rfl)
  f266:=Eq.trans Tryz.func181 (by kernel_rfl)
  f267:=Eq.trans Tryz.func161 (by kernel_rfl)
  f314:=Eq.trans Tryz.func182 (by kernel_rfl)
  t3:=Tryz.underlying3
  a3:=Tryz.isAgg3
  z3:=Tryz.sizeOf3
  v3:=Tryz.zeroValue3
  t4:=Tryz.underlying4
  a4:=Tryz.isAgg4
  z4:=Tryz.sizeOf4
  v4:=Tryz.zeroValue4
  t5:=Tryz.underlying5
  a5:=Tryz.isAgg5
  z5:=Tryz.sizeOf5
  v5:=Tryz.zeroValue5
  t9:=Tryz.underlying9
  a9:=Tryz.isAgg9
  z9:=Tryz.sizeOf9
  v9:=Tryz.zeroValue9
  t46:=Tryz.underlying130
  a46:=Tryz.isAgg130
  z46:=Tryz.sizeOf130
  v46:=Tryz.zeroValue130
  t51:=Tryz.underlying181
  a51:=Tryz.isAgg181
  z51:=Tryz.sizeOf181
  v51:=Tryz.zeroValue181
  t59:=Tryz.underlying97
  a59:=Tryz.isAgg97
  z59:=Tryz.sizeOf97
  v59:=Tryz.zeroValue97
  t146:=Tryz.underlying184
  a146:=Tryz.isAgg184
  z146:=Tryz.sizeOf184
  v146:=Tryz.zeroValue184
  g1:=by kernel_rfl
  i3:=by kernel_rfl
  i4:=by kernel_rfl
  i5:=by kernel_rfl
  i9:=by kernel_rfl
  i46:=by kernel_rfl
  i51:=by kernel_rfl
  i59:=by kernel_rfl
  i146:=by kernel_rfl
  m1:=by kernel_rfl
  s1_3 := fun w h => cell_of_shapedOpen_int h (of_decide_eq_true (by kernel_rfl)) (show _ = some (#[Value.int IntKind.i64 0], 3) by kernel_rfl) rfl (by kernel_rfl) (by kernel_rfl) Tryz.underlying3
def asj:Ren where
  f:=fun x=>match x with|146=>49|221=>81|268=>131|138=>132|143=>129|195=>162|197=>128|218=>163|219=>130|260=>157|217=>158|225=>159|224=>160|267=>161|266=>181|314=>182|n=>n
  t:=fun x=>match x with|9=>9|31=>99|3=>3|4=>4|0=>0|105=>190|21=>21|5=>5|46=>130|119=>232|139=>235|138=>234|146=>184|51=>181|n=>n
  g:=fun x=>match x with|1=>0|3=>1|4=>2|n=>n
theorem asi:Lays.n146 Tryz.prog asj where
  mixed:=by kernel_rfl
  f138:=Eq.trans Tryz.func132 (by kernel_rfl)
  f143:=Eq.trans Tryz.func129 (by kernel_rfl)
  f146:=Eq.trans Tryz.func49 (by kernel_rfl)
  f195:=Eq.trans Tryz.func162 (by kernel_rfl)
  f197:=Eq.trans Tryz.func128 (by kernel_rfl)
  f217:=Eq.trans Tryz.func158 (by kernel_rfl)
  f218:=Eq.trans Tryz.func163 (by kernel_rfl)
  f219:=Eq.trans Tryz.func130 (by kernel_rfl)
  f221:=Eq.trans Tryz.func81 (by kernel_rfl)
  f224:=Eq.trans Tryz.func160 (by kernel_rfl)
  f225:=Eq.trans Tryz.func159 (by kernel_rfl)
  f260:=Eq.trans Tryz.func157 (by kernel_rfl)
  f266:=Eq.trans Tryz.func181 (by kernel_rfl)
  f267:=Eq.trans Tryz.func161 (by kernel_rfl)
  f268:=Eq.trans Tryz.func131 (by kernel_rfl)
  f314:=Eq.trans Tryz.func182 (by kernel_rfl)
  t0:=Tryz.underlying0
  a0:=Tryz.isAgg0
  z0:=Tryz.sizeOf0
  v0:=Tryz.zeroValue0
  t3:=Tryz.underlying3
  a3:=Tryz.isAgg3
  z3:=Tryz.sizeOf3
  v3:=Tryz.zeroValue3
  t4:=Tryz.underlying4
  a4:=Tryz.isAgg4
  z4:=Tryz.sizeOf4
  v4:=Tryz.zeroValue4
  t5:=Tryz.underlying5
  a5:=Tryz.isAgg5
  z5:=Tryz.sizeOf5
  v5:=Tryz.zeroValue5
  t9:=Tryz.underlying9
  a9:=Tryz.isAgg9
  z9:=Tryz.sizeOf9
  v9:=Tryz.zeroValue9
  t21:=Tryz.underlying21
  a21:=Tryz.isAgg21
  z21:=Tryz.sizeOf21
  v21:=Tryz.zeroValue21
  t31:=Tryz.underlying99
  a31:=Tryz.isAgg99
  z31:=Tryz.sizeOf99
  v31:=Tryz.zeroValue99
  t46:=Tryz.underlying130
  a46:=Tryz.isAgg130
  z46:=Tryz.sizeOf130
  v46:=Tryz.zeroValue130
  t51:=Tryz.underlying181
  a51:=Tryz.isAgg181
  z51:=Tryz.sizeOf181
  v51:=Tryz.zeroValue181
  t105:=Tryz.underlying190
  a105:=Tryz.isAgg190
  z105:=Tryz.sizeOf190
  v105:=Tryz.zeroValue190
  t119:=Tryz.underlying232
  a119:=Tryz.isAgg232
  z119:=Tryz.sizeOf232
  t138:=Tryz.underlying234
  a138:=Tryz.isAgg234
  z138:=Tryz.sizeOf234
  v138:=Tryz.zeroValue234
  t139:=Tryz.underlying235
  a139:=Tryz.isAgg235
  z139:=Tryz.sizeOf235
  v139:=Tryz.zeroValue235
  t146:=Tryz.underlying184
  a146:=Tryz.isAgg184
  z146:=Tryz.sizeOf184
  v146:=Tryz.zeroValue184
  g1:=by kernel_rfl
  g3:=by kernel_rfl
  g4:=by kernel_rfl
def asn:Ren where
  f:=fun x=>match x with|171=>52|243=>84|246=>135|283=>169|284=>170|285=>171|286=>172|129=>119|317=>186|318=>187|319=>188|320=>189|337=>193|338=>194|n=>n
  t:=fun x=>match x with|3=>3|9=>9|2=>2|4=>4|171=>220|0=>0|53=>183|37=>147|5=>5|173=>222|212=>244|51=>181|20=>20|213=>245|46=>130|232=>250|233=>251|n=>n
  g:=fun x=>match x with|17=>5|18=>6|19=>7|n=>n
theorem asm:LaysM.n171 Tryz.prog asn where
  mixed:=by kernel_rfl
  f129:=Eq.trans Tryz.func119 (by kernel_rfl)
  f171:=Eq.trans Tryz.func52 (by kernel_rfl)
  f243:=Eq.trans Tryz.func84 (by kernel_rfl)
  f246:=Eq.trans Tryz.func135 (by kernel_rfl)
  f283:=Eq.trans Tryz.func169 (by kernel_rfl)
  f284:=Eq.trans Tryz.func170 (by kernel_rfl)
  f285:=Eq.trans Tryz.func171 (by kernel_rfl)
  f286:=Eq.trans Tryz.func172 (by kernel_rfl)
  f317:=Eq.trans Tryz.func186 (by kernel_rfl)
  f318:=Eq.trans Tryz.func187 (by kernel_rfl)
  f319:=Eq.trans Tryz.func188 (by kernel_rfl)
  f320:=Eq.trans Tryz.func189 (by kernel_rfl)
  f337:=Eq.trans Tryz.func193 (by kernel_rfl)
  f338:=Eq.trans Tryz.func194 (by kernel_rfl)
  t0:=Tryz.underlying0
  a0:=Tryz.isAgg0
  z0:=Tryz.sizeOf0
  v0:=Tryz.zeroValue0
  t2:=Tryz.underlying2
  a2:=Tryz.isAgg2
  z2:=Tryz.sizeOf2
  v2:=Tryz.zeroValue2
  t3:=Tryz.underlying3
  a3:=Tryz.isAgg3
  z3:=Tryz.sizeOf3
  v3:=Tryz.zeroValue3
  t4:=Tryz.underlying4
  a4:=Tryz.isAgg4
  z4:=Tryz.sizeOf4
  v4:=Tryz.zeroValue4
  t5:=Tryz.underlying5
  a5:=Tryz.isAgg5
  z5:=Tryz.sizeOf5
  v5:=Tryz.zeroValue5
  t9:=Tryz.underlying9
  a9:=Tryz.isAgg9
  z9:=Tryz.sizeOf9
  v9:=Tryz.zeroValue9
  t20:=Tryz.underlying20
  a20:=Tryz.isAgg20
  z20:=Tryz.sizeOf20
  v20:=Tryz.zeroValue20
  t37:=Tryz.underlying147
  a37:=Tryz.isAgg147
  z37:=Tryz.sizeOf147
  v37:=Tryz.zeroValue147
  t46:=Tryz.underlying130
  a46:=Tryz.isAgg130
  z46:=Tryz.sizeOf130
  v46:=Tryz.zeroValue130
  t51:=Tryz.underlying181
  a51:=Tryz.isAgg181
  z51:=Tryz.sizeOf181
  v51:=Tryz.zeroValue181
  t53:=Tryz.underlying183
  a53:=Tryz.isAgg183
  z53:=Tryz.sizeOf183
  v53:=Tryz.zeroValue183
  t171:=Tryz.underlying220
  a171:=Tryz.isAgg220
  z171:=Tryz.sizeOf220
  v171:=Tryz.zeroValue220
  t173:=Tryz.underlying222
  a173:=Tryz.isAgg222
  z173:=Tryz.sizeOf222
  v173:=Tryz.zeroValue222
  t212:=Tryz.underlying244
  a212:=Tryz.isAgg244
  z212:=Tryz.sizeOf244
  v212:=Tryz.zeroValue244
  t213:=Tryz.underlying245
  a213:=Tryz.isAgg245
  z213:=Tryz.sizeOf245
  t232:=Tryz.underlying250
  a232:=Tryz.isAgg250
  z232:=Tryz.sizeOf250
  v232:=Tryz.zeroValue250
  t233:=Tryz.underlying251
  a233:=Tryz.isAgg251
  z233:=Tryz.sizeOf251
  v233:=Tryz.zeroValue251
  g17:=by kernel_rfl
  g18:=by kernel_rfl
  g19:=by kernel_rfl
  i0:=by kernel_rfl
  i2:=by kernel_rfl
  i3:=by kernel_rfl
  i4:=by kernel_rfl
  i5:=by kernel_rfl
  i9:=by kernel_rfl
  i20:=by kernel_rfl
  i37:=by kernel_rfl
  i46:=by kernel_rfl
  i51:=by kernel_rfl
  i53:=by kernel_rfl
  i171:=by kernel_rfl
  i173:=by kernel_rfl
  i212:=by kernel_rfl
  i232:=by kernel_rfl
  i233:=by kernel_rfl
  m17:=by kernel_rfl
  m18:=by kernel_rfl
  m19:=by kernel_rfl
def aaV:Ren where
  f:=fun x=>match x with|156=>53|165=>85|166=>86|169=>87|240=>136|241=>137|276=>173|277=>174|n=>n
  t:=fun x=>match x with|31=>99|9=>9|3=>3|4=>4|0=>0|20=>20|72=>149|76=>143|70=>146|37=>147|75=>142|127=>196|164=>224|5=>5|80=>151|n=>n
  g:=fun n=>n
theorem asl:Lays.n156 Tryz.prog aaV where
  mixed:=by kernel_rfl
  f156:=Eq.trans Tryz.func53 (by kernel_rfl)
  f165:=Eq.trans Tryz.func85 (by kernel_rfl)
  f166:=Eq.trans Tryz.func86 (by kernel_rfl)
  f169:=Eq.trans Tryz.func87 (by kernel_rfl)
  f240:=Eq.trans Tryz.func136 (by kernel_rfl)
  f241:=Eq.trans Tryz.func137 (by kernel_rfl)
  f276:=Eq.trans Tryz.func173 (by kernel_rfl)
  f277:=Eq.trans Tryz.func174 (by kernel_rfl)
  t0:=Tryz.underlying0
  a0:=Tryz.isAgg0
  z0:=Tryz.sizeOf0
  v0:=Tryz.zeroValue0
  t3:=Tryz.underlying3
  a3:=Tryz.isAgg3
  z3:=Tryz.sizeOf3
  v3:=Tryz.zeroValue3
  t4:=Tryz.underlying4
  a4:=Tryz.isAgg4
  z4:=Tryz.sizeOf4
  v4:=Tryz.zeroValue4
  t9:=Tryz.underlying9
  a9:=Tryz.isAgg9
  z9:=Tryz.sizeOf9
  v9:=Tryz.zeroValue9
  t20:=Tryz.underlying20
  a20:=Tryz.isAgg20
  z20:=Tryz.sizeOf20
  v20:=Tryz.zeroValue20
  t31:=Tryz.underlying99
  a31:=Tryz.isAgg99
  z31:=Tryz.sizeOf99
  v31:=Tryz.zeroValue99
  t37:=Tryz.underlying147
  a37:=Tryz.isAgg147
  z37:=Tryz.sizeOf147
  v37:=Tryz.zeroValue147
  t70:=Tryz.underlying146
  a70:=Tryz.isAgg146
  z70:=Tryz.sizeOf146
  v70:=Tryz.zeroValue146
  t72:=Tryz.underlying149
  a72:=Tryz.isAgg149
  z72:=Tryz.sizeOf149
  v72:=Tryz.zeroValue149
  t75:=Tryz.underlying142
  a75:=Tryz.isAgg142
  z75:=Tryz.sizeOf142
  v75:=Tryz.zeroValue142
  t76:=Tryz.underlying143
  a76:=Tryz.isAgg143
  z76:=Tryz.sizeOf143
  v76:=Tryz.zeroValue143
  t127:=Tryz.underlying196
  a127:=Tryz.isAgg196
  z127:=Tryz.sizeOf196
  v127:=Tryz.zeroValue196
  t164:=Tryz.underlying224
  a164:=Tryz.isAgg224
  z164:=Tryz.sizeOf224
  v164:=Tryz.zeroValue224
theorem extra:Builder.Extra Tryz.prog aaV where
  sizeBuilder:=by kernel_rfl
  liesBuilder:=by kernel_rfl
  t5:=Tryz.underlying5
  a5:=Tryz.isAgg5
  z5:=Tryz.sizeOf5
  v5:=Tryz.zeroValue5
  infoByte:=by kernel_rfl
  cellsByte:=by kernel_rfl
  sizeByte:=by kernel_rfl
  neB5:=by decide
def H5:Ren where
  f:=fun x=>match x with|172=>82|244=>133|245=>134|247=>164|279=>165|280=>166|281=>167|282=>168|287=>183|316=>184|171=>52|205=>185|321=>191|322=>192|243=>84|246=>135|283=>169|284=>170|285=>171|286=>172|129=>119|317=>186|318=>187|319=>188|320=>189|337=>193|338=>194|n=>n
  t:=fun x=>match x with|9=>9|3=>3|75=>142|76=>143|4=>4|5=>5|167=>214|37=>147|0=>0|85=>215|2=>2|168=>217|53=>183|175=>237|46=>130|210=>241|127=>196|145=>249|143=>247|21=>21|171=>220|173=>222|212=>244|51=>181|20=>20|213=>245|232=>250|233=>251|80=>151|n=>n
  g:=fun x=>match x with|15=>3|16=>4|17=>5|18=>6|19=>7|n=>n
theorem aso:LaysC.n172 Tryz.prog H5 where
  mixed:=by kernel_rfl
  f129:=Eq.trans Tryz.func119 (by kernel_rfl)
  f171:=Eq.trans Tryz.func52 (by kernel_rfl)
  f172:=Eq.trans Tryz.func82 (by kernel_rfl)
  f205:=Eq.trans Tryz.func185 (by kernel_rfl)
  f243:=Eq.trans Tryz.func84 (by kernel_rfl)
  f244:=Eq.trans Tryz.func133 (by kernel_rfl)
  f245:=Eq.trans Tryz.func134 (by kernel_rfl)
  f246:=Eq.trans Tryz.func135 (by kernel_rfl)
  f247:=Eq.trans Tryz.func164 (by kernel_rfl)
  f279:=Eq.trans Tryz.func165 (by kernel_rfl)
  f280:=Eq.trans Tryz.func166 (by kernel_rfl)
  f281:=Eq.trans Tryz.func167 (by kernel_rfl)
  f282:=Eq.trans Tryz.func168 (by kernel_rfl)
  f283:=Eq.trans Tryz.func169 (by kernel_rfl)
  f284:=Eq.trans Tryz.func170 (by kernel_rfl)
  f285:=Eq.trans Tryz.func171 (by kernel_rfl)
  f286:=Eq.trans Tryz.func172 (by kernel_rfl)
  f287:=Eq.trans Tryz.func183 (by kernel_rfl)
  f316:=Eq.trans Tryz.func184 (by kernel_rfl)
  f317:=Eq.trans Tryz.func186 (by kernel_rfl)
  f318:=Eq.trans Tryz.func187 (by kernel_rfl)
  f319:=Eq.trans Tryz.func188 (by kernel_rfl)
  f320:=Eq.trans Tryz.func189 (by kernel_rfl)
  f321:=Eq.trans Tryz.func191 (by kernel_rfl)
  f322:=Eq.trans Tryz.func192 (by kernel_rfl)
  f337:=Eq.trans Tryz.func193 (by kernel_rfl)
  f338:=Eq.trans Tryz.func194 (by kernel_rfl)
  t0:=Tryz.underlying0
  a0:=Tryz.isAgg0
  z0:=Tryz.sizeOf0
  v0:=Tryz.zeroValue0
  t2:=Tryz.underlying2
  a2:=Tryz.isAgg2
  z2:=Tryz.sizeOf2
  v2:=Tryz.zeroValue2
  t3:=Tryz.underlying3
  a3:=Tryz.isAgg3
  z3:=Tryz.sizeOf3
  v3:=Tryz.zeroValue3
  t4:=Tryz.underlying4
  a4:=Tryz.isAgg4
  z4:=Tryz.sizeOf4
  v4:=Tryz.zeroValue4
  t5:=Tryz.underlying5
  a5:=Tryz.isAgg5
  z5:=Tryz.sizeOf5
  v5:=Tryz.zeroValue5
  t9:=Tryz.underlying9
  a9:=Tryz.isAgg9
  z9:=Tryz.sizeOf9
  v9:=Tryz.zeroValue9
  t20:=Tryz.underlying20
  a20:=Tryz.isAgg20
  z20:=Tryz.sizeOf20
  v20:=Tryz.zeroValue20
  t21:=Tryz.underlying21
  a21:=Tryz.isAgg21
  z21:=Tryz.sizeOf21
  v21:=Tryz.zeroValue21
  t37:=Tryz.underlying147
  a37:=Tryz.isAgg147
  z37:=Tryz.sizeOf147
  v37:=Tryz.zeroValue147
  t46:=Tryz.underlying130
  a46:=Tryz.isAgg130
  z46:=Tryz.sizeOf130
  v46:=Tryz.zeroValue130
  t51:=Tryz.underlying181
  a51:=Tryz.isAgg181
  z51:=Tryz.sizeOf181
  v51:=Tryz.zeroValue181
  t53:=Tryz.underlying183
  a53:=Tryz.isAgg183
  z53:=Tryz.sizeOf183
  v53:=Tryz.zeroValue183
  t75:=Tryz.underlying142
  a75:=Tryz.isAgg142
  z75:=Tryz.sizeOf142
  v75:=Tryz.zeroValue142
  t76:=Tryz.underlying143
  a76:=Tryz.isAgg143
  z76:=Tryz.sizeOf143
  v76:=Tryz.zeroValue143
  t85:=Tryz.underlying215
  a85:=Tryz.isAgg215
  z85:=Tryz.sizeOf215
  v85:=Tryz.zeroValue215
  t127:=Tryz.underlying196
  a127:=Tryz.isAgg196
  z127:=Tryz.sizeOf196
  v127:=Tryz.zeroValue196
  t143:=Tryz.underlying247
  a143:=Tryz.isAgg247
  z143:=Tryz.sizeOf247
  v143:=Tryz.zeroValue247
  t145:=Tryz.underlying249
  a145:=Tryz.isAgg249
  z145:=Tryz.sizeOf249
  v145:=Tryz.zeroValue249
  t167:=Tryz.underlying214
  a167:=Tryz.isAgg214
  z167:=Tryz.sizeOf214
  v167:=Tryz.zeroValue214
  t168:=Tryz.underlying217
  a168:=Tryz.isAgg217
  z168:=Tryz.sizeOf217
  v168:=Tryz.zeroValue217
  t171:=Tryz.underlying220
  a171:=Tryz.isAgg220
  z171:=Tryz.sizeOf220
  v171:=Tryz.zeroValue220
  t173:=Tryz.underlying222
  a173:=Tryz.isAgg222
  z173:=Tryz.sizeOf222
  v173:=Tryz.zeroValue222
  t175:=Tryz.underlying237
  a175:=Tryz.isAgg237
  z175:=Tryz.sizeOf237
  v175:=Tryz.zeroValue237
  t210:=Tryz.underlying241
  a210:=Tryz.isAgg241
  z210:=Tryz.sizeOf241
  v210:=Tryz.zeroValue241
  t212:=Tryz.underlying244
  a212:=Tryz.isAgg244
  z212:=Tryz.sizeOf244
  v212:=Tryz.zeroValue244
  t213:=Tryz.underlying245
  a213:=Tryz.isAgg245
  z213:=Tryz.sizeOf245
  t232:=Tryz.underlying250
  a232:=Tryz.isAgg250
  z232:=Tryz.sizeOf250
  v232:=Tryz.zeroValue250
  t233:=Tryz.underlying251
  a233:=Tryz.isAgg251
  z233:=Tryz.sizeOf251
  v233:=Tryz.zeroValue251
  g15:=by kernel_rfl
  g16:=by kernel_rfl
  g17:=by kernel_rfl
  g18:=by kernel_rfl
  g19:=by kernel_rfl
  t80:=Tryz.underlying151
  a80:=Tryz.isAgg151
  z80:=Tryz.sizeOf151
  v80:=Tryz.zeroValue151
  i0:=by kernel_rfl
  i2:=by kernel_rfl
  i3:=by kernel_rfl
  i4:=by kernel_rfl
  i5:=by kernel_rfl
  i9:=by kernel_rfl
  i20:=by kernel_rfl
  i21:=by kernel_rfl
  i37:=by kernel_rfl
  i46:=by kernel_rfl
  i51:=by kernel_rfl
  i53:=by kernel_rfl
  i75:=by kernel_rfl
  i76:=by kernel_rfl
  i80:=by kernel_rfl
  i85:=by kernel_rfl
  i127:=by kernel_rfl
  i143:=by kernel_rfl
  i145:=by kernel_rfl
  i167:=by kernel_rfl
  i168:=by kernel_rfl
  i171:=by kernel_rfl
  i173:=by kernel_rfl
  i175:=by kernel_rfl
  i210:=by kernel_rfl
  i212:=by kernel_rfl
  i232:=by kernel_rfl
  i233:=by kernel_rfl
  m15:=by kernel_rfl
  m16:=by kernel_rfl
  m17:=by kernel_rfl
  m18:=by kernel_rfl
  m19:=by kernel_rfl
  c0:=by kernel_rfl
  c2:=by kernel_rfl
  c3:=by kernel_rfl
  c4:=by kernel_rfl
  c5:=by kernel_rfl
  c9:=by kernel_rfl
  c20:=by kernel_rfl
  c21:=by kernel_rfl
  c37:=by kernel_rfl
  c46:=by kernel_rfl
  c51:=by kernel_rfl
  c53:=by kernel_rfl
  c75:=by kernel_rfl
  c76:=by kernel_rfl
  c80:=by kernel_rfl
  c85:=by kernel_rfl
  c127:=by kernel_rfl
  c143:=by kernel_rfl
  c145:=by kernel_rfl
  c167:=by kernel_rfl
  c168:=by kernel_rfl
  c171:=by kernel_rfl
  c173:=by kernel_rfl
  c175:=by kernel_rfl
  c210:=by kernel_rfl
  c212:=by kernel_rfl
  c213:=by kernel_rfl
  c232:=by kernel_rfl
  c233:=by kernel_rfl
def ash:Ren where
  f:=fun x=>match x with|143=>129|219=>130|217=>158|225=>159|224=>160|267=>161|266=>181|314=>182|n=>n
  t:=fun x=>match x with|9=>9|3=>3|4=>4|5=>5|46=>130|146=>184|51=>181|n=>n
  g:=fun x=>match x with|1=>0|n=>n
theorem asg:Lays.n143 Tryz.prog ash where
  mixed:=by kernel_rfl
  f143:=Eq.trans Tryz.func129 (by kernel_rfl)
  f217:=Eq.trans Tryz.func158 (by kernel_rfl)
  f219:=Eq.trans Tryz.func130 (by kernel_rfl)
  f224:=Eq.trans Tryz.func160 (by kernel_rfl)
  f225:=Eq.trans Tryz.func159 (by kernel_rfl)
  f266:=Eq.trans Tryz.func181 (by kernel_rfl)
  f267:=Eq.trans Tryz.func161 (by kernel_rfl)
  f314:=Eq.trans Tryz.func182 (by kernel_rfl)
  t3:=Tryz.underlying3
  a3:=Tryz.isAgg3
  z3:=Tryz.sizeOf3
  v3:=Tryz.zeroValue3
  t4:=Tryz.underlying4
  a4:=Tryz.isAgg4
  z4:=Tryz.sizeOf4
  v4:=Tryz.zeroValue4
  t5:=Tryz.underlying5
  a5:=Tryz.isAgg5
  z5:=Tryz.sizeOf5
  v5:=Tryz.zeroValue5
  t9:=Tryz.underlying9
  a9:=Tryz.isAgg9
  z9:=Tryz.sizeOf9
  v9:=Tryz.zeroValue9
  t46:=Tryz.underlying130
  a46:=Tryz.isAgg130
  z46:=Tryz.sizeOf130
  v46:=Tryz.zeroValue130
  t51:=Tryz.underlying181
  a51:=Tryz.isAgg181
  z51:=Tryz.sizeOf181
  v51:=Tryz.zeroValue181
  t146:=Tryz.underlying184
  a146:=Tryz.isAgg184
  z146:=Tryz.sizeOf184
  v146:=Tryz.zeroValue184
  g1:=by kernel_rfl

abbrev KW:World→Prop:=DA Tryz.prog (aaU.g 1) (H5.g 15) (H5.g 16)
theorem alO:oz Tryz.prog 48:=⟨Tryz.f48,_,Tryz.func48,rfl,by kernel_rfl⟩
theorem alP:oz Tryz.prog 49:=⟨Tryz.f49,_,Tryz.func49,rfl,by kernel_rfl⟩
theorem alQ:oz Tryz.prog 52:=⟨Tryz.f52,_,Tryz.func52,rfl,by kernel_rfl⟩
theorem alR:oz Tryz.prog 53:=⟨Tryz.f53,_,Tryz.func53,rfl,by kernel_rfl⟩
theorem alS:oz Tryz.prog 82:=⟨Tryz.f82,_,Tryz.func82,rfl,by kernel_rfl⟩
theorem alN:oz Tryz.prog 129:=⟨Tryz.f129,_,Tryz.func129,rfl,by kernel_rfl⟩

theorem adU {p:aE→Nat→Bool} (h:(rP.zipIdx.all fun q=>match q.1 with|some a=>p a q.2|none=>true)=true) {f:FuncId} {a:aE} (e:AP f=some a):p a f=true:=by
  unfold AP at e
  have e2:rP[f]? =some (some a):=by
    cases h2:rP[f]? with
    |none=>rw[h2]at e;cases e
    | some x => rw [h2] at e; cases x with
      |none=>cases e
      |some y=>injection e with e;rw[e]
  have:=List.all_eq_true.1 h (some a,f) (List.mem_zipIdx_iff_getElem?.2 e2)
  exact this
def avP (a:aE) (i:Nat):Bool:=match a with|.lg _=>[48,49,52,53,82,129].contains i|_=>true
def atv (a:aE) (i:Nat):Bool:=match a with|.nat _=>[].contains i|_=>true
theorem avS:(rP.zipIdx.all fun q=>match q.1 with|some a=>avP a q.2|none=>true)=true:=by kernel_rfl
theorem atx:(rP.zipIdx.all fun q=>match q.1 with|some a=>atv a q.2|none=>true)=true:=by kernel_rfl

theorem avQ (f:FuncId) (F:List AV→Option AV) (h:AP f=some (.lg F)):oz Tryz.prog f∧uP Tryz.prog KW f F:=by
  have hb:[48,49,52,53,82,129].contains f=true:=adU avS h
  simp only[List.contains_cons,List.contains_nil,Bool.or_false,Bool.or_eq_true,beq_iff_eq]at hb
  rcases hb with rfl|rfl|rfl|rfl|rfl|rfl
  · have e : C6 = .lg F := Option.some.inj h
    unfold C6 at e;cases e;exact⟨alO,auV {aaT with} (fun _ h=>h.len)⟩
  · have e : C9 = .lg F := Option.some.inj h
    unfold C9 at e;cases e;exact⟨alP,au0 asi (by kernel_rfl) (fun _ h=>h.len)⟩
  · have e : zW = .lg F := Option.some.inj h
    unfold zW at e;cases e;exact⟨alQ,auX asm (fun _ h=>h.rP)⟩
  · have e : C8 = .lg F := Option.some.inj h
    unfold C8 at e;cases e;exact⟨alR,auY asl extra⟩
  · have e : zV = .lg F := Option.some.inj h
    unfold zV at e;cases e;exact⟨alS,auU aso (fun _ h=>h.e1) (fun _ h=>h.e2)⟩
  · have e : C7 = .lg F := Option.some.inj h
    unfold C7 at e;cases e;exact⟨alN,auW asg (fun _ h=>h.len)⟩

theorem atw (f:FuncId) (F:List AV→Option AV) (h:AP f=some (.nat F)):UU Tryz.prog f F:=by
  have hb:=adU atx h
  cases hb

theorem avT:tD Tryz.prog AP KW:=⟨by kernel_rfl,ahQ,avQ,atw⟩
end Go.Proofs.YthoojemlmhliaaaGreatDoor.Ak
