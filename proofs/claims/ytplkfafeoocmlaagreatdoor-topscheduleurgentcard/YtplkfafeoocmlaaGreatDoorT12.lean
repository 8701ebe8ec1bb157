/-
  What is taken from the library's shelf, said in the executor's words.
-/
import Derived.Test.YtplkfafeoocmlaaGreatDoorT6
import Derived.Test.YtplkfafeoocmlaaGreatDoorT4
import Derived.Shelf.Strings.OnBuilder
import Derived.Shelf.Strconv.Itoa3
import Derived.Test.YtplkfafeoocmlaaGreatDoorProg
import Derived.KernelRfl
import Derived.Test.YtplkfafeoocmlaaGreatDoorT11
set_option linter.unusedSimpArgs false
set_option linter.unusedVariables false
set_option maxRecDepth 100000
namespace Go.Ax.Sx.Sc
open Go.Ax Go.Proofs Go.Shelf Go.RowKit

variable{P:Program} {ρ:Ren} {K:World→Prop}

theorem afD {n:Nat} (h:n<100):fC n=Lib.decDigits n:=by
  unfold fC
  rw[Lib.decDigits]
  by_cases h1:n<10
  · rw[if_pos h1,dif_pos h1]
  · rw[if_neg h1,dif_neg h1,Lib.decDigits,dif_pos (by omega)];rfl

theorem R1 {I:gn} {x y:Value} (h:bL I (.v x) y):y=x:=by cases h;rfl

theorem ap2 {xs : Array Value} (hl : xs.size = 1) : xs = #[xs.getD 0 Go.undef] := by
  apply Array.ext
  · simp[hl]
  · intro i h1 h2
    have:i=0:=by omega
    subst this
    simp[Array.getD,hl]
theorem atO {xs : Array Value} (hl : xs.size = 2) : xs = #[xs.getD 0 Go.undef, xs.getD 1 Go.undef] := by
  apply Array.ext
  · simp[hl]
  · intro i h1 h2
    have:i=0∨i=1:=by omega
    rcases this with rfl|rfl<;>simp[Array.getD,hl]

theorem aq0 (L : Lays.n171 P ρ) : H3 P K (ρ.f 171) KU := by
  intro I w ys xs r _ hI hl hR hF
  unfold KU at hF
  split at hF
  · rename_i n
    split at hF
    · rename_i hn
      injection hF with hF
      subst hF
      have h0:=R1 (hR 0 (by simp))
      have hx : xs = #[.int .i64 (n.toNat : Int)] := by
        rw[ap2 hl,h0,show((n.toNat:Nat):Int)=n by omega]
      rw[hx]
      refine(Any.strconv_Itoa_small L n.toNat (by omega) w).mono fun e w' ⟨he,hw⟩=>?_
      subst hw
      refine⟨_,I,he,fun _ _ _ h=>h,fun _ _ _ h=>.inl h,hI,Below.refl _ _,.inl ?_⟩
      rw[afD (by omega)]
      exact .v rfl
    · cases hF
  · cases hF

theorem abF:∀{rows:List (List AV)} {ls:List (List UInt8)},uq rows=some ls→∃bs:List ByteArray,rows=bs.map (fun b=>[.v (.string b)])∧ls=bs.map (·.data.toList)
  | [], ls, h => by
    simp only[uq]at h
    injection h with h
    exact⟨[],rfl,h.symm⟩
  | row :: r, ls, h => by
    unfold uq at h
    split at h
    · cases ‹_::_=[]›
    · rename_i s r' e
      injection e with e1 e2
      subst e1 e2
      obtain⟨Rh,h1,h2⟩:=Option.map_eq_some_iff.1 h
      obtain⟨bs,b1,b2⟩:=abF h1
      exact⟨s::bs,by rw[b1];rfl,by rw[←h2,b2];rfl⟩
    · cases h

theorem aq1 (L : Lays.n156 P ρ) (X : Builder.Extra P ρ) : H3 P K (ρ.f 156) G0 := by
  intro I w ys xs r _ hI hl hR hF
  unfold G0 at hF
  split at hF
  · rename_i o es rows sep
    obtain⟨ls,hs,hF⟩:=Option.bind_eq_some_iff.1 hF
    split at hF
    · rename_i X9
      injection hF with hF
      subst hF
      obtain⟨bs,eK,gw⟩:=abF hs
      have h1:=R1 (hR 1 (by simp))
      have h0:bL I (.slice o es rows) (xs.getD 0 Go.undef):=hR 0 (by simp)
      have hx : xs = #[xs.getD 0 Go.undef, .string sep] := by
        rw[atO hl];simp only[h1];rfl
      have Ru:∀a c,rows=[]→xs.getD 0 Go.undef=.slice a 0 c→Calls P (ρ.f 156) xs w fun e w'=>∃z I',e=.returned z∧(∀b i v,I b i=some v→I' b i=some v)∧(∀b i v,I' b i=some v→I b i=some v∨w.heap.size≤b)∧(∀b i v,I' b i=some v→w'.cell? ⟨b,i,none⟩=some v)∧
          Below w.heap.size w w'∧Ay I' (.v (.string ⟨(sep.data.toList.intercalate ls).toArray⟩)) z:=by
        intro a c jz hv
        have gd:ls=[]:=by
          rw[jz]at hs;simp only[uq]at hs;injection hs with hs;exact hs.symm
        rw[hx,hv]
        refine(Any.strings_Join_none L X a c sep w).mono fun e w' ⟨he,hw⟩=>?_
        subst hw
        refine⟨_,I,he,fun _ _ _ h=>h,fun _ _ _ h=>.inl h,hI,Below.refl _ _,.inl ?_⟩
        rw[gd]
        exact .v rfl
      generalize hv:xs.getD 0 Go.undef=v at*
      cases h0 with
      |aA=>exact Ru _ _ rfl rfl
      |empty ho=>exact Ru _ _ rfl rfl
      | slice f ho hc dY bz hIc hRc =>
        rename_i blk off cap
        by_cases aD:rows=[]
        · subst aD
          exact Ru _ _ rfl rfl
        · have dJ : rows.length = bs.length := by rw [eK]; simp
          have PG:es=1:=by
            cases tM:bs with
            |nil=>rw[tM]at eK;exact absurd eK aD
            | cons b t =>
              have h3:=dY [.v (.string b)] (by rw[eK,tM];simp)
              rw[←h3];rfl
          subst PG
          have sj:∀(j:Nat) x,bs[j]? =some x→w.cell? ⟨blk,off+j,none⟩=some (.string x):=by
            intro j x hj
            have hZ:j<rows.length:=by rw[dJ];exact(List.getElem?_eq_some_iff.1 hj).1
            have cm:rows[j]=[.v (.string x)]:=by
              have:rows[j]? =some [.v (.string x)]:=by rw[eK,List.getElem?_map,hj];rfl
              rw[List.getElem?_eq_getElem hZ]at this
              injection this
            have pk:0<rows[j].length:=by rw[cm];simp
            have hi:=hIc j hZ 0 pk
            have aI:=hRc j hZ 0 pk
            have e1:rows[j][0]=.v (.string x):=by simp only[cm];rfl
            rw[e1]at aI
            rw[R1 aI]at hi
            have:=hI _ _ _ hi
            rw[show off+j*1+0=off+j by omega]at this
            exact this
          have Pq:blk<w.heap.size:=by
            have cG:0<bs.length:=by rw[←dJ];exact List.length_pos_iff.2 aD
            exact World.block_lt_of_cell? _ _ (sj 0 _ (List.getElem?_eq_getElem cG))
          have X7:Lib.join (bs.map (·.data.toList)) sep.data.toList=sep.data.toList.intercalate ls:=by rw[gw];rfl
          have av5:ls.length=bs.length:=by rw[gw];simp
          rw[hx]
          have akq:rows.length=bs.length:=dJ
          rw[akq]at hc⊢
          refine(Any.strings_Join L X blk off cap bs sep w sj Pq (by omega) hc (by rw[X7];omega)).mono fun e w' ⟨he,hw⟩=>?_
          refine⟨_,I,he,fun _ _ _ h=>h,fun _ _ _ h=>.inl h,fun b i v h=>?_,hw,.inl ?_⟩
          · have h1 := hI b i v h
            have hb:=World.block_lt_of_cell? _ _ h1
            have hh:=hw.block b hb
            rw[←h1]
            exact Fq hh rfl
          · rw[X7];exact .v rfl
    · cases hF
  · cases hF
end Go.Ax.Sx.Sc
/- The codes that are computed with are those of the program: each one is what compFn gives; what is taken from the library is what the shelf says of it. -/
namespace Go.Proofs.YtplkfafeoocmlaaGreatDoor.SY
open Go.Ax Go.Ax.Sx Go.Ax.Sx.Sc Go.Shelf

theorem k3:aW Tryz.prog false {grow:=false,flat:=[],nat:=[],only:=[]} Tryz.f3=some uV:=by kernel_rfl
theorem k4:aW Tryz.prog false {grow:=false,flat:=[],nat:=[],only:=[]} Tryz.f4=some EP:=by kernel_rfl
theorem k5:aW Tryz.prog false {grow:=false,flat:=[],nat:=[],only:=[]} Tryz.f5=some yJ:=by kernel_rfl
theorem k6:aW Tryz.prog false {grow:=false,flat:=[],nat:=[],only:=[]} Tryz.f6=some A7:=by kernel_rfl
theorem k7:aW Tryz.prog false {grow:=false,flat:=[],nat:=[],only:=[]} Tryz.f7=some Eg:=by kernel_rfl
theorem k8:aW Tryz.prog false {grow:=false,flat:=[],nat:=[],only:=[]} Tryz.f8=some Ev:=by kernel_rfl
theorem k9:aW Tryz.prog false {grow:=false,flat:=[],nat:=[],only:=[]} Tryz.f9=some Ej:=by kernel_rfl
theorem Q0:aW Tryz.prog false {grow:=false,flat:=[],nat:=[],only:=[]} Tryz.f10=some Eh:=by kernel_rfl
theorem k11:aW Tryz.prog false {grow:=false,flat:=[],nat:=[],only:=[]} Tryz.f11=some yK:=by kernel_rfl
theorem Q5:aW Tryz.prog true {grow:=false,flat:=[],nat:=[],only:=[]} Tryz.f12=some Ef:=by kernel_rfl
theorem k13:aW Tryz.prog false {grow:=false,flat:=[],nat:=[],only:=[]} Tryz.f13=some Ba:=by kernel_rfl
theorem k14:aW Tryz.prog false {grow:=false,flat:=[],nat:=[],only:=[]} Tryz.f14=some A9:=by kernel_rfl
theorem k15:aW Tryz.prog false {grow:=false,flat:=[],nat:=[],only:=[]} Tryz.f15=some yL:=by kernel_rfl
theorem k16:aW Tryz.prog false {grow:=false,flat:=[],nat:=[],only:=[]} Tryz.f16=some D0:=by kernel_rfl
theorem k17:aW Tryz.prog false {grow:=false,flat:=[],nat:=[],only:=[]} Tryz.f17=some A6:=by kernel_rfl
theorem k18:aW Tryz.prog false {grow:=false,flat:=[],nat:=[],only:=[]} Tryz.f18=some Ei:=by kernel_rfl
theorem k19:aW Tryz.prog false {grow:=false,flat:=[],nat:=[],only:=[]} Tryz.f19=some Eb:=by kernel_rfl
theorem k20:aW Tryz.prog false {grow:=false,flat:=[],nat:=[],only:=[]} Tryz.f20=some Ea:=by kernel_rfl
theorem k21:aW Tryz.prog false {grow:=false,flat:=[],nat:=[],only:=[]} Tryz.f21=some Ex:=by kernel_rfl
theorem k22:aW Tryz.prog false {grow:=false,flat:=[],nat:=[],only:=[]} Tryz.f22=some D9:=by kernel_rfl
theorem k23:aW Tryz.prog false {grow:=false,flat:=[],nat:=[],only:=[]} Tryz.f23=some Em:=by kernel_rfl
theorem k24:aW Tryz.prog false {grow:=false,flat:=[],nat:=[],only:=[]} Tryz.f24=some El:=by kernel_rfl
theorem k25:aW Tryz.prog false {grow:=false,flat:=[],nat:=[],only:=[]} Tryz.f25=some DY:=by kernel_rfl
theorem k26:aW Tryz.prog true {grow:=false,flat:=[],nat:=[],only:=[]} Tryz.f26=some wN:=by kernel_rfl
theorem k27:aW Tryz.prog false {grow:=false,flat:=[],nat:=[],only:=[]} Tryz.f27=some Bc:=by kernel_rfl
theorem k28:aW Tryz.prog false {grow:=true,flat:=[],nat:=[],only:=[],rows:=true,boxed:=[54]} Tryz.f28=some Be:=by kernel_rfl
theorem k29:aW Tryz.prog false {grow:=false,flat:=[],nat:=[],only:=[]} Tryz.f29=some D3:=by kernel_rfl
theorem k30:aW Tryz.prog false {grow:=false,flat:=[],nat:=[],only:=[]} Tryz.f30=some Ec:=by kernel_rfl
theorem k31:aW Tryz.prog false {grow:=false,flat:=[],nat:=[],only:=[]} Tryz.f31=some ET:=by kernel_rfl
theorem k32:aW Tryz.prog false {grow:=false,flat:=[],nat:=[],only:=[]} Tryz.f32=some EB:=by kernel_rfl
theorem k33:aW Tryz.prog false {grow:=false,flat:=[],nat:=[],only:=[]} Tryz.f33=some E5:=by kernel_rfl
theorem k34:aW Tryz.prog false {grow:=false,flat:=[],nat:=[],only:=[]} Tryz.f34=some EF:=by kernel_rfl
theorem k35:aW Tryz.prog false {grow:=false,flat:=[],nat:=[],only:=[]} Tryz.f35=some EC:=by kernel_rfl
theorem k36:aW Tryz.prog false {grow:=true,flat:=[28],nat:=[],only:=[],rows:=true,watch:=[67]} Tryz.f36=some ER:=by kernel_rfl
theorem k37:aW Tryz.prog false {grow:=false,flat:=[],nat:=[],only:=[]} Tryz.f37=some E8:=by kernel_rfl
theorem k38:aW Tryz.prog false {grow:=false,flat:=[],nat:=[],only:=[]} Tryz.f38=some yM:=by kernel_rfl
theorem k39:aW Tryz.prog false {grow:=false,flat:=[],nat:=[],only:=[]} Tryz.f39=some EN:=by kernel_rfl
theorem k40:aW Tryz.prog false {grow:=false,flat:=[],nat:=[],only:=[]} Tryz.f40=some D4:=by kernel_rfl
theorem k41:aW Tryz.prog false {grow:=false,flat:=[],nat:=[],only:=[]} Tryz.f41=some EG:=by kernel_rfl
theorem k42:aW Tryz.prog false {grow:=false,flat:=[],nat:=[],only:=[]} Tryz.f42=some EA:=by kernel_rfl
theorem k43:aW Tryz.prog false {grow:=false,flat:=[],nat:=[],only:=[]} Tryz.f43=some Fh:=by kernel_rfl
theorem k44:aW Tryz.prog false {grow:=false,flat:=[],nat:=[],only:=[]} Tryz.f44=some Ep:=by kernel_rfl
theorem k45:aW Tryz.prog false {grow:=false,flat:=[],nat:=[],only:=[]} Tryz.f45=some Ek:=by kernel_rfl
theorem k46:aW Tryz.prog false {grow:=false,flat:=[],nat:=[],only:=[]} Tryz.f46=some Ee:=by kernel_rfl
theorem k47:aW Tryz.prog false {grow:=false,flat:=[],nat:=[],only:=[]} Tryz.f47=some wO:=by kernel_rfl
theorem k50:aW Tryz.prog false {grow:=false,flat:=[],nat:=[],only:=[]} Tryz.f50=some Ed:=by kernel_rfl
theorem k51:aW Tryz.prog false {grow:=false,flat:=[],nat:=[],only:=[]} Tryz.f51=some Bb:=by kernel_rfl
theorem k52:aW Tryz.prog false {grow:=false,flat:=[],nat:=[],only:=[]} Tryz.f52=some EH:=by kernel_rfl
theorem k53:aW Tryz.prog false {grow:=false,flat:=[],nat:=[],only:=[]} Tryz.f53=some Fc:=by kernel_rfl
theorem k54:aW Tryz.prog true {grow:=true,flat:=[],nat:=[],only:=[],rows:=true} Tryz.f54=some E2:=by kernel_rfl
theorem k55:aW Tryz.prog false {grow:=false,flat:=[],nat:=[],only:=[]} Tryz.f55=some D7:=by kernel_rfl
theorem k56:aW Tryz.prog false {grow:=false,flat:=[],nat:=[],only:=[]} Tryz.f56=some D5:=by kernel_rfl
theorem k57:aW Tryz.prog false {grow:=false,flat:=[],nat:=[],only:=[]} Tryz.f57=some Fg:=by kernel_rfl
theorem k58:aW Tryz.prog false {grow:=false,flat:=[],nat:=[],only:=[]} Tryz.f58=some D6:=by kernel_rfl
theorem k59:aW Tryz.prog false {grow:=false,flat:=[],nat:=[],only:=[]} Tryz.f59=some Er:=by kernel_rfl
theorem k60:aW Tryz.prog false {grow:=false,flat:=[],nat:=[],only:=[]} Tryz.f60=some E1:=by kernel_rfl
theorem k61:aW Tryz.prog false {grow:=false,flat:=[],nat:=[],only:=[]} Tryz.f61=some EO:=by kernel_rfl
theorem k62:aW Tryz.prog false {grow:=false,flat:=[],nat:=[],only:=[]} Tryz.f62=some ED:=by kernel_rfl
theorem k63:aW Tryz.prog false {grow:=false,flat:=[],nat:=[],only:=[]} Tryz.f63=some wP:=by kernel_rfl
theorem k64:aW Tryz.prog true {grow:=false,flat:=[],nat:=[],only:=[]} Tryz.f64=some E7:=by kernel_rfl
theorem k65:aW Tryz.prog false {grow:=false,flat:=[],nat:=[],only:=[]} Tryz.f65=some EI:=by kernel_rfl
theorem k66:aW Tryz.prog false {grow:=false,flat:=[],nat:=[],only:=[]} Tryz.f66=some ES:=by kernel_rfl
theorem k67:aW Tryz.prog false {grow:=false,flat:=[],nat:=[],only:=[]} Tryz.f67=some yN:=by kernel_rfl
theorem k68:aW Tryz.prog false {grow:=false,flat:=[],nat:=[],only:=[]} Tryz.f68=some E9:=by kernel_rfl
theorem k69:aW Tryz.prog false {grow:=false,flat:=[],nat:=[],only:=[]} Tryz.f69=some E6:=by kernel_rfl
theorem k70:aW Tryz.prog false {grow:=false,flat:=[],nat:=[],only:=[]} Tryz.f70=some Bd:=by kernel_rfl
theorem k71:aW Tryz.prog false {grow:=false,flat:=[],nat:=[],only:=[]} Tryz.f71=some Fo:=by kernel_rfl
theorem k72:aW Tryz.prog false {grow:=false,flat:=[],nat:=[],only:=[]} Tryz.f72=some DX:=by kernel_rfl
theorem k73:aW Tryz.prog false {grow:=false,flat:=[],nat:=[],only:=[]} Tryz.f73=some A8:=by kernel_rfl
theorem k74:aW Tryz.prog false {grow:=false,flat:=[],nat:=[],only:=[]} Tryz.f74=some Et:=by kernel_rfl
theorem k75:aW Tryz.prog false {grow:=false,flat:=[],nat:=[],only:=[]} Tryz.f75=some DZ:=by kernel_rfl
theorem k80:aW Tryz.prog false {grow:=false,flat:=[],nat:=[],only:=[]} Tryz.f80=some D2:=by kernel_rfl
theorem k81:aW Tryz.prog false {grow:=false,flat:=[],nat:=[],only:=[]} Tryz.f81=some En:=by kernel_rfl
theorem k82:aW Tryz.prog false {grow:=false,flat:=[],nat:=[],only:=[]} Tryz.f82=some Es:=by kernel_rfl
theorem k83:aW Tryz.prog false {grow:=false,flat:=[],nat:=[],only:=[]} Tryz.f83=some Ew:=by kernel_rfl
theorem k84:aW Tryz.prog false {grow:=false,flat:=[],nat:=[],only:=[]} Tryz.f84=some Fj:=by kernel_rfl
theorem k85:aW Tryz.prog false {grow:=false,flat:=[],nat:=[],only:=[]} Tryz.f85=some E3:=by kernel_rfl
theorem k86:aW Tryz.prog false {grow:=false,flat:=[],nat:=[],only:=[]} Tryz.f86=some EW:=by kernel_rfl
theorem k87:aW Tryz.prog false {grow:=false,flat:=[],nat:=[],only:=[]} Tryz.f87=some Fm:=by kernel_rfl
theorem k88:aW Tryz.prog true {grow:=false,flat:=[],nat:=[],only:=[]} Tryz.f88=some Bf:=by kernel_rfl
theorem k89:aW Tryz.prog false {grow:=false,flat:=[],nat:=[],only:=[]} Tryz.f89=some EZ:=by kernel_rfl
theorem k90:aW Tryz.prog false {grow:=false,flat:=[],nat:=[],only:=[]} Tryz.f90=some Bg:=by kernel_rfl
theorem k91:aW Tryz.prog false {grow:=false,flat:=[],nat:=[],only:=[]} Tryz.f91=some EJ:=by kernel_rfl
theorem k92:aW Tryz.prog false {grow:=false,flat:=[],nat:=[],only:=[]} Tryz.f92=some yI:=by kernel_rfl
theorem k93:aW Tryz.prog false {grow:=false,flat:=[],nat:=[],only:=[]} Tryz.f93=some EU:=by kernel_rfl
theorem k94:aW Tryz.prog false {grow:=false,flat:=[],nat:=[],only:=[]} Tryz.f94=some Eo:=by kernel_rfl
theorem k98:aW Tryz.prog false {grow:=false,flat:=[],nat:=[],only:=[]} Tryz.f98=some D1:=by kernel_rfl
theorem k99:aW Tryz.prog false {grow:=false,flat:=[],nat:=[],only:=[]} Tryz.f99=some Eu:=by kernel_rfl
theorem alq:aW Tryz.prog false {grow:=false,flat:=[],nat:=[],only:=[]} Tryz.f100=some Ey:=by kernel_rfl
theorem alr:aW Tryz.prog false {grow:=false,flat:=[],nat:=[],only:=[]} Tryz.f101=some EK:=by kernel_rfl
theorem als:aW Tryz.prog false {grow:=false,flat:=[],nat:=[],only:=[]} Tryz.f102=some E4:=by kernel_rfl
theorem alu:aW Tryz.prog false {grow:=false,flat:=[],nat:=[],only:=[]} Tryz.f103=some Fb:=by kernel_rfl
theorem alv:aW Tryz.prog false {grow:=false,flat:=[],nat:=[],only:=[]} Tryz.f104=some EX:=by kernel_rfl
theorem alw:aW Tryz.prog false {grow:=false,flat:=[],nat:=[],only:=[]} Tryz.f105=some Ff:=by kernel_rfl
theorem alx:aW Tryz.prog false {grow:=false,flat:=[],nat:=[],only:=[]} Tryz.f106=some D8:=by kernel_rfl
theorem aly:aW Tryz.prog false {grow:=false,flat:=[],nat:=[],only:=[]} Tryz.f107=some Fe:=by kernel_rfl
theorem alz:aW Tryz.prog false {grow:=false,flat:=[],nat:=[],only:=[]} Tryz.f108=some EV:=by kernel_rfl
theorem alA:aW Tryz.prog false {grow:=false,flat:=[],nat:=[],only:=[]} Tryz.f109=some EY:=by kernel_rfl
theorem alC:aW Tryz.prog false {grow:=false,flat:=[],nat:=[],only:=[]} Tryz.f116=some Fa:=by kernel_rfl
theorem alD:aW Tryz.prog false {grow:=false,flat:=[],nat:=[],only:=[]} Tryz.f117=some Ez:=by kernel_rfl
theorem alE:aW Tryz.prog false {grow:=false,flat:=[],nat:=[],only:=[]} Tryz.f118=some EE:=by kernel_rfl
theorem alF:aW Tryz.prog false {grow:=false,flat:=[],nat:=[],only:=[]} Tryz.f119=some EL:=by kernel_rfl
theorem alG:aW Tryz.prog false {grow:=false,flat:=[],nat:=[],only:=[]} Tryz.f120=some Fl:=by kernel_rfl
theorem alH:aW Tryz.prog false {grow:=false,flat:=[],nat:=[],only:=[]} Tryz.f121=some Fk:=by kernel_rfl
theorem alI:aW Tryz.prog false {grow:=false,flat:=[],nat:=[],only:=[]} Tryz.f127=some Fi:=by kernel_rfl
theorem alJ:aW Tryz.prog false {grow:=false,flat:=[],nat:=[],only:=[]} Tryz.f128=some EM:=by kernel_rfl

theorem afj (f:FuncId) (np nt:Nat) (b:aw) (rs:List iF) (own:Bool) (h:AP f=some (.code np nt b rs own)):∃fn mu,Tryz.prog.funcs[f]? =some fn∧aW Tryz.prog own mu fn=some (.code np nt b rs own):=by
  match f,h with
  |0,h=>have e:AP 0=none:=rfl;rw[e]at h;cases h
  |1,h=>have e:AP 1=none:=rfl;rw[e]at h;cases h
  |2,h=>have e:AP 2=none:=rfl;rw[e]at h;cases h
  |3,h=>have e:uV=.code np nt b rs own:=Option.some.inj h;unfold uV at e;cases e;exact⟨_,_,Tryz.func3,k3⟩
  |4,h=>have e:EP=.code np nt b rs own:=Option.some.inj h;unfold EP at e;cases e;exact⟨_,_,Tryz.func4,k4⟩
  |5,h=>have e:yJ=.code np nt b rs own:=Option.some.inj h;unfold yJ at e;cases e;exact⟨_,_,Tryz.func5,k5⟩
  |6,h=>have e:A7=.code np nt b rs own:=Option.some.inj h;unfold A7 at e;cases e;exact⟨_,_,Tryz.func6,k6⟩
  |7,h=>have e:Eg=.code np nt b rs own:=Option.some.inj h;unfold Eg at e;cases e;exact⟨_,_,Tryz.func7,k7⟩
  |8,h=>have e:Ev=.code np nt b rs own:=Option.some.inj h;unfold Ev at e;cases e;exact⟨_,_,Tryz.func8,k8⟩
  |9,h=>have e:Ej=.code np nt b rs own:=Option.some.inj h;unfold Ej at e;cases e;exact⟨_,_,Tryz.func9,k9⟩
  |10,h=>have e:Eh=.code np nt b rs own:=Option.some.inj h;unfold Eh at e;cases e;exact⟨_,_,Tryz.func10,Q0⟩
  |11,h=>have e:yK=.code np nt b rs own:=Option.some.inj h;unfold yK at e;cases e;exact⟨_,_,Tryz.func11,k11⟩
  |12,h=>have e:Ef=.code np nt b rs own:=Option.some.inj h;unfold Ef at e;cases e;exact⟨_,_,Tryz.func12,Q5⟩
  |13,h=>have e:Ba=.code np nt b rs own:=Option.some.inj h;unfold Ba at e;cases e;exact⟨_,_,Tryz.func13,k13⟩
  |14,h=>have e:A9=.code np nt b rs own:=Option.some.inj h;unfold A9 at e;cases e;exact⟨_,_,Tryz.func14,k14⟩
  |15,h=>have e:yL=.code np nt b rs own:=Option.some.inj h;unfold yL at e;cases e;exact⟨_,_,Tryz.func15,k15⟩
  |16,h=>have e:D0=.code np nt b rs own:=Option.some.inj h;unfold D0 at e;cases e;exact⟨_,_,Tryz.func16,k16⟩
  |17,h=>have e:A6=.code np nt b rs own:=Option.some.inj h;unfold A6 at e;cases e;exact⟨_,_,Tryz.func17,k17⟩
  |18,h=>have e:Ei=.code np nt b rs own:=Option.some.inj h;unfold Ei at e;cases e;exact⟨_,_,Tryz.func18,k18⟩
  |19,h=>have e:Eb=.code np nt b rs own:=Option.some.inj h;unfold Eb at e;cases e;exact⟨_,_,Tryz.func19,k19⟩
  |20,h=>have e:Ea=.code np nt b rs own:=Option.some.inj h;unfold Ea at e;cases e;exact⟨_,_,Tryz.func20,k20⟩
  |21,h=>have e:Ex=.code np nt b rs own:=Option.some.inj h;unfold Ex at e;cases e;exact⟨_,_,Tryz.func21,k21⟩
  |22,h=>have e:D9=.code np nt b rs own:=Option.some.inj h;unfold D9 at e;cases e;exact⟨_,_,Tryz.func22,k22⟩
  |23,h=>have e:Em=.code np nt b rs own:=Option.some.inj h;unfold Em at e;cases e;exact⟨_,_,Tryz.func23,k23⟩
  |24,h=>have e:El=.code np nt b rs own:=Option.some.inj h;unfold El at e;cases e;exact⟨_,_,Tryz.func24,k24⟩
  |25,h=>have e:DY=.code np nt b rs own:=Option.some.inj h;unfold DY at e;cases e;exact⟨_,_,Tryz.func25,k25⟩
  |26,h=>have e:wN=.code np nt b rs own:=Option.some.inj h;unfold wN at e;cases e;exact⟨_,_,Tryz.func26,k26⟩
  |27,h=>have e:Bc=.code np nt b rs own:=Option.some.inj h;unfold Bc at e;cases e;exact⟨_,_,Tryz.func27,k27⟩
  |28,h=>have e:Be=.code np nt b rs own:=Option.some.inj h;unfold Be at e;cases e;exact⟨_,_,Tryz.func28,k28⟩
  |29,h=>have e:D3=.code np nt b rs own:=Option.some.inj h;unfold D3 at e;cases e;exact⟨_,_,Tryz.func29,k29⟩
  |30,h=>have e:Ec=.code np nt b rs own:=Option.some.inj h;unfold Ec at e;cases e;exact⟨_,_,Tryz.func30,k30⟩
  |31,h=>have e:ET=.code np nt b rs own:=Option.some.inj h;unfold ET at e;cases e;exact⟨_,_,Tryz.func31,k31⟩
  |32,h=>have e:EB=.code np nt b rs own:=Option.some.inj h;unfold EB at e;cases e;exact⟨_,_,Tryz.func32,k32⟩
  |33,h=>have e:E5=.code np nt b rs own:=Option.some.inj h;unfold E5 at e;cases e;exact⟨_,_,Tryz.func33,k33⟩
  |34,h=>have e:EF=.code np nt b rs own:=Option.some.inj h;unfold EF at e;cases e;exact⟨_,_,Tryz.func34,k34⟩
  |35,h=>have e:EC=.code np nt b rs own:=Option.some.inj h;unfold EC at e;cases e;exact⟨_,_,Tryz.func35,k35⟩
  |36,h=>have e:ER=.code np nt b rs own:=Option.some.inj h;unfold ER at e;cases e;exact⟨_,_,Tryz.func36,k36⟩
  |37,h=>have e:E8=.code np nt b rs own:=Option.some.inj h;unfold E8 at e;cases e;exact⟨_,_,Tryz.func37,k37⟩
  |38,h=>have e:yM=.code np nt b rs own:=Option.some.inj h;unfold yM at e;cases e;exact⟨_,_,Tryz.func38,k38⟩
  |39,h=>have e:EN=.code np nt b rs own:=Option.some.inj h;unfold EN at e;cases e;exact⟨_,_,Tryz.func39,k39⟩
  |40,h=>have e:D4=.code np nt b rs own:=Option.some.inj h;unfold D4 at e;cases e;exact⟨_,_,Tryz.func40,k40⟩
  |41,h=>have e:EG=.code np nt b rs own:=Option.some.inj h;unfold EG at e;cases e;exact⟨_,_,Tryz.func41,k41⟩
  |42,h=>have e:EA=.code np nt b rs own:=Option.some.inj h;unfold EA at e;cases e;exact⟨_,_,Tryz.func42,k42⟩
  |43,h=>have e:Fh=.code np nt b rs own:=Option.some.inj h;unfold Fh at e;cases e;exact⟨_,_,Tryz.func43,k43⟩
  |44,h=>have e:Ep=.code np nt b rs own:=Option.some.inj h;unfold Ep at e;cases e;exact⟨_,_,Tryz.func44,k44⟩
  |45,h=>have e:Ek=.code np nt b rs own:=Option.some.inj h;unfold Ek at e;cases e;exact⟨_,_,Tryz.func45,k45⟩
  |46,h=>have e:Ee=.code np nt b rs own:=Option.some.inj h;unfold Ee at e;cases e;exact⟨_,_,Tryz.func46,k46⟩
  |47,h=>have e:wO=.code np nt b rs own:=Option.some.inj h;unfold wO at e;cases e;exact⟨_,_,Tryz.func47,k47⟩
  |48,h=>have e:Co=.code np nt b rs own:=Option.some.inj h;unfold Co at e;cases e
  |49,h=>have e:Cp=.code np nt b rs own:=Option.some.inj h;unfold Cp at e;cases e
  |50,h=>have e:Ed=.code np nt b rs own:=Option.some.inj h;unfold Ed at e;cases e;exact⟨_,_,Tryz.func50,k50⟩
  |51,h=>have e:Bb=.code np nt b rs own:=Option.some.inj h;unfold Bb at e;cases e;exact⟨_,_,Tryz.func51,k51⟩
  |52,h=>have e:EH=.code np nt b rs own:=Option.some.inj h;unfold EH at e;cases e;exact⟨_,_,Tryz.func52,k52⟩
  |53,h=>have e:Fc=.code np nt b rs own:=Option.some.inj h;unfold Fc at e;cases e;exact⟨_,_,Tryz.func53,k53⟩
  |54,h=>have e:E2=.code np nt b rs own:=Option.some.inj h;unfold E2 at e;cases e;exact⟨_,_,Tryz.func54,k54⟩
  |55,h=>have e:D7=.code np nt b rs own:=Option.some.inj h;unfold D7 at e;cases e;exact⟨_,_,Tryz.func55,k55⟩
  |56,h=>have e:D5=.code np nt b rs own:=Option.some.inj h;unfold D5 at e;cases e;exact⟨_,_,Tryz.func56,k56⟩
  |57,h=>have e:Fg=.code np nt b rs own:=Option.some.inj h;unfold Fg at e;cases e;exact⟨_,_,Tryz.func57,k57⟩
  |58,h=>have e:D6=.code np nt b rs own:=Option.some.inj h;unfold D6 at e;cases e;exact⟨_,_,Tryz.func58,k58⟩
  |59,h=>have e:Er=.code np nt b rs own:=Option.some.inj h;unfold Er at e;cases e;exact⟨_,_,Tryz.func59,k59⟩
  |60,h=>have e:E1=.code np nt b rs own:=Option.some.inj h;unfold E1 at e;cases e;exact⟨_,_,Tryz.func60,k60⟩
  |61,h=>have e:EO=.code np nt b rs own:=Option.some.inj h;unfold EO at e;cases e;exact⟨_,_,Tryz.func61,k61⟩
  |62,h=>have e:ED=.code np nt b rs own:=Option.some.inj h;unfold ED at e;cases e;exact⟨_,_,Tryz.func62,k62⟩
  |63,h=>have e:wP=.code np nt b rs own:=Option.some.inj h;unfold wP at e;cases e;exact⟨_,_,Tryz.func63,k63⟩
  |64,h=>have e:E7=.code np nt b rs own:=Option.some.inj h;unfold E7 at e;cases e;exact⟨_,_,Tryz.func64,k64⟩
  |65,h=>have e:EI=.code np nt b rs own:=Option.some.inj h;unfold EI at e;cases e;exact⟨_,_,Tryz.func65,k65⟩
  |66,h=>have e:ES=.code np nt b rs own:=Option.some.inj h;unfold ES at e;cases e;exact⟨_,_,Tryz.func66,k66⟩
  |67,h=>have e:yN=.code np nt b rs own:=Option.some.inj h;unfold yN at e;cases e;exact⟨_,_,Tryz.func67,k67⟩
  |68,h=>have e:E9=.code np nt b rs own:=Option.some.inj h;unfold E9 at e;cases e;exact⟨_,_,Tryz.func68,k68⟩
  |69,h=>have e:E6=.code np nt b rs own:=Option.some.inj h;unfold E6 at e;cases e;exact⟨_,_,Tryz.func69,k69⟩
  |70,h=>have e:Bd=.code np nt b rs own:=Option.some.inj h;unfold Bd at e;cases e;exact⟨_,_,Tryz.func70,k70⟩
  |71,h=>have e:Fo=.code np nt b rs own:=Option.some.inj h;unfold Fo at e;cases e;exact⟨_,_,Tryz.func71,k71⟩
  |72,h=>have e:DX=.code np nt b rs own:=Option.some.inj h;unfold DX at e;cases e;exact⟨_,_,Tryz.func72,k72⟩
  |73,h=>have e:A8=.code np nt b rs own:=Option.some.inj h;unfold A8 at e;cases e;exact⟨_,_,Tryz.func73,k73⟩
  |74,h=>have e:Et=.code np nt b rs own:=Option.some.inj h;unfold Et at e;cases e;exact⟨_,_,Tryz.func74,k74⟩
  |75,h=>have e:DZ=.code np nt b rs own:=Option.some.inj h;unfold DZ at e;cases e;exact⟨_,_,Tryz.func75,k75⟩
  |76,h=>have e:AP 76=none:=rfl;rw[e]at h;cases h
  |77,h=>have e:AP 77=none:=rfl;rw[e]at h;cases h
  |78,h=>have e:AP 78=none:=rfl;rw[e]at h;cases h
  |79,h=>have e:AP 79=none:=rfl;rw[e]at h;cases h
  |80,h=>have e:D2=.code np nt b rs own:=Option.some.inj h;unfold D2 at e;cases e;exact⟨_,_,Tryz.func80,k80⟩
  |81,h=>have e:En=.code np nt b rs own:=Option.some.inj h;unfold En at e;cases e;exact⟨_,_,Tryz.func81,k81⟩
  |82,h=>have e:Es=.code np nt b rs own:=Option.some.inj h;unfold Es at e;cases e;exact⟨_,_,Tryz.func82,k82⟩
  |83,h=>have e:Ew=.code np nt b rs own:=Option.some.inj h;unfold Ew at e;cases e;exact⟨_,_,Tryz.func83,k83⟩
  |84,h=>have e:Fj=.code np nt b rs own:=Option.some.inj h;unfold Fj at e;cases e;exact⟨_,_,Tryz.func84,k84⟩
  |85,h=>have e:E3=.code np nt b rs own:=Option.some.inj h;unfold E3 at e;cases e;exact⟨_,_,Tryz.func85,k85⟩
  |86,h=>have e:EW=.code np nt b rs own:=Option.some.inj h;unfold EW at e;cases e;exact⟨_,_,Tryz.func86,k86⟩
  |87,h=>have e:Fm=.code np nt b rs own:=Option.some.inj h;unfold Fm at e;cases e;exact⟨_,_,Tryz.func87,k87⟩
  |88,h=>have e:Bf=.code np nt b rs own:=Option.some.inj h;unfold Bf at e;cases e;exact⟨_,_,Tryz.func88,k88⟩
  |89,h=>have e:EZ=.code np nt b rs own:=Option.some.inj h;unfold EZ at e;cases e;exact⟨_,_,Tryz.func89,k89⟩
  |90,h=>have e:Bg=.code np nt b rs own:=Option.some.inj h;unfold Bg at e;cases e;exact⟨_,_,Tryz.func90,k90⟩
  |91,h=>have e:EJ=.code np nt b rs own:=Option.some.inj h;unfold EJ at e;cases e;exact⟨_,_,Tryz.func91,k91⟩
  |92,h=>have e:yI=.code np nt b rs own:=Option.some.inj h;unfold yI at e;cases e;exact⟨_,_,Tryz.func92,k92⟩
  |93,h=>have e:EU=.code np nt b rs own:=Option.some.inj h;unfold EU at e;cases e;exact⟨_,_,Tryz.func93,k93⟩
  |94,h=>have e:Eo=.code np nt b rs own:=Option.some.inj h;unfold Eo at e;cases e;exact⟨_,_,Tryz.func94,k94⟩
  |95,h=>have e:AP 95=none:=rfl;rw[e]at h;cases h
  |96,h=>have e:AP 96=none:=rfl;rw[e]at h;cases h
  |97,h=>have e:AP 97=none:=rfl;rw[e]at h;cases h
  |98,h=>have e:D1=.code np nt b rs own:=Option.some.inj h;unfold D1 at e;cases e;exact⟨_,_,Tryz.func98,k98⟩
  |99,h=>have e:Eu=.code np nt b rs own:=Option.some.inj h;unfold Eu at e;cases e;exact⟨_,_,Tryz.func99,k99⟩
  |100,h=>have e:Ey=.code np nt b rs own:=Option.some.inj h;unfold Ey at e;cases e;exact⟨_,_,Tryz.func100,alq⟩
  |101,h=>have e:EK=.code np nt b rs own:=Option.some.inj h;unfold EK at e;cases e;exact⟨_,_,Tryz.func101,alr⟩
  |102,h=>have e:E4=.code np nt b rs own:=Option.some.inj h;unfold E4 at e;cases e;exact⟨_,_,Tryz.func102,als⟩
  |103,h=>have e:Fb=.code np nt b rs own:=Option.some.inj h;unfold Fb at e;cases e;exact⟨_,_,Tryz.func103,alu⟩
  |104,h=>have e:EX=.code np nt b rs own:=Option.some.inj h;unfold EX at e;cases e;exact⟨_,_,Tryz.func104,alv⟩
  |105,h=>have e:Ff=.code np nt b rs own:=Option.some.inj h;unfold Ff at e;cases e;exact⟨_,_,Tryz.func105,alw⟩
  |106,h=>have e:D8=.code np nt b rs own:=Option.some.inj h;unfold D8 at e;cases e;exact⟨_,_,Tryz.func106,alx⟩
  |107,h=>have e:Fe=.code np nt b rs own:=Option.some.inj h;unfold Fe at e;cases e;exact⟨_,_,Tryz.func107,aly⟩
  |108,h=>have e:EV=.code np nt b rs own:=Option.some.inj h;unfold EV at e;cases e;exact⟨_,_,Tryz.func108,alz⟩
  |109,h=>have e:EY=.code np nt b rs own:=Option.some.inj h;unfold EY at e;cases e;exact⟨_,_,Tryz.func109,alA⟩
  |110,h=>have e:AP 110=none:=rfl;rw[e]at h;cases h
  |111,h=>have e:AP 111=none:=rfl;rw[e]at h;cases h
  |112,h=>have e:AP 112=none:=rfl;rw[e]at h;cases h
  |113,h=>have e:AP 113=none:=rfl;rw[e]at h;cases h
  |114,h=>have e:AP 114=none:=rfl;rw[e]at h;cases h
  |115,h=>have e:AP 115=none:=rfl;rw[e]at h;cases h
  |116,h=>have e:Fa=.code np nt b rs own:=Option.some.inj h;unfold Fa at e;cases e;exact⟨_,_,Tryz.func116,alC⟩
  |117,h=>have e:Ez=.code np nt b rs own:=Option.some.inj h;unfold Ez at e;cases e;exact⟨_,_,Tryz.func117,alD⟩
  |118,h=>have e:EE=.code np nt b rs own:=Option.some.inj h;unfold EE at e;cases e;exact⟨_,_,Tryz.func118,alE⟩
  |119,h=>have e:EL=.code np nt b rs own:=Option.some.inj h;unfold EL at e;cases e;exact⟨_,_,Tryz.func119,alF⟩
  |120,h=>have e:Fl=.code np nt b rs own:=Option.some.inj h;unfold Fl at e;cases e;exact⟨_,_,Tryz.func120,alG⟩
  |121,h=>have e:Fk=.code np nt b rs own:=Option.some.inj h;unfold Fk at e;cases e;exact⟨_,_,Tryz.func121,alH⟩
  |122,h=>have e:AP 122=none:=rfl;rw[e]at h;cases h
  |123,h=>have e:AP 123=none:=rfl;rw[e]at h;cases h
  |124,h=>have e:AP 124=none:=rfl;rw[e]at h;cases h
  |125,h=>have e:AP 125=none:=rfl;rw[e]at h;cases h
  |126,h=>have e:AP 126=none:=rfl;rw[e]at h;cases h
  |127,h=>have e:Fi=.code np nt b rs own:=Option.some.inj h;unfold Fi at e;cases e;exact⟨_,_,Tryz.func127,alI⟩
  |128,h=>have e:EM=.code np nt b rs own:=Option.some.inj h;unfold EM at e;cases e;exact⟨_,_,Tryz.func128,alJ⟩
  |m+129,h=>have e:AP (m+129)=none:=rfl;rw[e]at h;cases h

def aoA:Ren where
  f:=fun x=>match x with|171=>48|243=>76|246=>95|283=>110|284=>111|285=>112|286=>113|129=>123|317=>122|318=>124|319=>125|320=>126|337=>129|338=>130|n=>n
  t:=fun x=>match x with|3=>3|9=>9|2=>2|4=>4|171=>166|0=>0|53=>167|37=>134|5=>5|173=>170|212=>181|51=>182|20=>20|213=>183|46=>184|232=>188|233=>189|n=>n
  g:=fun x=>match x with|17=>0|18=>2|19=>3|n=>n
theorem aoz:Lays.n171 Tryz.prog aoA where
  mixed:=by kernel_rfl
  f129:=Eq.trans Tryz.func123 (by kernel_rfl)
  f171:=Eq.trans Tryz.func48 (by kernel_rfl)
  f243:=Eq.trans Tryz.func76 (by kernel_rfl)
  f246:=Eq.trans Tryz.func95 (by kernel_rfl)
  f283:=Eq.trans Tryz.func110 (by kernel_rfl)
  f284:=Eq.trans Tryz.func111 (by kernel_rfl)
  f285:=Eq.trans Tryz.func112 (by kernel_rfl)
  f286:=Eq.trans Tryz.func113 (by kernel_rfl)
  f317:=Eq.trans Tryz.func122 (by kernel_rfl)
  f318:=Eq.trans Tryz.func124 (by kernel_rfl)
  f319:=Eq.trans Tryz.func125 (by kernel_rfl)
  f320:=Eq.trans Tryz.func126 (by kernel_rfl)
  f337:=Eq.trans Tryz.func129 (by kernel_rfl)
  f338:=Eq.trans Tryz.func130 (by kernel_rfl)
  t0:=Tryz.underlying0
  a0:=Tryz.isAgg0
  z0:=Tryz.sizeOf0
  v0:=Tryz.zeroValue0
  t2:=Tryz.underlying2
  a2:=Tryz.isAgg2
  z2:=Tryz.sizeOf2
  v2:=Tryz.zeroValue2
  t3:=Tryz.underlying3
  a3:=Tryz.isAgg3
  z3:=Tryz.sizeOf3
  v3:=Tryz.zeroValue3
  t4:=Tryz.underlying4
  a4:=Tryz.isAgg4
  z4:=Tryz.sizeOf4
  v4:=Tryz.zeroValue4
  t5:=Tryz.underlying5
  a5:=Tryz.isAgg5
  z5:=Tryz.sizeOf5
  v5:=Tryz.zeroValue5
  t9:=Tryz.underlying9
  a9:=Tryz.isAgg9
  z9:=Tryz.sizeOf9
  v9:=Tryz.zeroValue9
  t20:=Tryz.underlying20
  a20:=Tryz.isAgg20
  z20:=Tryz.sizeOf20
  v20:=Tryz.zeroValue20
  t37:=Tryz.underlying134
  a37:=Tryz.isAgg134
  z37:=Tryz.sizeOf134
  v37:=Tryz.zeroValue134
  t46:=Tryz.underlying184
  a46:=Tryz.isAgg184
  z46:=Tryz.sizeOf184
  v46:=Tryz.zeroValue184
  t51:=Tryz.underlying182
  a51:=Tryz.isAgg182
  z51:=Tryz.sizeOf182
  v51:=Tryz.zeroValue182
  t53:=Tryz.underlying167
  a53:=Tryz.isAgg167
  z53:=Tryz.sizeOf167
  v53:=Tryz.zeroValue167
  t171:=Tryz.underlying166
  a171:=Tryz.isAgg166
  z171:=Tryz.sizeOf166
  v171:=Tryz.zeroValue166
  t173:=Tryz.underlying170
  a173:=Tryz.isAgg170
  z173:=Tryz.sizeOf170
  v173:=Tryz.zeroValue170
  t212:=Tryz.underlying181
  a212:=Tryz.isAgg181
  z212:=Tryz.sizeOf181
  v212:=Tryz.zeroValue181
  t213:=Tryz.underlying183
  a213:=Tryz.isAgg183
  z213:=Tryz.sizeOf183
  t232:=Tryz.underlying188
  a232:=Tryz.isAgg188
  z232:=Tryz.sizeOf188
  v232:=Tryz.zeroValue188
  t233:=Tryz.underlying189
  a233:=Tryz.isAgg189
  z233:=Tryz.sizeOf189
  v233:=Tryz.zeroValue189
  g17:=by kernel_rfl
  g18:=by kernel_rfl
  g19:=by kernel_rfl
def Zg:Ren where
  f:=fun x=>match x with|156=>49|165=>77|166=>78|169=>79|240=>96|241=>97|276=>114|277=>115|n=>n
  t:=fun x=>match x with|31=>44|9=>9|3=>3|4=>4|0=>0|20=>20|72=>136|76=>140|70=>133|37=>134|75=>139|127=>156|164=>172|5=>5|80=>142|n=>n
  g:=fun n=>n
theorem aoy:Lays.n156 Tryz.prog Zg where
  mixed:=by kernel_rfl
  f156:=Eq.trans Tryz.func49 (by kernel_rfl)
  f165:=Eq.trans Tryz.func77 (by kernel_rfl)
  f166:=Eq.trans Tryz.func78 (by kernel_rfl)
  f169:=Eq.trans Tryz.func79 (by kernel_rfl)
  f240:=Eq.trans Tryz.func96 (by kernel_rfl)
  f241:=Eq.trans Tryz.func97 (by kernel_rfl)
  f276:=Eq.trans Tryz.func114 (by kernel_rfl)
  f277:=Eq.trans Tryz.func115 (by kernel_rfl)
  t0:=Tryz.underlying0
  a0:=Tryz.isAgg0
  z0:=Tryz.sizeOf0
  v0:=Tryz.zeroValue0
  t3:=Tryz.underlying3
  a3:=Tryz.isAgg3
  z3:=Tryz.sizeOf3
  v3:=Tryz.zeroValue3
  t4:=Tryz.underlying4
  a4:=Tryz.isAgg4
  z4:=Tryz.sizeOf4
  v4:=Tryz.zeroValue4
  t9:=Tryz.underlying9
  a9:=Tryz.isAgg9
  z9:=Tryz.sizeOf9
  v9:=Tryz.zeroValue9
  t20:=Tryz.underlying20
  a20:=Tryz.isAgg20
  z20:=Tryz.sizeOf20
  v20:=Tryz.zeroValue20
  t31:=Tryz.underlying44
  a31:=Tryz.isAgg44
  z31:=Tryz.sizeOf44
  v31:=Tryz.zeroValue44
  t37:=Tryz.underlying134
  a37:=Tryz.isAgg134
  z37:=Tryz.sizeOf134
  v37:=Tryz.zeroValue134
  t70:=Tryz.underlying133
  a70:=Tryz.isAgg133
  z70:=Tryz.sizeOf133
  v70:=Tryz.zeroValue133
  t72:=Tryz.underlying136
  a72:=Tryz.isAgg136
  z72:=Tryz.sizeOf136
  v72:=Tryz.zeroValue136
  t75:=Tryz.underlying139
  a75:=Tryz.isAgg139
  z75:=Tryz.sizeOf139
  v75:=Tryz.zeroValue139
  t76:=Tryz.underlying140
  a76:=Tryz.isAgg140
  z76:=Tryz.sizeOf140
  v76:=Tryz.zeroValue140
  t127:=Tryz.underlying156
  a127:=Tryz.isAgg156
  z127:=Tryz.sizeOf156
  v127:=Tryz.zeroValue156
  t164:=Tryz.underlying172
  a164:=Tryz.isAgg172
  z164:=Tryz.sizeOf172
  v164:=Tryz.zeroValue172
theorem extra:Builder.Extra Tryz.prog Zg where
  sizeBuilder:=by kernel_rfl
  liesBuilder:=by kernel_rfl
  t5:=Tryz.underlying5
  a5:=Tryz.isAgg5
  z5:=Tryz.sizeOf5
  v5:=Tryz.zeroValue5
  infoByte:=by kernel_rfl
  cellsByte:=by kernel_rfl
  sizeByte:=by kernel_rfl
  neB5:=by decide

abbrev KW:World→Prop:=fun _=>True
theorem aiO:rP Tryz.prog 48:=⟨Tryz.f48,_,Tryz.func48,rfl,by kernel_rfl⟩
theorem aiP:rP Tryz.prog 49:=⟨Tryz.f49,_,Tryz.func49,rfl,by kernel_rfl⟩

theorem abI {p:aJ→Nat→Bool} (h:(Cz.zipIdx.all fun q=>match q.1 with|some a=>p a q.2|none=>true)=true) {f:FuncId} {a:aJ} (e:AP f=some a):p a f=true:=by
  unfold AP at e
  have e2:Cz[f]? =some (some a):=by
    cases h2:Cz[f]? with
    |none=>rw[h2]at e;cases e
    | some x => rw [h2] at e; cases x with
      |none=>cases e
      |some y=>injection e with e;rw[e]
  have:=List.all_eq_true.1 h (some a,f) (List.mem_zipIdx_iff_getElem?.2 e2)
  exact this
def arK (a:aJ) (i:Nat):Bool:=match a with|.rG _=>[48,49].contains i|_=>true
def apD (a:aJ) (i:Nat):Bool:=match a with|.nat _=>[].contains i|_=>true
theorem arN:(Cz.zipIdx.all fun q=>match q.1 with|some a=>arK a q.2|none=>true)=true:=by kernel_rfl
theorem apF:(Cz.zipIdx.all fun q=>match q.1 with|some a=>apD a q.2|none=>true)=true:=by kernel_rfl

theorem arL (f:FuncId) (F:List AV→Option AV) (h:AP f=some (.rG F)):rP Tryz.prog f∧H3 Tryz.prog KW f F:=by
  have hb:[48,49].contains f=true:=abI arN h
  simp only[List.contains_cons,List.contains_nil,Bool.or_false,Bool.or_eq_true,beq_iff_eq]at hb
  rcases hb with rfl|rfl
  · have e : Co = .rG F := Option.some.inj h
    unfold Co at e;cases e;exact⟨aiO,aq0 aoz⟩
  · have e : Cp = .rG F := Option.some.inj h
    unfold Cp at e;cases e;exact⟨aiP,aq1 aoy extra⟩

theorem apE (f:FuncId) (F:List AV→Option AV) (h:AP f=some (.nat F)):TB Tryz.prog f F:=by
  have hb:=abI apF h
  cases hb

theorem arO:tm Tryz.prog AP KW:=⟨by kernel_rfl,afj,arL,apE⟩
end Go.Proofs.YtplkfafeoocmlaaGreatDoor.SY
