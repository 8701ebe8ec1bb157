/-
  What is taken from the library's shelf, said in the executor's words.
-/
import Derived.Test.YtjgbdhjcpcmajaaGreatDoorT6
import Derived.Test.YtjgbdhjcpcmajaaGreatDoorT4
import Derived.Shelf.Strings.OnBuilder
import Derived.Shelf.Strconv.Itoa3
import Derived.Test.YtjgbdhjcpcmajaaGreatDoorProg
import Derived.KernelRfl
import Derived.Test.YtjgbdhjcpcmajaaGreatDoorT11
set_option linter.unusedSimpArgs false
set_option linter.unusedVariables false
set_option maxRecDepth 100000
namespace Go.Ax.Sx.Sc
open Go.Ax Go.Proofs Go.Shelf Go.RowKit

variable{P:Program} {ρ:Ren} {K:World→Prop}

theorem aeS {n:Nat} (h:n<100):fi n=Lib.decDigits n:=by
  unfold fi
  rw[Lib.decDigits]
  by_cases h1:n<10
  · rw[if_pos h1,dif_pos h1]
  · rw[if_neg h1,dif_neg h1,Lib.decDigits,dif_pos (by omega)];rfl

theorem Q0 {I:fU} {x y:Value} (h:bJ I (.v x) y):y=x:=by cases h;rfl

theorem apo {xs : Array Value} (hl : xs.size = 1) : xs = #[xs.getD 0 Go.undef] := by
  apply Array.ext
  · simp[hl]
  · intro i h1 h2
    have:i=0:=by omega
    subst this
    simp[Array.getD,hl]
theorem ata {xs : Array Value} (hl : xs.size = 2) : xs = #[xs.getD 0 Go.undef, xs.getD 1 Go.undef] := by
  apply Array.ext
  · simp[hl]
  · intro i h1 h2
    have:i=0∨i=1:=by omega
    rcases this with rfl|rfl<;>simp[Array.getD,hl]

theorem aqm (L : Lays.n171 P ρ) : HL P K (ρ.f 171) Kw := by
  intro I w ys xs r _ hI hl hR hF
  unfold Kw at hF
  split at hF
  · rename_i n
    split at hF
    · rename_i hn
      injection hF with hF
      subst hF
      have h0:=Q0 (hR 0 (by simp))
      have hx : xs = #[.int .i64 (n.toNat : Int)] := by
        rw[apo hl,h0,show((n.toNat:Nat):Int)=n by omega]
      rw[hx]
      refine(Any.strconv_Itoa_small L n.toNat (by omega) w).mono fun e w' ⟨he,hw⟩=>?_
      subst hw
      refine⟨_,I,he,fun _ _ _ h=>h,fun _ _ _ h=>.inl h,hI,Below.refl _ _,.inl ?_⟩
      rw[aeS (by omega)]
      exact .v rfl
    · cases hF
  · cases hF

theorem aaP:∀{rows:List (List AV)} {ls:List (List UInt8)},tZ rows=some ls→∃bs:List ByteArray,rows=bs.map (fun b=>[.v (.string b)])∧ls=bs.map (·.data.toList)
  | [], ls, h => by
    simp only[tZ]at h
    injection h with h
    exact⟨[],rfl,h.symm⟩
  | row :: r, ls, h => by
    unfold tZ at h
    split at h
    · cases ‹_::_=[]›
    · rename_i s r' e
      injection e with e1 e2
      subst e1 e2
      obtain⟨Qm,h1,h2⟩:=Option.map_eq_some_iff.1 h
      obtain⟨bs,b1,b2⟩:=aaP h1
      exact⟨s::bs,by rw[b1];rfl,by rw[←h2,b2];rfl⟩
    · cases h

theorem aqn (L : Lays.n156 P ρ) (X : Builder.Extra P ρ) : HL P K (ρ.f 156) GC := by
  intro I w ys xs r _ hI hl hR hF
  unfold GC at hF
  split at hF
  · rename_i o es rows sep
    obtain⟨ls,hs,hF⟩:=Option.bind_eq_some_iff.1 hF
    split at hF
    · rename_i Xi
      injection hF with hF
      subst hF
      obtain⟨bs,gd,jA⟩:=aaP hs
      have h1:=Q0 (hR 1 (by simp))
      have h0:bJ I (.slice o es rows) (xs.getD 0 Go.undef):=hR 0 (by simp)
      have hx : xs = #[xs.getD 0 Go.undef, .string sep] := by
        rw[ata hl];simp only[h1];rfl
      have Qx:∀a c,rows=[]→xs.getD 0 Go.undef=.slice a 0 c→Calls P (ρ.f 156) xs w fun e w'=>∃z I',e=.returned z∧(∀b i v,I b i=some v→I' b i=some v)∧(∀b i v,I' b i=some v→I b i=some v∨w.heap.size≤b)∧(∀b i v,I' b i=some v→w'.cell? ⟨b,i,none⟩=some v)∧
          Below w.heap.size w w'∧zW I' (.v (.string ⟨(sep.data.toList.intercalate ls).toArray⟩)) z:=by
        intro a c jl hv
        have fP:ls=[]:=by
          rw[jl]at hs;simp only[tZ]at hs;injection hs with hs;exact hs.symm
        rw[hx,hv]
        refine(Any.strings_Join_none L X a c sep w).mono fun e w' ⟨he,hw⟩=>?_
        subst hw
        refine⟨_,I,he,fun _ _ _ h=>h,fun _ _ _ h=>.inl h,hI,Below.refl _ _,.inl ?_⟩
        rw[fP]
        exact .v rfl
      generalize hv:xs.getD 0 Go.undef=v at*
      cases h0 with
      |aA=>exact Qx _ _ rfl rfl
      |empty ho=>exact Qx _ _ rfl rfl
      | slice f ho hc dQ br hIc hRc =>
        rename_i blk off cap
        by_cases aB:rows=[]
        · subst aB
          exact Qx _ _ rfl rfl
        · have er : rows.length = bs.length := by rw [gd]; simp
          have OT:es=1:=by
            cases Bh:bs with
            |nil=>rw[Bh]at gd;exact absurd gd aB
            | cons b t =>
              have h3:=dQ [.v (.string b)] (by rw[gd,Bh];simp)
              rw[←h3];rfl
          subst OT
          have r5:∀(j:Nat) x,bs[j]? =some x→w.cell? ⟨blk,off+j,none⟩=some (.string x):=by
            intro j x hj
            have gR:j<rows.length:=by rw[er];exact(List.getElem?_eq_some_iff.1 hj).1
            have cg:rows[j]=[.v (.string x)]:=by
              have:rows[j]? =some [.v (.string x)]:=by rw[gd,List.getElem?_map,hj];rfl
              rw[List.getElem?_eq_getElem gR]at this
              injection this
            have oW:0<rows[j].length:=by rw[cg];simp
            have hi:=hIc j gR 0 oW
            have aI:=hRc j gR 0 oW
            have e1:rows[j][0]=.v (.string x):=by simp only[cg];rfl
            rw[e1]at aI
            rw[Q0 aI]at hi
            have:=hI _ _ _ hi
            rw[show off+j*1+0=off+j by omega]at this
            exact this
          have OD:blk<w.heap.size:=by
            have cw:0<bs.length:=by rw[←er];exact List.length_pos_iff.2 aB
            exact World.block_lt_of_cell? _ _ (r5 0 _ (List.getElem?_eq_getElem cw))
          have Xh:Lib.join (bs.map (·.data.toList)) sep.data.toList=sep.data.toList.intercalate ls:=by rw[jA];rfl
          have avn:ls.length=bs.length:=by rw[jA];simp
          rw[hx]
          have ajV:rows.length=bs.length:=er
          rw[ajV]at hc⊢
          refine(Any.strings_Join L X blk off cap bs sep w r5 OD (by omega) hc (by rw[Xh];omega)).mono fun e w' ⟨he,hw⟩=>?_
          refine⟨_,I,he,fun _ _ _ h=>h,fun _ _ _ h=>.inl h,fun b i v h=>?_,hw,.inl ?_⟩
          · have h1 := hI b i v h
            have hb:=World.block_lt_of_cell? _ _ h1
            have hh:=hw.block b hb
            rw[←h1]
            exact E9 hh rfl
          · rw[Xh];exact .v rfl
    · cases hF
  · cases hF
end Go.Ax.Sx.Sc
/- The codes that are computed with are those of the program: each one is what compFn gives; what is taken from the library is what the shelf says of it. -/
namespace Go.Proofs.YtjgbdhjcpcmajaaGreatDoor.RW
open Go.Ax Go.Ax.Sx Go.Ax.Sx.Sc Go.Shelf

theorem k3:aV Tryz.prog false {grow:=false,flat:=[],nat:=[],only:=[]} Tryz.f3=some nR:=by kernel_rfl
theorem k4:aV Tryz.prog false {grow:=false,flat:=[],nat:=[],only:=[]} Tryz.f4=some DT:=by kernel_rfl
theorem k5:aV Tryz.prog false {grow:=false,flat:=[],nat:=[],only:=[]} Tryz.f5=some yo:=by kernel_rfl
theorem k6:aV Tryz.prog false {grow:=false,flat:=[],nat:=[],only:=[]} Tryz.f6=some DU:=by kernel_rfl
theorem k7:aV Tryz.prog false {grow:=false,flat:=[],nat:=[],only:=[]} Tryz.f7=some Ao:=by kernel_rfl
theorem k8:aV Tryz.prog false {grow:=false,flat:=[],nat:=[],only:=[]} Tryz.f8=some D2:=by kernel_rfl
theorem k9:aV Tryz.prog false {grow:=false,flat:=[],nat:=[],only:=[]} Tryz.f9=some D4:=by kernel_rfl
theorem P9:aV Tryz.prog false {grow:=false,flat:=[],nat:=[],only:=[]} Tryz.f10=some yq:=by kernel_rfl
theorem k11:aV Tryz.prog false {grow:=false,flat:=[],nat:=[],only:=[]} Tryz.f11=some D0:=by kernel_rfl
theorem Qa:aV Tryz.prog true {grow:=false,flat:=[],nat:=[],only:=[]} Tryz.f12=some DZ:=by kernel_rfl
theorem k13:aV Tryz.prog false {grow:=false,flat:=[],nat:=[],only:=[]} Tryz.f13=some D1:=by kernel_rfl
theorem k14:aV Tryz.prog false {grow:=false,flat:=[],nat:=[],only:=[]} Tryz.f14=some An:=by kernel_rfl
theorem k15:aV Tryz.prog false {grow:=false,flat:=[],nat:=[],only:=[]} Tryz.f15=some DV:=by kernel_rfl
theorem k16:aV Tryz.prog false {grow:=false,flat:=[],nat:=[],only:=[]} Tryz.f16=some yr:=by kernel_rfl
theorem k17:aV Tryz.prog false {grow:=false,flat:=[],nat:=[],only:=[]} Tryz.f17=some Ee:=by kernel_rfl
theorem k18:aV Tryz.prog false {grow:=false,flat:=[],nat:=[],only:=[]} Tryz.f18=some DS:=by kernel_rfl
theorem k19:aV Tryz.prog false {grow:=false,flat:=[],nat:=[],only:=[]} Tryz.f19=some Eh:=by kernel_rfl
theorem k20:aV Tryz.prog false {grow:=false,flat:=[],nat:=[],only:=[]} Tryz.f20=some Eg:=by kernel_rfl
theorem k21:aV Tryz.prog false {grow:=false,flat:=[],nat:=[],only:=[]} Tryz.f21=some DJ:=by kernel_rfl
theorem k22:aV Tryz.prog false {grow:=false,flat:=[],nat:=[],only:=[]} Tryz.f22=some DR:=by kernel_rfl
theorem k23:aV Tryz.prog false {grow:=false,flat:=[],nat:=[],only:=[]} Tryz.f23=some D6:=by kernel_rfl
theorem k24:aV Tryz.prog false {grow:=false,flat:=[],nat:=[],only:=[]} Tryz.f24=some D5:=by kernel_rfl
theorem k25:aV Tryz.prog false {grow:=false,flat:=[],nat:=[],only:=[]} Tryz.f25=some DW:=by kernel_rfl
theorem k26:aV Tryz.prog false {grow:=false,flat:=[],nat:=[],only:=[]} Tryz.f26=some DK:=by kernel_rfl
theorem k27:aV Tryz.prog false {grow:=false,flat:=[],nat:=[],only:=[]} Tryz.f27=some Ar:=by kernel_rfl
theorem k28:aV Tryz.prog false {grow:=false,flat:=[],nat:=[],only:=[]} Tryz.f28=some ED:=by kernel_rfl
theorem k29:aV Tryz.prog false {grow:=false,flat:=[],nat:=[],only:=[]} Tryz.f29=some El:=by kernel_rfl
theorem k30:aV Tryz.prog false {grow:=false,flat:=[],nat:=[],only:=[]} Tryz.f30=some EO:=by kernel_rfl
theorem k31:aV Tryz.prog false {grow:=false,flat:=[],nat:=[],only:=[]} Tryz.f31=some Ep:=by kernel_rfl
theorem k32:aV Tryz.prog false {grow:=false,flat:=[],nat:=[],only:=[]} Tryz.f32=some Em:=by kernel_rfl
theorem k33:aV Tryz.prog false {grow:=true,flat:=[44],nat:=[],only:=[],rows:=true,watch:=[63]} Tryz.f33=some EB:=by kernel_rfl
theorem k34:aV Tryz.prog false {grow:=false,flat:=[],nat:=[],only:=[]} Tryz.f34=some DL:=by kernel_rfl
theorem k35:aV Tryz.prog false {grow:=false,flat:=[],nat:=[],only:=[]} Tryz.f35=some ES:=by kernel_rfl
theorem k36:aV Tryz.prog false {grow:=false,flat:=[],nat:=[],only:=[]} Tryz.f36=some yu:=by kernel_rfl
theorem k37:aV Tryz.prog false {grow:=false,flat:=[],nat:=[],only:=[]} Tryz.f37=some DG:=by kernel_rfl
theorem k38:aV Tryz.prog true {grow:=false,flat:=[],nat:=[],only:=[]} Tryz.f38=some wu:=by kernel_rfl
theorem k39:aV Tryz.prog false {grow:=false,flat:=[],nat:=[],only:=[]} Tryz.f39=some D9:=by kernel_rfl
theorem k40:aV Tryz.prog false {grow:=false,flat:=[],nat:=[],only:=[]} Tryz.f40=some wv:=by kernel_rfl
theorem k41:aV Tryz.prog false {grow:=false,flat:=[],nat:=[],only:=[]} Tryz.f41=some Er:=by kernel_rfl
theorem k42:aV Tryz.prog false {grow:=false,flat:=[],nat:=[],only:=[]} Tryz.f42=some Ek:=by kernel_rfl
theorem k43:aV Tryz.prog false {grow:=false,flat:=[],nat:=[],only:=[]} Tryz.f43=some E1:=by kernel_rfl
theorem k44:aV Tryz.prog false {grow:=true,flat:=[],nat:=[],only:=[],rows:=true,boxed:=[71]} Tryz.f44=some Au:=by kernel_rfl
theorem k45:aV Tryz.prog false {grow:=false,flat:=[],nat:=[],only:=[]} Tryz.f45=some Et:=by kernel_rfl
theorem k46:aV Tryz.prog false {grow:=false,flat:=[],nat:=[],only:=[]} Tryz.f46=some Ew:=by kernel_rfl
theorem k49:aV Tryz.prog false {grow:=false,flat:=[],nat:=[],only:=[]} Tryz.f49=some D3:=by kernel_rfl
theorem k50:aV Tryz.prog false {grow:=false,flat:=[],nat:=[],only:=[]} Tryz.f50=some DX:=by kernel_rfl
theorem k51:aV Tryz.prog false {grow:=false,flat:=[],nat:=[],only:=[]} Tryz.f51=some Ea:=by kernel_rfl
theorem k52:aV Tryz.prog false {grow:=false,flat:=[],nat:=[],only:=[]} Tryz.f52=some Aq:=by kernel_rfl
theorem k53:aV Tryz.prog false {grow:=false,flat:=[],nat:=[],only:=[]} Tryz.f53=some Es:=by kernel_rfl
theorem k54:aV Tryz.prog false {grow:=false,flat:=[],nat:=[],only:=[]} Tryz.f54=some EW:=by kernel_rfl
theorem k55:aV Tryz.prog false {grow:=false,flat:=[],nat:=[],only:=[]} Tryz.f55=some Ez:=by kernel_rfl
theorem k56:aV Tryz.prog false {grow:=false,flat:=[],nat:=[],only:=[]} Tryz.f56=some EK:=by kernel_rfl
theorem k57:aV Tryz.prog false {grow:=false,flat:=[],nat:=[],only:=[]} Tryz.f57=some EA:=by kernel_rfl
theorem k58:aV Tryz.prog false {grow:=false,flat:=[],nat:=[],only:=[]} Tryz.f58=some En:=by kernel_rfl
theorem k59:aV Tryz.prog false {grow:=false,flat:=[],nat:=[],only:=[]} Tryz.f59=some wx:=by kernel_rfl
theorem k60:aV Tryz.prog true {grow:=false,flat:=[],nat:=[],only:=[]} Tryz.f60=some ER:=by kernel_rfl
theorem k61:aV Tryz.prog false {grow:=false,flat:=[],nat:=[],only:=[]} Tryz.f61=some EC:=by kernel_rfl
theorem k62:aV Tryz.prog false {grow:=false,flat:=[],nat:=[],only:=[]} Tryz.f62=some EZ:=by kernel_rfl
theorem k63:aV Tryz.prog false {grow:=false,flat:=[],nat:=[],only:=[]} Tryz.f63=some yv:=by kernel_rfl
theorem k64:aV Tryz.prog false {grow:=false,flat:=[],nat:=[],only:=[]} Tryz.f64=some DP:=by kernel_rfl
theorem k65:aV Tryz.prog false {grow:=false,flat:=[],nat:=[],only:=[]} Tryz.f65=some DN:=by kernel_rfl
theorem k66:aV Tryz.prog false {grow:=false,flat:=[],nat:=[],only:=[]} Tryz.f66=some DM:=by kernel_rfl
theorem k67:aV Tryz.prog false {grow:=false,flat:=[],nat:=[],only:=[]} Tryz.f67=some DO:=by kernel_rfl
theorem k68:aV Tryz.prog false {grow:=false,flat:=[],nat:=[],only:=[]} Tryz.f68=some ET:=by kernel_rfl
theorem k69:aV Tryz.prog false {grow:=false,flat:=[],nat:=[],only:=[]} Tryz.f69=some DF:=by kernel_rfl
theorem k70:aV Tryz.prog false {grow:=false,flat:=[],nat:=[],only:=[]} Tryz.f70=some E7:=by kernel_rfl
theorem k71:aV Tryz.prog true {grow:=true,flat:=[],nat:=[],only:=[],rows:=true} Tryz.f71=some EL:=by kernel_rfl
theorem k72:aV Tryz.prog false {grow:=false,flat:=[],nat:=[],only:=[]} Tryz.f72=some Aw:=by kernel_rfl
theorem k73:aV Tryz.prog false {grow:=false,flat:=[],nat:=[],only:=[]} Tryz.f73=some Eu:=by kernel_rfl
theorem Qb:aV Tryz.prog false {grow:=false,flat:=[],nat:=[],only:=[]} Tryz.f78=some Ap:=by kernel_rfl
theorem k79:aV Tryz.prog false {grow:=false,flat:=[],nat:=[],only:=[]} Tryz.f79=some Ec:=by kernel_rfl
theorem k80:aV Tryz.prog false {grow:=false,flat:=[],nat:=[],only:=[]} Tryz.f80=some D7:=by kernel_rfl
theorem k81:aV Tryz.prog false {grow:=false,flat:=[],nat:=[],only:=[]} Tryz.f81=some Eb:=by kernel_rfl
theorem k82:aV Tryz.prog false {grow:=false,flat:=[],nat:=[],only:=[]} Tryz.f82=some DH:=by kernel_rfl
theorem k83:aV Tryz.prog false {grow:=false,flat:=[],nat:=[],only:=[]} Tryz.f83=some DY:=by kernel_rfl
theorem k84:aV Tryz.prog false {grow:=false,flat:=[],nat:=[],only:=[]} Tryz.f84=some Ef:=by kernel_rfl
theorem k85:aV Tryz.prog false {grow:=false,flat:=[],nat:=[],only:=[]} Tryz.f85=some E3:=by kernel_rfl
theorem k86:aV Tryz.prog false {grow:=false,flat:=[],nat:=[],only:=[]} Tryz.f86=some EJ:=by kernel_rfl
theorem k87:aV Tryz.prog false {grow:=false,flat:=[],nat:=[],only:=[]} Tryz.f87=some EG:=by kernel_rfl
theorem k88:aV Tryz.prog false {grow:=false,flat:=[],nat:=[],only:=[]} Tryz.f88=some E6:=by kernel_rfl
theorem k89:aV Tryz.prog false {grow:=false,flat:=[],nat:=[],only:=[]} Tryz.f89=some EP:=by kernel_rfl
theorem k90:aV Tryz.prog false {grow:=false,flat:=[],nat:=[],only:=[]} Tryz.f90=some As:=by kernel_rfl
theorem k91:aV Tryz.prog true {grow:=false,flat:=[],nat:=[],only:=[]} Tryz.f91=some Av:=by kernel_rfl
theorem k92:aV Tryz.prog false {grow:=false,flat:=[],nat:=[],only:=[]} Tryz.f92=some yn:=by kernel_rfl
theorem k93:aV Tryz.prog false {grow:=false,flat:=[],nat:=[],only:=[]} Tryz.f93=some EM:=by kernel_rfl
theorem k97:aV Tryz.prog false {grow:=false,flat:=[],nat:=[],only:=[]} Tryz.f97=some D8:=by kernel_rfl
theorem k98:aV Tryz.prog false {grow:=false,flat:=[],nat:=[],only:=[]} Tryz.f98=some DI:=by kernel_rfl
theorem k99:aV Tryz.prog false {grow:=false,flat:=[],nat:=[],only:=[]} Tryz.f99=some Ed:=by kernel_rfl
theorem akT:aV Tryz.prog false {grow:=false,flat:=[],nat:=[],only:=[]} Tryz.f100=some Ei:=by kernel_rfl
theorem akU:aV Tryz.prog false {grow:=false,flat:=[],nat:=[],only:=[]} Tryz.f101=some Ev:=by kernel_rfl
theorem akV:aV Tryz.prog false {grow:=false,flat:=[],nat:=[],only:=[]} Tryz.f102=some EY:=by kernel_rfl
theorem akW:aV Tryz.prog false {grow:=false,flat:=[],nat:=[],only:=[]} Tryz.f103=some EV:=by kernel_rfl
theorem akX:aV Tryz.prog false {grow:=false,flat:=[],nat:=[],only:=[]} Tryz.f104=some EH:=by kernel_rfl
theorem akY:aV Tryz.prog false {grow:=false,flat:=[],nat:=[],only:=[]} Tryz.f105=some EE:=by kernel_rfl
theorem akZ:aV Tryz.prog false {grow:=false,flat:=[],nat:=[],only:=[]} Tryz.f106=some DQ:=by kernel_rfl
theorem ak0:aV Tryz.prog false {grow:=false,flat:=[],nat:=[],only:=[]} Tryz.f107=some EN:=by kernel_rfl
theorem ak2:aV Tryz.prog false {grow:=false,flat:=[],nat:=[],only:=[]} Tryz.f114=some EU:=by kernel_rfl
theorem ak3:aV Tryz.prog false {grow:=false,flat:=[],nat:=[],only:=[]} Tryz.f115=some Ej:=by kernel_rfl
theorem ak4:aV Tryz.prog false {grow:=false,flat:=[],nat:=[],only:=[]} Tryz.f116=some Eo:=by kernel_rfl
theorem ak5:aV Tryz.prog false {grow:=false,flat:=[],nat:=[],only:=[]} Tryz.f117=some Ex:=by kernel_rfl
theorem ak6:aV Tryz.prog false {grow:=false,flat:=[],nat:=[],only:=[]} Tryz.f118=some E5:=by kernel_rfl
theorem ak7:aV Tryz.prog false {grow:=false,flat:=[],nat:=[],only:=[]} Tryz.f119=some EX:=by kernel_rfl
theorem ak8:aV Tryz.prog false {grow:=false,flat:=[],nat:=[],only:=[]} Tryz.f120=some EF:=by kernel_rfl
theorem ak9:aV Tryz.prog false {grow:=false,flat:=[],nat:=[],only:=[]} Tryz.f121=some EI:=by kernel_rfl
theorem ala:aV Tryz.prog false {grow:=false,flat:=[],nat:=[],only:=[]} Tryz.f127=some E2:=by kernel_rfl
theorem alb:aV Tryz.prog false {grow:=false,flat:=[],nat:=[],only:=[]} Tryz.f128=some Ey:=by kernel_rfl
theorem alc:aV Tryz.prog false {grow:=false,flat:=[],nat:=[],only:=[]} Tryz.f129=some E4:=by kernel_rfl

theorem aeA (f:FuncId) (np nt:Nat) (b:au) (rs:List il) (own:Bool) (h:AP f=some (.code np nt b rs own)):∃fn mu,Tryz.prog.funcs[f]? =some fn∧aV Tryz.prog own mu fn=some (.code np nt b rs own):=by
  match f,h with
  |0,h=>have e:AP 0=none:=rfl;rw[e]at h;cases h
  |1,h=>have e:AP 1=none:=rfl;rw[e]at h;cases h
  |2,h=>have e:AP 2=none:=rfl;rw[e]at h;cases h
  |3,h=>have e:nR=.code np nt b rs own:=Option.some.inj h;unfold nR at e;cases e;exact⟨_,_,Tryz.func3,k3⟩
  |4,h=>have e:DT=.code np nt b rs own:=Option.some.inj h;unfold DT at e;cases e;exact⟨_,_,Tryz.func4,k4⟩
  |5,h=>have e:yo=.code np nt b rs own:=Option.some.inj h;unfold yo at e;cases e;exact⟨_,_,Tryz.func5,k5⟩
  |6,h=>have e:DU=.code np nt b rs own:=Option.some.inj h;unfold DU at e;cases e;exact⟨_,_,Tryz.func6,k6⟩
  |7,h=>have e:Ao=.code np nt b rs own:=Option.some.inj h;unfold Ao at e;cases e;exact⟨_,_,Tryz.func7,k7⟩
  |8,h=>have e:D2=.code np nt b rs own:=Option.some.inj h;unfold D2 at e;cases e;exact⟨_,_,Tryz.func8,k8⟩
  |9,h=>have e:D4=.code np nt b rs own:=Option.some.inj h;unfold D4 at e;cases e;exact⟨_,_,Tryz.func9,k9⟩
  |10,h=>have e:yq=.code np nt b rs own:=Option.some.inj h;unfold yq at e;cases e;exact⟨_,_,Tryz.func10,P9⟩
  |11,h=>have e:D0=.code np nt b rs own:=Option.some.inj h;unfold D0 at e;cases e;exact⟨_,_,Tryz.func11,k11⟩
  |12,h=>have e:DZ=.code np nt b rs own:=Option.some.inj h;unfold DZ at e;cases e;exact⟨_,_,Tryz.func12,Qa⟩
  |13,h=>have e:D1=.code np nt b rs own:=Option.some.inj h;unfold D1 at e;cases e;exact⟨_,_,Tryz.func13,k13⟩
  |14,h=>have e:An=.code np nt b rs own:=Option.some.inj h;unfold An at e;cases e;exact⟨_,_,Tryz.func14,k14⟩
  |15,h=>have e:DV=.code np nt b rs own:=Option.some.inj h;unfold DV at e;cases e;exact⟨_,_,Tryz.func15,k15⟩
  |16,h=>have e:yr=.code np nt b rs own:=Option.some.inj h;unfold yr at e;cases e;exact⟨_,_,Tryz.func16,k16⟩
  |17,h=>have e:Ee=.code np nt b rs own:=Option.some.inj h;unfold Ee at e;cases e;exact⟨_,_,Tryz.func17,k17⟩
  |18,h=>have e:DS=.code np nt b rs own:=Option.some.inj h;unfold DS at e;cases e;exact⟨_,_,Tryz.func18,k18⟩
  |19,h=>have e:Eh=.code np nt b rs own:=Option.some.inj h;unfold Eh at e;cases e;exact⟨_,_,Tryz.func19,k19⟩
  |20,h=>have e:Eg=.code np nt b rs own:=Option.some.inj h;unfold Eg at e;cases e;exact⟨_,_,Tryz.func20,k20⟩
  |21,h=>have e:DJ=.code np nt b rs own:=Option.some.inj h;unfold DJ at e;cases e;exact⟨_,_,Tryz.func21,k21⟩
  |22,h=>have e:DR=.code np nt b rs own:=Option.some.inj h;unfold DR at e;cases e;exact⟨_,_,Tryz.func22,k22⟩
  |23,h=>have e:D6=.code np nt b rs own:=Option.some.inj h;unfold D6 at e;cases e;exact⟨_,_,Tryz.func23,k23⟩
  |24,h=>have e:D5=.code np nt b rs own:=Option.some.inj h;unfold D5 at e;cases e;exact⟨_,_,Tryz.func24,k24⟩
  |25,h=>have e:DW=.code np nt b rs own:=Option.some.inj h;unfold DW at e;cases e;exact⟨_,_,Tryz.func25,k25⟩
  |26,h=>have e:DK=.code np nt b rs own:=Option.some.inj h;unfold DK at e;cases e;exact⟨_,_,Tryz.func26,k26⟩
  |27,h=>have e:Ar=.code np nt b rs own:=Option.some.inj h;unfold Ar at e;cases e;exact⟨_,_,Tryz.func27,k27⟩
  |28,h=>have e:ED=.code np nt b rs own:=Option.some.inj h;unfold ED at e;cases e;exact⟨_,_,Tryz.func28,k28⟩
  |29,h=>have e:El=.code np nt b rs own:=Option.some.inj h;unfold El at e;cases e;exact⟨_,_,Tryz.func29,k29⟩
  |30,h=>have e:EO=.code np nt b rs own:=Option.some.inj h;unfold EO at e;cases e;exact⟨_,_,Tryz.func30,k30⟩
  |31,h=>have e:Ep=.code np nt b rs own:=Option.some.inj h;unfold Ep at e;cases e;exact⟨_,_,Tryz.func31,k31⟩
  |32,h=>have e:Em=.code np nt b rs own:=Option.some.inj h;unfold Em at e;cases e;exact⟨_,_,Tryz.func32,k32⟩
  |33,h=>have e:EB=.code np nt b rs own:=Option.some.inj h;unfold EB at e;cases e;exact⟨_,_,Tryz.func33,k33⟩
  |34,h=>have e:DL=.code np nt b rs own:=Option.some.inj h;unfold DL at e;cases e;exact⟨_,_,Tryz.func34,k34⟩
  |35,h=>have e:ES=.code np nt b rs own:=Option.some.inj h;unfold ES at e;cases e;exact⟨_,_,Tryz.func35,k35⟩
  |36,h=>have e:yu=.code np nt b rs own:=Option.some.inj h;unfold yu at e;cases e;exact⟨_,_,Tryz.func36,k36⟩
  |37,h=>have e:DG=.code np nt b rs own:=Option.some.inj h;unfold DG at e;cases e;exact⟨_,_,Tryz.func37,k37⟩
  |38,h=>have e:wu=.code np nt b rs own:=Option.some.inj h;unfold wu at e;cases e;exact⟨_,_,Tryz.func38,k38⟩
  |39,h=>have e:D9=.code np nt b rs own:=Option.some.inj h;unfold D9 at e;cases e;exact⟨_,_,Tryz.func39,k39⟩
  |40,h=>have e:wv=.code np nt b rs own:=Option.some.inj h;unfold wv at e;cases e;exact⟨_,_,Tryz.func40,k40⟩
  |41,h=>have e:Er=.code np nt b rs own:=Option.some.inj h;unfold Er at e;cases e;exact⟨_,_,Tryz.func41,k41⟩
  |42,h=>have e:Ek=.code np nt b rs own:=Option.some.inj h;unfold Ek at e;cases e;exact⟨_,_,Tryz.func42,k42⟩
  |43,h=>have e:E1=.code np nt b rs own:=Option.some.inj h;unfold E1 at e;cases e;exact⟨_,_,Tryz.func43,k43⟩
  |44,h=>have e:Au=.code np nt b rs own:=Option.some.inj h;unfold Au at e;cases e;exact⟨_,_,Tryz.func44,k44⟩
  |45,h=>have e:Et=.code np nt b rs own:=Option.some.inj h;unfold Et at e;cases e;exact⟨_,_,Tryz.func45,k45⟩
  |46,h=>have e:Ew=.code np nt b rs own:=Option.some.inj h;unfold Ew at e;cases e;exact⟨_,_,Tryz.func46,k46⟩
  |47,h=>have e:BQ=.code np nt b rs own:=Option.some.inj h;unfold BQ at e;cases e
  |48,h=>have e:BR=.code np nt b rs own:=Option.some.inj h;unfold BR at e;cases e
  |49,h=>have e:D3=.code np nt b rs own:=Option.some.inj h;unfold D3 at e;cases e;exact⟨_,_,Tryz.func49,k49⟩
  |50,h=>have e:DX=.code np nt b rs own:=Option.some.inj h;unfold DX at e;cases e;exact⟨_,_,Tryz.func50,k50⟩
  |51,h=>have e:Ea=.code np nt b rs own:=Option.some.inj h;unfold Ea at e;cases e;exact⟨_,_,Tryz.func51,k51⟩
  |52,h=>have e:Aq=.code np nt b rs own:=Option.some.inj h;unfold Aq at e;cases e;exact⟨_,_,Tryz.func52,k52⟩
  |53,h=>have e:Es=.code np nt b rs own:=Option.some.inj h;unfold Es at e;cases e;exact⟨_,_,Tryz.func53,k53⟩
  |54,h=>have e:EW=.code np nt b rs own:=Option.some.inj h;unfold EW at e;cases e;exact⟨_,_,Tryz.func54,k54⟩
  |55,h=>have e:Ez=.code np nt b rs own:=Option.some.inj h;unfold Ez at e;cases e;exact⟨_,_,Tryz.func55,k55⟩
  |56,h=>have e:EK=.code np nt b rs own:=Option.some.inj h;unfold EK at e;cases e;exact⟨_,_,Tryz.func56,k56⟩
  |57,h=>have e:EA=.code np nt b rs own:=Option.some.inj h;unfold EA at e;cases e;exact⟨_,_,Tryz.func57,k57⟩
  |58,h=>have e:En=.code np nt b rs own:=Option.some.inj h;unfold En at e;cases e;exact⟨_,_,Tryz.func58,k58⟩
  |59,h=>have e:wx=.code np nt b rs own:=Option.some.inj h;unfold wx at e;cases e;exact⟨_,_,Tryz.func59,k59⟩
  |60,h=>have e:ER=.code np nt b rs own:=Option.some.inj h;unfold ER at e;cases e;exact⟨_,_,Tryz.func60,k60⟩
  |61,h=>have e:EC=.code np nt b rs own:=Option.some.inj h;unfold EC at e;cases e;exact⟨_,_,Tryz.func61,k61⟩
  |62,h=>have e:EZ=.code np nt b rs own:=Option.some.inj h;unfold EZ at e;cases e;exact⟨_,_,Tryz.func62,k62⟩
  |63,h=>have e:yv=.code np nt b rs own:=Option.some.inj h;unfold yv at e;cases e;exact⟨_,_,Tryz.func63,k63⟩
  |64,h=>have e:DP=.code np nt b rs own:=Option.some.inj h;unfold DP at e;cases e;exact⟨_,_,Tryz.func64,k64⟩
  |65,h=>have e:DN=.code np nt b rs own:=Option.some.inj h;unfold DN at e;cases e;exact⟨_,_,Tryz.func65,k65⟩
  |66,h=>have e:DM=.code np nt b rs own:=Option.some.inj h;unfold DM at e;cases e;exact⟨_,_,Tryz.func66,k66⟩
  |67,h=>have e:DO=.code np nt b rs own:=Option.some.inj h;unfold DO at e;cases e;exact⟨_,_,Tryz.func67,k67⟩
  |68,h=>have e:ET=.code np nt b rs own:=Option.some.inj h;unfold ET at e;cases e;exact⟨_,_,Tryz.func68,k68⟩
  |69,h=>have e:DF=.code np nt b rs own:=Option.some.inj h;unfold DF at e;cases e;exact⟨_,_,Tryz.func69,k69⟩
  |70,h=>have e:E7=.code np nt b rs own:=Option.some.inj h;unfold E7 at e;cases e;exact⟨_,_,Tryz.func70,k70⟩
  |71,h=>have e:EL=.code np nt b rs own:=Option.some.inj h;unfold EL at e;cases e;exact⟨_,_,Tryz.func71,k71⟩
  |72,h=>have e:Aw=.code np nt b rs own:=Option.some.inj h;unfold Aw at e;cases e;exact⟨_,_,Tryz.func72,k72⟩
  |73,h=>have e:Eu=.code np nt b rs own:=Option.some.inj h;unfold Eu at e;cases e;exact⟨_,_,Tryz.func73,k73⟩
  |74,h=>have e:AP 74=none:=rfl;rw[e]at h;cases h
  |75,h=>have e:AP 75=none:=rfl;rw[e]at h;cases h
  |76,h=>have e:AP 76=none:=rfl;rw[e]at h;cases h
  |77,h=>have e:AP 77=none:=rfl;rw[e]at h;cases h
  |78,h=>have e:Ap=.code np nt b rs own:=Option.some.inj h;unfold Ap at e;cases e;exact⟨_,_,Tryz.func78,Qb⟩
  |79,h=>have e:Ec=.code np nt b rs own:=Option.some.inj h;unfold Ec at e;cases e;exact⟨_,_,Tryz.func79,k79⟩
  |80,h=>have e:D7=.code np nt b rs own:=Option.some.inj h;unfold D7 at e;cases e;exact⟨_,_,Tryz.func80,k80⟩
  |81,h=>have e:Eb=.code np nt b rs own:=Option.some.inj h;unfold Eb at e;cases e;exact⟨_,_,Tryz.func81,k81⟩
  |82,h=>have e:DH=.code np nt b rs own:=Option.some.inj h;unfold DH at e;cases e;exact⟨_,_,Tryz.func82,k82⟩
  |83,h=>have e:DY=.code np nt b rs own:=Option.some.inj h;unfold DY at e;cases e;exact⟨_,_,Tryz.func83,k83⟩
  |84,h=>have e:Ef=.code np nt b rs own:=Option.some.inj h;unfold Ef at e;cases e;exact⟨_,_,Tryz.func84,k84⟩
  |85,h=>have e:E3=.code np nt b rs own:=Option.some.inj h;unfold E3 at e;cases e;exact⟨_,_,Tryz.func85,k85⟩
  |86,h=>have e:EJ=.code np nt b rs own:=Option.some.inj h;unfold EJ at e;cases e;exact⟨_,_,Tryz.func86,k86⟩
  |87,h=>have e:EG=.code np nt b rs own:=Option.some.inj h;unfold EG at e;cases e;exact⟨_,_,Tryz.func87,k87⟩
  |88,h=>have e:E6=.code np nt b rs own:=Option.some.inj h;unfold E6 at e;cases e;exact⟨_,_,Tryz.func88,k88⟩
  |89,h=>have e:EP=.code np nt b rs own:=Option.some.inj h;unfold EP at e;cases e;exact⟨_,_,Tryz.func89,k89⟩
  |90,h=>have e:As=.code np nt b rs own:=Option.some.inj h;unfold As at e;cases e;exact⟨_,_,Tryz.func90,k90⟩
  |91,h=>have e:Av=.code np nt b rs own:=Option.some.inj h;unfold Av at e;cases e;exact⟨_,_,Tryz.func91,k91⟩
  |92,h=>have e:yn=.code np nt b rs own:=Option.some.inj h;unfold yn at e;cases e;exact⟨_,_,Tryz.func92,k92⟩
  |93,h=>have e:EM=.code np nt b rs own:=Option.some.inj h;unfold EM at e;cases e;exact⟨_,_,Tryz.func93,k93⟩
  |94,h=>have e:AP 94=none:=rfl;rw[e]at h;cases h
  |95,h=>have e:AP 95=none:=rfl;rw[e]at h;cases h
  |96,h=>have e:AP 96=none:=rfl;rw[e]at h;cases h
  |97,h=>have e:D8=.code np nt b rs own:=Option.some.inj h;unfold D8 at e;cases e;exact⟨_,_,Tryz.func97,k97⟩
  |98,h=>have e:DI=.code np nt b rs own:=Option.some.inj h;unfold DI at e;cases e;exact⟨_,_,Tryz.func98,k98⟩
  |99,h=>have e:Ed=.code np nt b rs own:=Option.some.inj h;unfold Ed at e;cases e;exact⟨_,_,Tryz.func99,k99⟩
  |100,h=>have e:Ei=.code np nt b rs own:=Option.some.inj h;unfold Ei at e;cases e;exact⟨_,_,Tryz.func100,akT⟩
  |101,h=>have e:Ev=.code np nt b rs own:=Option.some.inj h;unfold Ev at e;cases e;exact⟨_,_,Tryz.func101,akU⟩
  |102,h=>have e:EY=.code np nt b rs own:=Option.some.inj h;unfold EY at e;cases e;exact⟨_,_,Tryz.func102,akV⟩
  |103,h=>have e:EV=.code np nt b rs own:=Option.some.inj h;unfold EV at e;cases e;exact⟨_,_,Tryz.func103,akW⟩
  |104,h=>have e:EH=.code np nt b rs own:=Option.some.inj h;unfold EH at e;cases e;exact⟨_,_,Tryz.func104,akX⟩
  |105,h=>have e:EE=.code np nt b rs own:=Option.some.inj h;unfold EE at e;cases e;exact⟨_,_,Tryz.func105,akY⟩
  |106,h=>have e:DQ=.code np nt b rs own:=Option.some.inj h;unfold DQ at e;cases e;exact⟨_,_,Tryz.func106,akZ⟩
  |107,h=>have e:EN=.code np nt b rs own:=Option.some.inj h;unfold EN at e;cases e;exact⟨_,_,Tryz.func107,ak0⟩
  |108,h=>have e:AP 108=none:=rfl;rw[e]at h;cases h
  |109,h=>have e:AP 109=none:=rfl;rw[e]at h;cases h
  |110,h=>have e:AP 110=none:=rfl;rw[e]at h;cases h
  |111,h=>have e:AP 111=none:=rfl;rw[e]at h;cases h
  |112,h=>have e:AP 112=none:=rfl;rw[e]at h;cases h
  |113,h=>have e:AP 113=none:=rfl;rw[e]at h;cases h
  |114,h=>have e:EU=.code np nt b rs own:=Option.some.inj h;unfold EU at e;cases e;exact⟨_,_,Tryz.func114,ak2⟩
  |115,h=>have e:Ej=.code np nt b rs own:=Option.some.inj h;unfold Ej at e;cases e;exact⟨_,_,Tryz.func115,ak3⟩
  |116,h=>have e:Eo=.code np nt b rs own:=Option.some.inj h;unfold Eo at e;cases e;exact⟨_,_,Tryz.func116,ak4⟩
  |117,h=>have e:Ex=.code np nt b rs own:=Option.some.inj h;unfold Ex at e;cases e;exact⟨_,_,Tryz.func117,ak5⟩
  |118,h=>have e:E5=.code np nt b rs own:=Option.some.inj h;unfold E5 at e;cases e;exact⟨_,_,Tryz.func118,ak6⟩
  |119,h=>have e:EX=.code np nt b rs own:=Option.some.inj h;unfold EX at e;cases e;exact⟨_,_,Tryz.func119,ak7⟩
  |120,h=>have e:EF=.code np nt b rs own:=Option.some.inj h;unfold EF at e;cases e;exact⟨_,_,Tryz.func120,ak8⟩
  |121,h=>have e:EI=.code np nt b rs own:=Option.some.inj h;unfold EI at e;cases e;exact⟨_,_,Tryz.func121,ak9⟩
  |122,h=>have e:AP 122=none:=rfl;rw[e]at h;cases h
  |123,h=>have e:AP 123=none:=rfl;rw[e]at h;cases h
  |124,h=>have e:AP 124=none:=rfl;rw[e]at h;cases h
  |125,h=>have e:AP 125=none:=rfl;rw[e]at h;cases h
  |126,h=>have e:AP 126=none:=rfl;rw[e]at h;cases h
  |127,h=>have e:E2=.code np nt b rs own:=Option.some.inj h;unfold E2 at e;cases e;exact⟨_,_,Tryz.func127,ala⟩
  |128,h=>have e:Ey=.code np nt b rs own:=Option.some.inj h;unfold Ey at e;cases e;exact⟨_,_,Tryz.func128,alb⟩
  |129,h=>have e:E4=.code np nt b rs own:=Option.some.inj h;unfold E4 at e;cases e;exact⟨_,_,Tryz.func129,alc⟩
  |m+130,h=>have e:AP (m+130)=none:=rfl;rw[e]at h;cases h

def an2:Ren where
  f:=fun x=>match x with|171=>47|243=>74|246=>94|283=>108|284=>109|285=>110|286=>111|129=>123|317=>122|318=>124|319=>125|320=>126|337=>130|338=>131|n=>n
  t:=fun x=>match x with|3=>3|9=>9|2=>2|4=>4|171=>168|0=>0|53=>169|37=>132|5=>5|173=>172|212=>184|51=>185|20=>20|213=>186|46=>187|232=>192|233=>193|n=>n
  g:=fun x=>match x with|17=>0|18=>2|19=>3|n=>n
theorem an1:Lays.n171 Tryz.prog an2 where
  mixed:=by kernel_rfl
  f129:=Eq.trans Tryz.func123 (by kernel_rfl)
  f171:=Eq.trans Tryz.func47 (by kernel_rfl)
  f243:=Eq.trans Tryz.func74 (by kernel_rfl)
  f246:=Eq.trans Tryz.func94 (by kernel_rfl)
  f283:=Eq.trans Tryz.func108 (by kernel_rfl)
  f284:=Eq.trans Tryz.func109 (by kernel_rfl)
  f285:=Eq.trans Tryz.func110 (by kernel_rfl)
  f286:=Eq.trans Tryz.func111 (by kernel_rfl)
  f317:=Eq.trans Tryz.func122 (by kernel_rfl)
  f318:=Eq.trans Tryz.func124 (by kernel_rfl)
  f319:=Eq.trans Tryz.func125 (by kernel_rfl)
  f320:=Eq.trans Tryz.func126 (by kernel_rfl)
  f337:=Eq.trans Tryz.func130 (by kernel_rfl)
  f338:=Eq.trans Tryz.func131 (by kernel_rfl)
  t0:=Tryz.underlying0
  a0:=Tryz.isAgg0
  z0:=Tryz.sizeOf0
  v0:=Tryz.zeroValue0
  t2:=Tryz.underlying2
  a2:=Tryz.isAgg2
  z2:=Tryz.sizeOf2
  v2:=Tryz.zeroValue2
  t3:=Tryz.underlying3
  a3:=Tryz.isAgg3
  z3:=Tryz.sizeOf3
  v3:=Tryz.zeroValue3
  t4:=Tryz.underlying4
  a4:=Tryz.isAgg4
  z4:=Tryz.sizeOf4
  v4:=Tryz.zeroValue4
  t5:=Tryz.underlying5
  a5:=Tryz.isAgg5
  z5:=Tryz.sizeOf5
  v5:=Tryz.zeroValue5
  t9:=Tryz.underlying9
  a9:=Tryz.isAgg9
  z9:=Tryz.sizeOf9
  v9:=Tryz.zeroValue9
  t20:=Tryz.underlying20
  a20:=Tryz.isAgg20
  z20:=Tryz.sizeOf20
  v20:=Tryz.zeroValue20
  t37:=Tryz.underlying132
  a37:=Tryz.isAgg132
  z37:=Tryz.sizeOf132
  v37:=Tryz.zeroValue132
  t46:=Tryz.underlying187
  a46:=Tryz.isAgg187
  z46:=Tryz.sizeOf187
  v46:=Tryz.zeroValue187
  t51:=Tryz.underlying185
  a51:=Tryz.isAgg185
  z51:=Tryz.sizeOf185
  v51:=Tryz.zeroValue185
  t53:=Tryz.underlying169
  a53:=Tryz.isAgg169
  z53:=Tryz.sizeOf169
  v53:=Tryz.zeroValue169
  t171:=Tryz.underlying168
  a171:=Tryz.isAgg168
  z171:=Tryz.sizeOf168
  v171:=Tryz.zeroValue168
  t173:=Tryz.underlying172
  a173:=Tryz.isAgg172
  z173:=Tryz.sizeOf172
  v173:=Tryz.zeroValue172
  t212:=Tryz.underlying184
  a212:=Tryz.isAgg184
  z212:=Tryz.sizeOf184
  v212:=Tryz.zeroValue184
  t213:=Tryz.underlying186
  a213:=Tryz.isAgg186
  z213:=Tryz.sizeOf186
  t232:=Tryz.underlying192
  a232:=Tryz.isAgg192
  z232:=Tryz.sizeOf192
  v232:=Tryz.zeroValue192
  t233:=Tryz.underlying193
  a233:=Tryz.isAgg193
  z233:=Tryz.sizeOf193
  v233:=Tryz.zeroValue193
  g17:=by kernel_rfl
  g18:=by kernel_rfl
  g19:=by kernel_rfl
def Yo:Ren where
  f:=fun x=>match x with|156=>48|165=>75|166=>76|169=>77|240=>95|241=>96|276=>112|277=>113|n=>n
  t:=fun x=>match x with|31=>44|9=>9|3=>3|4=>4|0=>0|20=>20|72=>134|76=>138|70=>131|37=>132|75=>137|127=>158|164=>174|5=>5|80=>140|n=>n
  g:=fun n=>n
theorem an0:Lays.n156 Tryz.prog Yo where
  mixed:=by kernel_rfl
  f156:=Eq.trans Tryz.func48 (by kernel_rfl)
  f165:=Eq.trans Tryz.func75 (by kernel_rfl)
  f166:=Eq.trans Tryz.func76 (by kernel_rfl)
  f169:=Eq.trans Tryz.func77 (by kernel_rfl)
  f240:=Eq.trans Tryz.func95 (by kernel_rfl)
  f241:=Eq.trans Tryz.func96 (by kernel_rfl)
  f276:=Eq.trans Tryz.func112 (by kernel_rfl)
  f277:=Eq.trans Tryz.func113 (by kernel_rfl)
  t0:=Tryz.underlying0
  a0:=Tryz.isAgg0
  z0:=Tryz.sizeOf0
  v0:=Tryz.zeroValue0
  t3:=Tryz.underlying3
  a3:=Tryz.isAgg3
  z3:=Tryz.sizeOf3
  v3:=Tryz.zeroValue3
  t4:=Tryz.underlying4
  a4:=Tryz.isAgg4
  z4:=Tryz.sizeOf4
  v4:=Tryz.zeroValue4
  t9:=Tryz.underlying9
  a9:=Tryz.isAgg9
  z9:=Tryz.sizeOf9
  v9:=Tryz.zeroValue9
  t20:=Tryz.underlying20
  a20:=Tryz.isAgg20
  z20:=Tryz.sizeOf20
  v20:=Tryz.zeroValue20
  t31:=Tryz.underlying44
  a31:=Tryz.isAgg44
  z31:=Tryz.sizeOf44
  v31:=Tryz.zeroValue44
  t37:=Tryz.underlying132
  a37:=Tryz.isAgg132
  z37:=Tryz.sizeOf132
  v37:=Tryz.zeroValue132
  t70:=Tryz.underlying131
  a70:=Tryz.isAgg131
  z70:=Tryz.sizeOf131
  v70:=Tryz.zeroValue131
  t72:=Tryz.underlying134
  a72:=Tryz.isAgg134
  z72:=Tryz.sizeOf134
  v72:=Tryz.zeroValue134
  t75:=Tryz.underlying137
  a75:=Tryz.isAgg137
  z75:=Tryz.sizeOf137
  v75:=Tryz.zeroValue137
  t76:=Tryz.underlying138
  a76:=Tryz.isAgg138
  z76:=Tryz.sizeOf138
  v76:=Tryz.zeroValue138
  t127:=Tryz.underlying158
  a127:=Tryz.isAgg158
  z127:=Tryz.sizeOf158
  v127:=Tryz.zeroValue158
  t164:=Tryz.underlying174
  a164:=Tryz.isAgg174
  z164:=Tryz.sizeOf174
  v164:=Tryz.zeroValue174
theorem extra:Builder.Extra Tryz.prog Yo where
  sizeBuilder:=by kernel_rfl
  liesBuilder:=by kernel_rfl
  t5:=Tryz.underlying5
  a5:=Tryz.isAgg5
  z5:=Tryz.sizeOf5
  v5:=Tryz.zeroValue5
  infoByte:=by kernel_rfl
  cellsByte:=by kernel_rfl
  sizeByte:=by kernel_rfl
  neB5:=by decide

abbrev KW:World→Prop:=fun _=>True
theorem ah9:rr Tryz.prog 47:=⟨Tryz.f47,_,Tryz.func47,rfl,by kernel_rfl⟩
theorem aia:rr Tryz.prog 48:=⟨Tryz.f48,_,Tryz.func48,rfl,by kernel_rfl⟩

theorem aaS {p:aJ→Nat→Bool} (h:(B9.zipIdx.all fun q=>match q.1 with|some a=>p a q.2|none=>true)=true) {f:FuncId} {a:aJ} (e:AP f=some a):p a f=true:=by
  unfold AP at e
  have e2:B9[f]? =some (some a):=by
    cases h2:B9[f]? with
    |none=>rw[h2]at e;cases e
    | some x => rw [h2] at e; cases x with
      |none=>cases e
      |some y=>injection e with e;rw[e]
  have:=List.all_eq_true.1 h (some a,f) (List.mem_zipIdx_iff_getElem?.2 e2)
  exact this
def aqX (a:aJ) (i:Nat):Bool:=match a with|.re _=>[47,48].contains i|_=>true
def aoY (a:aJ) (i:Nat):Bool:=match a with|.nat _=>[].contains i|_=>true
theorem aq0:(B9.zipIdx.all fun q=>match q.1 with|some a=>aqX a q.2|none=>true)=true:=by kernel_rfl
theorem ao0:(B9.zipIdx.all fun q=>match q.1 with|some a=>aoY a q.2|none=>true)=true:=by kernel_rfl

theorem aqY (f:FuncId) (F:List AV→Option AV) (h:AP f=some (.re F)):rr Tryz.prog f∧HL Tryz.prog KW f F:=by
  have hb:[47,48].contains f=true:=aaS aq0 h
  simp only[List.contains_cons,List.contains_nil,Bool.or_false,Bool.or_eq_true,beq_iff_eq]at hb
  rcases hb with rfl|rfl
  · have e : BQ = .re F := Option.some.inj h
    unfold BQ at e;cases e;exact⟨ah9,aqm an1⟩
  · have e : BR = .re F := Option.some.inj h
    unfold BR at e;cases e;exact⟨aia,aqn an0 extra⟩

theorem aoZ (f:FuncId) (F:List AV→Option AV) (h:AP f=some (.nat F)):SG Tryz.prog f F:=by
  have hb:=aaS ao0 h
  cases hb

theorem aq1:s8 Tryz.prog AP KW:=⟨by kernel_rfl,aeA,aqY,aoZ⟩
end Go.Proofs.YtjgbdhjcpcmajaaGreatDoor.RW
