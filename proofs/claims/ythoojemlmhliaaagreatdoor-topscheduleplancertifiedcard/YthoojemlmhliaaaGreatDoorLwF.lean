/-
  PROVED: TopSchedulePlanCertified returns true for every input, and leaves its arguments as they were: the tied card. Conditions: none but the statement's own.
-/
import Derived.Test.YthoojemlmhliaaaGreatDoorT11
import Derived.Test.YthoojemlmhliaaaGreatDoorT12
import Derived.Test.YthoojemlmhliaaaGreatDoorCards
import Derived.Test.YthoojemlmhliaaaGreatDoorTie
import Derived.WalkKit
import Derived.ProofKit
import Derived.OpenShut
import Derived.JoinedCond
import Derived.LaidMore
import Derived.Stop.Joined
import Derived.Lay
set_option linter.unusedSimpArgs false
set_option linter.unusedVariables false
set_option maxRecDepth 100000
namespace Go.Proofs.YthoojemlmhliaaaGreatDoor.lawF
open Go.Ax Go.Ax.Sx Go.Ax.Sx.Sc
open Go.ChangeShapes Go.WideShapes Go.ChangeAt Go.RowKit

theorem own:ownKnob Tryz.prog.godebug=none:=by kernel_rfl
theorem laidOut:laidOutB Tryz.prog=true:=by kernel_rfl

theorem wkT:wT Tryz.prog 3 9 54 48 51 61 22 59 23 25 where
  i:=Tryz.underlying3
  s:=Tryz.underlying9
  g:=⟨_,Tryz.underlying54,rfl⟩
  gs:=Tryz.underlying48
  gc:=by kernel_rfl
  is:=Tryz.underlying51
  ic:=by kernel_rfl
  a:=⟨_,Tryz.underlying61,rfl⟩
  sa:=Tryz.underlying22
  ac:=by kernel_rfl
  r:=⟨_,Tryz.underlying59,rfl⟩
  sr:=Tryz.underlying23
  rc:=by kernel_rfl
  w:=⟨_,Tryz.underlying25,rfl⟩

theorem asf : Um Tryz.prog AP 3 6 [25, 26] := by
  intro xs s hs h
  cases h with
  | cons h1 h =>
    cases h with
    | cons h2 h =>
      cases h with
      | nil =>
        simp only[tf,Tryz.underlying25]at h1
        obtain⟨v1,rfl,h1⟩:=h1
        obtain⟨w,hw,h1a,h1b⟩:=axI wkT h1
        rw[hw]
        simp only[tf,Tryz.underlying26]at h2
        obtain⟨l2,o2,q2,nV,h2a,h2b⟩:=axD wkT Tryz.underlying26 (by kernel_rfl) h2
        injection nV with nV
        subst nV
        exact ayi hs h1a h1b h2a h2b

theorem ays:([25,26].all (nh Tryz.prog 6))=true:=by kernel_rfl
theorem ayr:∀t∈[25,26],nh Tryz.prog 6 t=true:=List.all_eq_true.1 ays
noncomputable def Tx (t:TypeId):Bool:=Tryz.prog.readableRec t&&decide (t<Tryz.prog.types.size)
theorem ayu:([25,26].all Tx)=true:=by kernel_rfl
theorem ayt (t:TypeId) (ht:t∈[25,26]):Tryz.prog.readableRec t=true∧t<Tryz.prog.types.size:=by
  have h:Tx t=true:=List.all_eq_true.1 ayu t ht
  unfold Tx at h
  exact⟨(Bool.and_eq_true_iff.1 h).1,of_decide_eq_true (Bool.and_eq_true_iff.1 h).2⟩

abbrev sV:List (String×DataW Unit):=[("math/bits.deBruijn32tab",Rows.laid_math_bits_deBruijn32tab),("math/bits.deBruijn64tab",Rows.laid_math_bits_deBruijn64tab),("internal/strconv.uint64pow10",Rows.laid_internal_strconv_uint64pow10),("unicode/utf8.acceptRanges",Rows.laid_unicode_utf8_acceptRanges),("strconv.ErrRange",Rows.laid_strconv_ErrRange),("strconv.ErrSyntax",Rows.laid_strconv_ErrSyntax),("unicode/utf8.first",Rows.laid_unicode_utf8_first)]

/-- The door's own heap meets the condition. -/
theorem abz:sV.filter (fun x=>x.2.handleName?.isSome)=[]:=by kernel_rfl
theorem aip (os : Os) (args : Array Value) : laidMetH Tryz.prog sV ((World.laidAll Tryz.prog os sV).forCall (fun _ _ => 0) ⟨#[], args, []⟩).memory := by
  unfold laidMetH
  rw[abz]
  exact laidMet_laidAll _ (by kernel_rfl) (by kernel_rfl)


/-- What the library's variables are listed as. -/
theorem ar7:Ul Tryz.prog sV (Ak.H5.g 15) (Ak.H5.g 16)where
  rP:=⟨2,5,244,183,by kernel_rfl,by kernel_rfl,by kernel_rfl,Tryz.underlying244,Tryz.underlying183,by kernel_rfl,by kernel_rfl⟩
  e1:=⟨5,142,_,_,_,show sV[5]? =some ("strconv.ErrSyntax",.iface "*errors.errorString" (.ptr (.agg [.lit (.string [105,110,118,97,108,105,100,32,115,121,110,116,97,120])])))by kernel_rfl,by kernel_rfl,by kernel_rfl,Tryz.underlying142⟩
  e2:=⟨4,142,_,_,_,show sV[4]? =some ("strconv.ErrRange",.iface "*errors.errorString" (.ptr (.agg [.lit (.string [118,97,108,117,101,32,111,117,116,32,111,102,32,114,97,110,103,101])])))by kernel_rfl,by kernel_rfl,by kernel_rfl,Tryz.underlying142⟩
theorem ar5 {W:World} (hL:laidMetH Tryz.prog sV W) (iH:W.ShapedOpen Tryz.prog):Ak.KW W:=by
  unfold laidMetH at hL
  rw[abz]at hL
  exact ar6 ar7 hL (Ak.aaT.s1_3 W iH)

theorem lifted (os:Os) (started:os.Started) (H:Type) (enc:TypeId×Value→H):
    ReturnsInHanded {} Tryz.checked os 3 .any (fun w args=>(Rows.topSchedulePlanCertifiedSpec.pre enc Tryz.prog Tryz.f3 [] false w args∧laidMetH Tryz.prog sV w)∧sizedMet enc Tryz.prog Tryz.f3 (OpenSpec.ofChange Rows.topSchedulePlanCertifiedSpec) false w args) (Rows.topSchedulePlanCertifiedSpec.post enc Tryz.prog Tryz.f3 false true false false):=by
  refine alK (C:=Tryz.checked) (X:=fun w _=>laidMetH Tryz.prog sV w) (fun _ _ _ hh h=>h.of_heap hh) own started (by kernel_rfl) Tryz.func3
    (ChangeSpec.witness_shaped (enc := enc) (C := Tryz.checked) (os := os) (X := fun w _ => laidMetH Tryz.prog sV w) false (World.laidAll Tryz.prog os sV) #[.agg #[.int .i64 0, .slice none 0 0, .slice none 0 0], .slice none 0 0] 8 (World.laidAll_os _ _ _) (World.shaped_of_ZipB (by kernel_rfl) (by kernel_rfl)) (by kernel_rfl) (by kernel_rfl) (by kernel_rfl) (aip os _)) ?_
  intro W base args ds gs before anZ hW aA3 an3 iH hL _
  have jK:∀(j:Nat) t v,Tryz.f3.params[j]? =some t→args[j]? =some v→Value.okWide Tryz.prog W .any base t v:=anZ
  have LI:=hW
  obtain⟨p,q,ij,hV,rfl,hfz,CD⟩:=hW
  have hA:DataW.TrodAll enc Tryz.prog W 0 (fun _=>true) true Tryz.f3.params.toList args.toList ds p:=ij
  have aB:∀x∈p,x.block<W.heap.size:=fun x hx=>LI.lt x (List.mem_append_left _ hx)
  have mw:(DataW.weightsEach Tryz.prog (Tryz.f3.params.toList++[]) (ds++gs)).all (· ≤reachBytes)=true:=an3
  rw[Tryz.params3]at hA jK mw
  obtain⟨rfl,rfl⟩:=trodVars_none hV
  rw[List.append_nil,List.append_nil]at mw
  have Re:=ase Ak.avT (fun w h=>(ar5 hL iH).below h) asf (f:=3) (args:=args) ayr (fun j t v h1 h2=>jK j t v (by simpa using h1) (by simpa using h2)) hA mw
  refine Re.mono fun e W' ⟨he,hb⟩=>?_
  subst he
  have hlen:=ad4 hA
  match ds,hlen,hA,LI with
  | [d0, d1], _, hA, LI =>
    refine⟨_,rfl,avG (pa:=p) (pv:=[]) LI (fun _ _ _=>trodAll_cons_mk (shut_bool Tryz.underlying4 _) trodAll_mk0) (fun sp nS=>?_) (fun _ _=>rfl) rfl hb (ok_one (by kernel_rfl) rfl (okWide_bool_mk Tryz.underlying4 _))⟩
    exact adF laidOut hb (ts:=[25,26]) ayt hA aB (fun x hx=>nS x (List.mem_append_left _ hx))

theorem over:Rows.topSchedulePlanCertifiedRow.holds Tryz.pinned (OpenSpec.ofChange Rows.topSchedulePlanCertifiedSpec):=
  OpenClaim.holds_of_wide 3 Tryz.f3 rfl rfl rfl rfl rfl rfl rfl ⟨rfl,rfl,rfl,rfl,rfl⟩ rfl rfl rfl rfl rfl (by kernel_rfl) Tryz.func3 (by kernel_rfl)
    (of_decide_eq_true (by kernel_rfl)) (by unfold Func.isWrapper;first|(rw[if_pos (by decide+kernel)];kernel_rfl)|(rw[if_neg (by decide+kernel)];exact⟨rfl,rfl⟩))
    (fun os started H enc _=>lifted os started H enc)

theorem proved : Rows.TopSchedulePlanCertifiedCardSaid :=
  Claim7.holds_tied_plain_at .later [] [.data,.data,.data,.data,.sentinel,.sentinel,.pinned] true (true, "3b7a50946b887615c2e6f95a19f33f60c5a5ab61503854700fac0aa90cf22a77") true
    over (fun _ h=>by cases h) (by kernel_rfl) (fun _ h=>by cases h) topSchedulePlanCertified_row_tie rfl ⟨rfl,rfl⟩ (by kernel_rfl) rfl
    (fun f fn hf sH=>by
      obtain rfl:f=3:=Option.some.inj ((show Tryz.prog.funcNamed "cassegrain/cassegraintop.TopSchedulePlanCertified" =some 3 by kernel_rfl).symm.trans hf) |>.symm
      obtain rfl:fn=Tryz.f3:=(Option.some.inj (Tryz.func3.symm.trans sH)).symm
      exact ⟨by kernel_rfl, fun j t ht => by
        rw[Tryz.params3]at ht
        rcases j with _|j
        · have h3 : t = 25 := by simpa using ht.symm
          subst h3
          exact(show Tryz.prog.wantsStandIn 25=false by kernel_rfl)
        ·
          rcases j with _|j
          · have h3 : t = 26 := by simpa using ht.symm
            subst h3
            exact(show Tryz.prog.wantsStandIn 26=false by kernel_rfl)
          ·
            simp at ht⟩)
    (by kernel_rfl)
end Go.Proofs.YthoojemlmhliaaaGreatDoor.lawF
