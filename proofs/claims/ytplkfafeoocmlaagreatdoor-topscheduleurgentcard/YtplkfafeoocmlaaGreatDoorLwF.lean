/-
  PROVED: TopScheduleUrgent returns true for every input, and leaves its arguments as they were: the tied card. Conditions: none but the statement's own.
-/
import Derived.Test.YtplkfafeoocmlaaGreatDoorT11
import Derived.Test.YtplkfafeoocmlaaGreatDoorT12
import Derived.Test.YtplkfafeoocmlaaGreatDoorCards
import Derived.Test.YtplkfafeoocmlaaGreatDoorTie
import Derived.WalkKit
import Derived.ProofKit
import Derived.OpenShut
import Derived.JoinedCond
import Derived.LaidMore
import Derived.Stop.Joined
set_option linter.unusedSimpArgs false
set_option linter.unusedVariables false
set_option maxRecDepth 100000
namespace Go.Proofs.YtplkfafeoocmlaaGreatDoor.lawF
open Go.Ax Go.Ax.Sx Go.Ax.Sx.Sc
open Go.ChangeShapes Go.WideShapes Go.ChangeAt Go.RowKit

theorem own:ownKnob Tryz.prog.godebug=none:=by kernel_rfl
theorem laidOut:laidOutB Tryz.prog=true:=by kernel_rfl

theorem wkT:ym Tryz.prog 3 9 51 60 41 62 22 53 23 25 where
  i:=Tryz.underlying3
  s:=Tryz.underlying9
  g:=⟨_,Tryz.underlying51,rfl⟩
  gs:=Tryz.underlying60
  gc:=by kernel_rfl
  is:=Tryz.underlying41
  ic:=by kernel_rfl
  a:=⟨_,Tryz.underlying62,rfl⟩
  sa:=Tryz.underlying22
  ac:=by kernel_rfl
  r:=⟨_,Tryz.underlying53,rfl⟩
  sr:=Tryz.underlying23
  rc:=by kernel_rfl
  w:=⟨_,Tryz.underlying25,rfl⟩

theorem aox:S4 Tryz.prog AP 3 6 [25]:=by
  intro xs s hs h
  cases h with
  | cons h1 h =>
    cases h with
    | nil =>
      simp only[ux,Tryz.underlying25]at h1
      obtain⟨v1,rfl,h1⟩:=h1
      obtain⟨w,hw,h1a,h1b⟩:=atp wkT h1
      rw[hw]
      exact atL hs h1a h1b

theorem atS:([25].all (nh Tryz.prog 6))=true:=by kernel_rfl
theorem atQ:∀t∈[25],nh Tryz.prog 6 t=true:=List.all_eq_true.1 atS
noncomputable def RY (t:TypeId):Bool:=Tryz.prog.readableRec t&&decide (t<Tryz.prog.types.size)
theorem atU:([25].all RY)=true:=by kernel_rfl
theorem atT (t:TypeId) (ht:t∈[25]):Tryz.prog.readableRec t=true∧t<Tryz.prog.types.size:=by
  have h:RY t=true:=List.all_eq_true.1 atU t ht
  unfold RY at h
  exact⟨(Bool.and_eq_true_iff.1 h).1,of_decide_eq_true (Bool.and_eq_true_iff.1 h).2⟩

abbrev KZ:List (String×DataW Unit):=[("math/bits.deBruijn32tab",Rows.laid_math_bits_deBruijn32tab),("math/bits.deBruijn64tab",Rows.laid_math_bits_deBruijn64tab),("internal/strconv.uint64pow10",Rows.laid_internal_strconv_uint64pow10)]

/-- The door's own heap meets the condition. -/
theorem afH (os : Os) (args : Array Value) : laidMetH Tryz.prog KZ ((World.doorLaid Tryz.prog 4000 os).forCall (fun _ _ => 0) ⟨#[], args, []⟩).memory :=
  laidMetH_of_parts3 (fuel:=8) (laidMet_of_run' 8 (by kernel_rfl) (by kernel_rfl)) (by kernel_rfl) (by kernel_rfl)


theorem lifted (os:Os) (started:os.Started) (H:Type) (enc:TypeId×Value→H):
    ReturnsInHanded {} Tryz.checked os 3 .any (fun w args=>(Rows.topScheduleUrgentSpec.pre enc Tryz.prog Tryz.f3 [] false w args∧laidMetH Tryz.prog KZ w)∧sizedMet enc Tryz.prog Tryz.f3 (OpenSpec.ofChange Rows.topScheduleUrgentSpec) false w args) (Rows.topScheduleUrgentSpec.post enc Tryz.prog Tryz.f3 false true false false):=by
  refine returnsInHanded_of_change_and (C:=Tryz.checked) (X:=fun w _=>laidMetH Tryz.prog KZ w) (fun _ _ _ hh h=>h.of_heap hh) own started (by kernel_rfl) Tryz.func3
    (ChangeSpec.witness_shaped (enc := enc) (C := Tryz.checked) (os := os) (X := fun w _ => laidMetH Tryz.prog KZ w) false (World.doorLaid Tryz.prog 4000 os) #[.agg #[.int .i64 0, .slice none 0 0, .slice none 0 0]] 8 rfl (World.shaped_of_RefB (by kernel_rfl) (by kernel_rfl)) (by kernel_rfl) (by kernel_rfl) (by kernel_rfl) (afH os _)) ?_
  intro W base args ds gs before akI hW avW akM hL _
  have kY:∀(j:Nat) t v,Tryz.f3.params[j]? =some t→args[j]? =some v→Value.okWide Tryz.prog W .any base t v:=akI
  have Kc:=hW
  obtain⟨p,q,iq,hV,rfl,XX,BX⟩:=hW
  have hA:DataW.TrodAll enc Tryz.prog W 0 (fun _=>true) true Tryz.f3.params.toList args.toList ds p:=iq
  have aC:∀x∈p,x.block<W.heap.size:=fun x hx=>Kc.lt x (List.mem_append_left _ hx)
  have mw:(DataW.weightsEach Tryz.prog (Tryz.f3.params.toList++[]) (ds++gs)).all (· ≤reachBytes)=true:=akM
  rw[Tryz.params3]at hA kY mw
  obtain⟨rfl,rfl⟩:=trodVars_none hV
  rw[List.append_nil,List.append_nil]at mw
  have Pu:=aow SY.arO (fun _ _=>trivial) aox (f:=3) (args:=args) atQ (fun j t v h1 h2=>kY j t v (by simpa using h1) (by simpa using h2)) hA mw
  refine Pu.mono fun e W' ⟨he,hb⟩=>?_
  subst he
  have hlen:=abS hA
  match ds,hlen,hA,Kc with
  | [d0], _, hA, Kc =>
    refine⟨_,rfl,arF (pa:=p) (pv:=[]) Kc (fun _ _ _=>trodAll_cons_mk (shut_bool Tryz.underlying4 _) trodAll_mk0) (fun sp rm=>?_) (fun _ _=>rfl) rfl hb (ok_one (by kernel_rfl) rfl (okWide_bool_mk Tryz.underlying4 _))⟩
    exact abD laidOut hb (ts:=[25]) atT hA aC (fun x hx=>rm x (List.mem_append_left _ hx))

theorem over:Rows.topScheduleUrgentRow.holds Tryz.pinned (OpenSpec.ofChange Rows.topScheduleUrgentSpec):=
  OpenClaim.holds_of_wide 3 Tryz.f3 rfl rfl rfl rfl rfl rfl rfl ⟨rfl,rfl,rfl,rfl,rfl⟩ rfl rfl rfl rfl rfl (by kernel_rfl) Tryz.func3 (by kernel_rfl)
    (of_decide_eq_true (by kernel_rfl)) (by unfold Func.isWrapper;first|(rw[if_pos (by decide+kernel)];kernel_rfl)|(rw[if_neg (by decide+kernel)];exact⟨rfl,rfl⟩))
    (fun os started H enc _=>lifted os started H enc)

theorem proved : Rows.TopScheduleUrgentCardSaid :=
  Claim7.holds_tied_plain_at .later [] [.data,.data,.data] true (true, "b3f6317784a0491c7a4d5864b1bf168c78b380435f1e10115426e7a2cadd760f") false
    over (fun _ h=>by cases h) (by kernel_rfl) (fun _ h=>by cases h) topScheduleUrgent_row_tie rfl ⟨rfl,rfl⟩ (by kernel_rfl) rfl
    (fun f fn hf vl=>by
      obtain rfl:f=3:=Option.some.inj ((show Tryz.prog.funcNamed "cassegrain/cassegraintop.TopScheduleUrgent" =some 3 by kernel_rfl).symm.trans hf) |>.symm
      obtain rfl:fn=Tryz.f3:=(Option.some.inj (Tryz.func3.symm.trans vl)).symm
      exact⟨by kernel_rfl,fun j t ht=>by
        rw[Tryz.params3]at ht
        rcases j with _|j
        · have h3 : t = 25 := by simpa using ht.symm
          subst h3
          exact(show Tryz.prog.wantsStandIn 25=false by kernel_rfl)
        ·
          simp at ht⟩)
    (by kernel_rfl)
end Go.Proofs.YtplkfafeoocmlaaGreatDoor.lawF
