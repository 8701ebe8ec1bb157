/-
  PROVED: ScheduleIncluded returns true for every input, and leaves its arguments as they were: the tied card. Conditions: none but the statement's own.
-/
import Derived.Test.YthpnomimjpcgnaaGreatDoorT10
import Derived.Test.YthpnomimjpcgnaaGreatDoorT11
import Derived.Test.YthpnomimjpcgnaaGreatDoorCards
import Derived.Test.YthpnomimjpcgnaaGreatDoorTie
import Derived.WalkKit
import Derived.ProofKit
import Derived.OpenShut
import Derived.JoinedCond
import Derived.LaidMore
import Derived.Stop.Joined
set_option linter.unusedSimpArgs false
set_option linter.unusedVariables false
set_option maxRecDepth 100000
namespace Go.Proofs.YthpnomimjpcgnaaGreatDoor.lawF
open Go.Ax Go.Ax.Sx Go.Ax.Sx.Sc
open Go.ChangeShapes Go.WideShapes Go.ChangeAt Go.RowKit

theorem own:ownKnob Tryz.prog.godebug=none:=by kernel_rfl
theorem laidOut:laidOutB Tryz.prog=true:=by kernel_rfl

theorem wkT:xY Tryz.prog 3 9 78 73 38 75 22 80 23 25 where
  i:=Tryz.underlying3
  s:=Tryz.underlying9
  g:=⟨_,Tryz.underlying78,rfl⟩
  gs:=Tryz.underlying73
  gc:=by kernel_rfl
  is:=Tryz.underlying38
  ic:=by kernel_rfl
  a:=⟨_,Tryz.underlying75,rfl⟩
  sa:=Tryz.underlying22
  ac:=by kernel_rfl
  r:=⟨_,Tryz.underlying80,rfl⟩
  sr:=Tryz.underlying23
  rc:=by kernel_rfl
  w:=⟨_,Tryz.underlying25,rfl⟩

theorem plT:Cw Tryz.prog 3 38 54 26 where
  i:=Tryz.underlying3
  ic:=by kernel_rfl
  is:=Tryz.underlying38
  p:=⟨_,Tryz.underlying54,rfl⟩
  ps:=Tryz.underlying26
  pc:=by kernel_rfl

theorem an0 : RB Tryz.prog AP 3 6 [25, 26, 3] := by
  intro xs s hs h
  cases h with
  | cons h1 h =>
    cases h with
    | cons h2 h =>
      cases h with
      | cons h3 h =>
        cases h with
        | nil =>
          simp only[rp,Tryz.underlying25]at h1
          obtain⟨v1,rfl,h1⟩:=h1
          obtain⟨w,hw,h1a,h1b⟩:=asT wkT h1
          rw[hw]
          simp only[rp,Tryz.underlying26]at h2
          obtain⟨l,o,e,oE,h2a,h2b⟩:=Ra plT h2
          injection oE with oE
          subst oE
          simp only[rp,Tryz.underlying3]at h3
          obtain⟨n,ve,h3a⟩:=rm Tryz.underlying3 h3
          injection ve with ve
          subst ve
          exact anS hs h1a h1b h2b h2a h3a

theorem atj:([25,26,3].all (mY Tryz.prog 6))=true:=by kernel_rfl
theorem ati:∀t∈[25,26,3],mY Tryz.prog 6 t=true:=List.all_eq_true.1 atj
noncomputable def QH (t:TypeId):Bool:=Tryz.prog.readableRec t&&decide (t<Tryz.prog.types.size)
theorem atl:([25,26,3].all QH)=true:=by kernel_rfl
theorem atk (t:TypeId) (ht:t∈[25,26,3]):Tryz.prog.readableRec t=true∧t<Tryz.prog.types.size:=by
  have h:QH t=true:=List.all_eq_true.1 atl t ht
  unfold QH at h
  exact⟨(Bool.and_eq_true_iff.1 h).1,of_decide_eq_true (Bool.and_eq_true_iff.1 h).2⟩

abbrev Kw:List (String×DataW Unit):=[("math/bits.deBruijn32tab",Rows.laid_math_bits_deBruijn32tab),("math/bits.deBruijn64tab",Rows.laid_math_bits_deBruijn64tab),("internal/strconv.uint64pow10",Rows.laid_internal_strconv_uint64pow10)]

/-- The door's own heap meets the condition. -/
theorem aeO (os : Os) (args : Array Value) : laidMetH Tryz.prog Kw ((World.doorLaid Tryz.prog 4000 os).forCall (fun _ _ => 0) ⟨#[], args, []⟩).memory :=
  laidMetH_of_parts3 (fuel:=8) (laidMet_of_run' 8 (by kernel_rfl) (by kernel_rfl)) (by kernel_rfl) (by kernel_rfl)


theorem lifted (os:Os) (started:os.Started) (H:Type) (enc:TypeId×Value→H):
    ReturnsInHanded {} Tryz.checked os 3 .any (fun w args=>(Rows.scheduleIncludedSpec.pre enc Tryz.prog Tryz.f3 [] false w args∧laidMetH Tryz.prog Kw w)∧sizedMet enc Tryz.prog Tryz.f3 (OpenSpec.ofChange Rows.scheduleIncludedSpec) false w args) (Rows.scheduleIncludedSpec.post enc Tryz.prog Tryz.f3 false true false false):=by
  refine returnsInHanded_of_change_and (C:=Tryz.checked) (X:=fun w _=>laidMetH Tryz.prog Kw w) (fun _ _ _ hh h=>h.of_heap hh) own started (by kernel_rfl) Tryz.func3
    (ChangeSpec.witness_shaped (enc := enc) (C := Tryz.checked) (os := os) (X := fun w _ => laidMetH Tryz.prog Kw w) false (World.doorLaid Tryz.prog 4000 os) #[.agg #[.int .i64 0, .slice none 0 0, .slice none 0 0], .slice none 0 0, .int .i64 0] 8 rfl (World.shaped_of_RefB (by kernel_rfl) (by kernel_rfl)) (by kernel_rfl) (by kernel_rfl) (by kernel_rfl) (aeO os _)) ?_
  intro W base args ds gs before aj4 hW avl aka hL _
  have kQ:∀(j:Nat) t v,Tryz.f3.params[j]? =some t→args[j]? =some v→Value.okWide Tryz.prog W .any base t v:=aj4
  have JE:=hW
  obtain⟨p,q,gm,hV,rfl,WO,y3⟩:=hW
  have hA:DataW.TrodAll enc Tryz.prog W 0 (fun _=>true) true Tryz.f3.params.toList args.toList ds p:=gm
  have aC:∀x∈p,x.block<W.heap.size:=fun x hx=>JE.lt x (List.mem_append_left _ hx)
  have mg:(DataW.weightsEach Tryz.prog (Tryz.f3.params.toList++[]) (ds++gs)).all (· ≤reachBytes)=true:=aka
  rw[Tryz.params3]at hA kQ mg
  obtain⟨rfl,rfl⟩:=trodVars_none hV
  rw[List.append_nil,List.append_nil]at mg
  have OA:=anZ Rx.aq5 (fun _ _=>trivial) an0 (f:=3) (args:=args) ati (fun j t v h1 h2=>kQ j t v (by simpa using h1) (by simpa using h2)) hA mg
  refine OA.mono fun e W' ⟨he,hb⟩=>?_
  subst he
  have hlen:=aaI hA
  match ds,hlen,hA,JE with
  | [d0, d1, d2], _, hA, JE =>
    refine⟨_,rfl,aqY (pa:=p) (pv:=[]) JE (fun _ _ _=>trodAll_cons_mk (shut_bool Tryz.underlying4 _) trodAll_mk0) (fun sp qT=>?_) (fun _ _=>rfl) rfl hb (ok_one (by kernel_rfl) rfl (okWide_bool_mk Tryz.underlying4 _))⟩
    exact aav laidOut hb (ts:=[25,26,3]) atk hA aC (fun x hx=>qT x (List.mem_append_left _ hx))

theorem over:Rows.scheduleIncludedRow.holds Tryz.pinned (OpenSpec.ofChange Rows.scheduleIncludedSpec):=
  OpenClaim.holds_of_wide 3 Tryz.f3 rfl rfl rfl rfl rfl rfl rfl ⟨rfl,rfl,rfl,rfl,rfl⟩ rfl rfl rfl rfl rfl (by kernel_rfl) Tryz.func3 (by kernel_rfl)
    (of_decide_eq_true (by kernel_rfl)) (by unfold Func.isWrapper;first|(rw[if_pos (by decide+kernel)];kernel_rfl)|(rw[if_neg (by decide+kernel)];exact⟨rfl,rfl⟩))
    (fun os started H enc _=>lifted os started H enc)

theorem proved : Rows.ScheduleIncludedCardSaid :=
  Claim7.holds_tied_plain_at .later [] [.data,.data,.data] true (true, "7067d848ab4ba80369b14419df0412b847a47b91bf7ae11fef0d171b6202093c") false
    over (fun _ h=>by cases h) (by kernel_rfl) (fun _ h=>by cases h) scheduleIncluded_row_tie rfl ⟨rfl,rfl⟩ (by kernel_rfl) rfl
    (fun f fn hf uW => by
      obtain rfl:f=3:=Option.some.inj ((show Tryz.prog.funcNamed "cassegrain/cassegrainlaw09.ScheduleIncluded" =some 3 by kernel_rfl).symm.trans hf) |>.symm
      obtain rfl:fn=Tryz.f3:=(Option.some.inj (Tryz.func3.symm.trans uW)).symm
      exact ⟨by kernel_rfl, fun j t ht => by
        rw[Tryz.params3]at ht
        rcases j with _|j
        · have h3 : t = 25 := by simpa using ht.symm
          subst h3
          exact(show Tryz.prog.wantsStandIn 25=false by kernel_rfl)
        ·
          rcases j with _|j
          · have h3 : t = 26 := by simpa using ht.symm
            subst h3
            exact(show Tryz.prog.wantsStandIn 26=false by kernel_rfl)
          ·
            rcases j with _|j
            · have h3 : t = 3 := by simpa using ht.symm
              subst h3
              exact(show Tryz.prog.wantsStandIn 3=false by kernel_rfl)
            ·
              simp at ht⟩)
    (by kernel_rfl)
end Go.Proofs.YthpnomimjpcgnaaGreatDoor.lawF
