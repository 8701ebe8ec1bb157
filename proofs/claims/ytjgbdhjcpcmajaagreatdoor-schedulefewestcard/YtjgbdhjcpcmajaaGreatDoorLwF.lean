/-
  PROVED: ScheduleFewest returns true for every input, and leaves its arguments as they were: the tied card. Conditions: none but the statement's own.
-/
import Derived.Test.YtjgbdhjcpcmajaaGreatDoorT10
import Derived.Test.YtjgbdhjcpcmajaaGreatDoorT11
import Derived.Test.YtjgbdhjcpcmajaaGreatDoorT12
import Derived.Test.YtjgbdhjcpcmajaaGreatDoorCards
import Derived.Test.YtjgbdhjcpcmajaaGreatDoorTie
import Derived.WalkKit
import Derived.ProofKit
import Derived.OpenShut
import Derived.JoinedCond
import Derived.LaidMore
import Derived.Stop.Joined
set_option linter.unusedSimpArgs false
set_option linter.unusedVariables false
set_option maxRecDepth 100000
namespace Go.Proofs.YtjgbdhjcpcmajaaGreatDoor.lawF
open Go.Ax Go.Ax.Sx Go.Ax.Sx.Sc
open Go.ChangeShapes Go.WideShapes Go.ChangeAt Go.RowKit

theorem own:ownKnob Tryz.prog.godebug=none:=by kernel_rfl
theorem laidOut:laidOutB Tryz.prog=true:=by kernel_rfl

theorem wkT:xZ Tryz.prog 3 9 48 85 35 87 22 50 23 25 where
  i:=Tryz.underlying3
  s:=Tryz.underlying9
  g:=⟨_,Tryz.underlying48,rfl⟩
  gs:=Tryz.underlying85
  gc:=by kernel_rfl
  is:=Tryz.underlying35
  ic:=by kernel_rfl
  a:=⟨_,Tryz.underlying87,rfl⟩
  sa:=Tryz.underlying22
  ac:=by kernel_rfl
  r:=⟨_,Tryz.underlying50,rfl⟩
  sr:=Tryz.underlying23
  rc:=by kernel_rfl
  w:=⟨_,Tryz.underlying25,rfl⟩

theorem plT:Ct Tryz.prog 3 35 63 26 where
  i:=Tryz.underlying3
  ic:=by kernel_rfl
  is:=Tryz.underlying35
  p:=⟨_,Tryz.underlying63,rfl⟩
  ps:=Tryz.underlying26
  pc:=by kernel_rfl

theorem anZ : R1 Tryz.prog AP 3 6 [25, 28, 3] := by
  intro xs s hs h
  cases h with
  | cons h1 h =>
    cases h with
    | cons h2 h =>
      cases h with
      | cons h3 h =>
        cases h with
        | nil =>
          simp only[rn,Tryz.underlying25]at h1
          obtain⟨v1,rfl,h1⟩:=h1
          obtain⟨w,hw,h1a,h1b⟩:=asK wkT h1
          rw[hw]
          simp only[rn,Tryz.underlying28]at h2
          obtain⟨v2,rfl,h2⟩:=h2
          obtain⟨a2,b2,o2,q2,sw,h2a,h2b⟩:=asF plT ⟨_,Tryz.underlying28,rfl⟩ h2
          rw[sw]
          simp only[rn,Tryz.underlying3]at h3
          obtain⟨n,vg,h3a⟩:=rj Tryz.underlying3 h3
          injection vg with vg
          subst vg
          exact anS hs h1a h1b h2a h2b (.inr rfl) (.inr rfl) h3a

theorem atd:([25,28,3].all (mQ Tryz.prog 6))=true:=by kernel_rfl
theorem atc:∀t∈[25,28,3],mQ Tryz.prog 6 t=true:=List.all_eq_true.1 atd
noncomputable def QY (t:TypeId):Bool:=Tryz.prog.readableRec t&&decide (t<Tryz.prog.types.size)
theorem atf:([25,28,3].all QY)=true:=by kernel_rfl
theorem ate (t:TypeId) (ht:t∈[25,28,3]):Tryz.prog.readableRec t=true∧t<Tryz.prog.types.size:=by
  have h:QY t=true:=List.all_eq_true.1 atf t ht
  unfold QY at h
  exact⟨(Bool.and_eq_true_iff.1 h).1,of_decide_eq_true (Bool.and_eq_true_iff.1 h).2⟩

abbrev KB:List (String×DataW Unit):=[("math/bits.deBruijn32tab",Rows.laid_math_bits_deBruijn32tab),("math/bits.deBruijn64tab",Rows.laid_math_bits_deBruijn64tab),("internal/strconv.uint64pow10",Rows.laid_internal_strconv_uint64pow10)]

/-- The door's own heap meets the condition. -/
theorem aeW (os : Os) (args : Array Value) : laidMetH Tryz.prog KB ((World.doorLaid Tryz.prog 4000 os).forCall (fun _ _ => 0) ⟨#[], args, []⟩).memory :=
  laidMetH_of_parts3 (fuel:=8) (laidMet_of_run' 8 (by kernel_rfl) (by kernel_rfl)) (by kernel_rfl) (by kernel_rfl)


theorem lifted (os:Os) (started:os.Started) (H:Type) (enc:TypeId×Value→H):
    ReturnsInHanded {} Tryz.checked os 3 .any (fun w args=>(Rows.scheduleFewestSpec.pre enc Tryz.prog Tryz.f3 [] false w args∧laidMetH Tryz.prog KB w)∧sizedMet enc Tryz.prog Tryz.f3 (OpenSpec.ofChange Rows.scheduleFewestSpec) false w args) (Rows.scheduleFewestSpec.post enc Tryz.prog Tryz.f3 false true false false):=by
  refine returnsInHanded_of_change_and (C:=Tryz.checked) (X:=fun w _=>laidMetH Tryz.prog KB w) (fun _ _ _ hh h=>h.of_heap hh) own started (by kernel_rfl) Tryz.func3
    (ChangeSpec.witness_shaped (enc := enc) (C := Tryz.checked) (os := os) (X := fun w _ => laidMetH Tryz.prog KB w) false (World.doorLaid Tryz.prog 4000 os) #[.agg #[.int .i64 0, .slice none 0 0, .slice none 0 0], .agg #[.slice none 0 0, .slice none 0 0], .int .i64 0] 8 rfl (World.shaped_of_RefB (by kernel_rfl) (by kernel_rfl)) (by kernel_rfl) (by kernel_rfl) (by kernel_rfl) (aeW os _)) ?_
  intro W base args ds gs before akc hW ave akg hL _
  have kE:∀(j:Nat) t v,Tryz.f3.params[j]? =some t→args[j]? =some v→Value.okWide Tryz.prog W .any base t v:=akc
  have JJ:=hW
  obtain⟨p,q,hY,hV,rfl,W9,Br⟩:=hW
  have hA:DataW.TrodAll enc Tryz.prog W 0 (fun _=>true) true Tryz.f3.params.toList args.toList ds p:=hY
  have aC:∀x∈p,x.block<W.heap.size:=fun x hx=>JJ.lt x (List.mem_append_left _ hx)
  have lW:(DataW.weightsEach Tryz.prog (Tryz.f3.params.toList++[]) (ds++gs)).all (· ≤reachBytes)=true:=akg
  rw[Tryz.params3]at hA kE lW
  obtain⟨rfl,rfl⟩:=trodVars_none hV
  rw[List.append_nil,List.append_nil]at lW
  have OI:=anY RW.aq1 (fun _ _=>trivial) anZ (f:=3) (args:=args) atc (fun j t v h1 h2=>kE j t v (by simpa using h1) (by simpa using h2)) hA lW
  refine OI.mono fun e W' ⟨he,hb⟩=>?_
  subst he
  have hlen:=aa5 hA
  match ds,hlen,hA,JJ with
  | [d0, d1, d2], _, hA, JJ =>
    refine⟨_,rfl,aqU (pa:=p) (pv:=[]) JJ (fun _ _ _=>trodAll_cons_mk (shut_bool Tryz.underlying4 _) trodAll_mk0) (fun sp qP=>?_) (fun _ _=>rfl) rfl hb (ok_one (by kernel_rfl) rfl (okWide_bool_mk Tryz.underlying4 _))⟩
    exact aaN laidOut hb (ts:=[25,28,3]) ate hA aC (fun x hx=>qP x (List.mem_append_left _ hx))

theorem over:Rows.scheduleFewestRow.holds Tryz.pinned (OpenSpec.ofChange Rows.scheduleFewestSpec):=
  OpenClaim.holds_of_wide 3 Tryz.f3 rfl rfl rfl rfl rfl rfl rfl ⟨rfl,rfl,rfl,rfl,rfl⟩ rfl rfl rfl rfl rfl (by kernel_rfl) Tryz.func3 (by kernel_rfl)
    (of_decide_eq_true (by kernel_rfl)) (by unfold Func.isWrapper;first|(rw[if_pos (by decide+kernel)];kernel_rfl)|(rw[if_neg (by decide+kernel)];exact⟨rfl,rfl⟩))
    (fun os started H enc _=>lifted os started H enc)

theorem proved : Rows.ScheduleFewestCardSaid :=
  Claim7.holds_tied_plain_at .later [] [.data,.data,.data] true (true, "06a6077e0f3cb6b9a4a28e47d060609148940c20da4e8918dac561eea3c194a6") false
    over (fun _ h=>by cases h) (by kernel_rfl) (fun _ h=>by cases h) scheduleFewest_row_tie rfl ⟨rfl,rfl⟩ (by kernel_rfl) rfl
    (fun f fn hf sb => by
      obtain rfl:f=3:=Option.some.inj ((show Tryz.prog.funcNamed "cassegrain/cassegrainlaw09.ScheduleFewest" =some 3 by kernel_rfl).symm.trans hf) |>.symm
      obtain rfl:fn=Tryz.f3:=(Option.some.inj (Tryz.func3.symm.trans sb)).symm
      exact ⟨by kernel_rfl, fun j t ht => by
        rw[Tryz.params3]at ht
        rcases j with _|j
        · have h3 : t = 25 := by simpa using ht.symm
          subst h3
          exact(show Tryz.prog.wantsStandIn 25=false by kernel_rfl)
        ·
          rcases j with _|j
          · have h3 : t = 28 := by simpa using ht.symm
            subst h3
            exact(show Tryz.prog.wantsStandIn 28=false by kernel_rfl)
          ·
            rcases j with _|j
            · have h3 : t = 3 := by simpa using ht.symm
              subst h3
              exact(show Tryz.prog.wantsStandIn 3=false by kernel_rfl)
            ·
              simp at ht⟩)
    (by kernel_rfl)
end Go.Proofs.YtjgbdhjcpcmajaaGreatDoor.lawF
