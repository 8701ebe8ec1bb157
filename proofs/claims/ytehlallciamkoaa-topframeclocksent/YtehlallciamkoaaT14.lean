/- The codes that are computed with are those of the program: each one is what compFn gives; what is taken from the library is what the shelf says of it. -/
import Derived.Test.YtehlallciamkoaaT13
import Derived.Test.YtehlallciamkoaaT10
import Derived.Test.YtehlallciamkoaaProg
import Derived.KernelRfl
namespace Go.Ax.Sx.Ck
open Go.Ax
set_option linter.unusedSimpArgs false
set_option linter.unusedVariables false
set_option maxRecDepth 100000
section
variable {s : Sig}
theorem lenSl {α : Type} {f : α → List AV} {x : Sl α} : lenOp false (x.v f) = some (I (x.l.length : Int)) := by simp [lenOp]
theorem seg_r4 {l : Sl Pr} {L : Nat} {C : Int} {fs : List Fm} {X : AV} {og : Option Nat} (hs : Ok s) (hr : RuOk L C) (hl : l.ok 3) (hps : PsOk l.l) (hn : l.l.length ≤ 12) (hc : ∀ p ∈ l.l, p.cnt ≤ 65535) (hcame : Came L (fillP L (pksC l.l)) (framesN L (pksC l.l)) fs)
  {ρ : Nat → AV} {bx : List (List AV)} {tk : List (Option Nat)} (g1 : ρ 1 = l.v rowPr) (g3 : ρ 3 = .ptr s.acts.length 0 0) (hb : bx[0]? = some [I L, I C]) (g11 : ρ 11 = X) (hA : Acc s.acts.length 4 (fs.map rowFm) X og tk) :
  go AP f_t_TopFrameClockSent [.c b_t_TopFrameClockSent_r4] ⟨ρ, s.push ⟨bx, tk⟩⟩ = some (B true, s) := by
 have hL : 4 ≤ L := by have := hr.l0; omega
 have hL2 : L ≤ 24 := by have := hr.l1; omega
 obtain ⟨o, e, rfl, he⟩ := hA.sl
 have he' : fs = [] ∨ e = 4 := by
  rcases he with h | h
  ·exact .inl (List.map_eq_nil_iff.1 h)
  ·exact .inr h
 have hk := pksC_ok hn (fun p hp => ⟨(hps.ok p hp).c0, hc p hp⟩)
 have hfn := framesC (L := L) hL hn hps.n1 (fun p hp => ⟨(hps.ok p hp).c0, hc p hp⟩)
 obtain ⟨f1, f2, f3⟩ := came_row (C := C) hL hL2 hr.c0 (fun q hq => (hk q hq).1) hfn.2 hcame
 obtain ⟨prs, p1, p2, p3, p4, p5⟩ := extracted_law hL hps.asc hn hcame
 have e1 : ∀ r, callL AP (.fn 9) [rulesV L C, .slice o e (fs.map rowFm)] (s.push r) = some (I 0, s.push r) := fun r => r_FramesErr (x := ⟨o, e, fs⟩) (hs.push r) hr he' f1 (by simp only; omega)
 have e2 : ∀ r, callL AP (.fn 10) [rulesV L C, I 0, .slice o e (fs.map rowFm)] (s.push r) = some (.tuple [(acS 3 (extracted fs)).v rowPk, I 0], s.push r) := fun r => frame_Extracted (x := ⟨o, e, fs⟩) (hs.push r) hr he' f3 f1 (by simp only; omega)
 have hlx : lenOp false ((acS 3 (extracted fs)).v rowPk) = some (I ((extracted fs).length : Int)) := by rw [lenSl, acS_l]
 have d1 : decide ((l.l.length : Int) < ((extracted fs).length : Int)) = false := decide_eq_false (by omega)
 have z0 : ∀ ρ', ρ' 1 = l.v rowPr → ρ' 13 = (acS 3 (extracted fs)).v rowPk → ρ' 15 = .slice .nilS 0 [] → ρ' 16 = I 0 → go AP f_t_TopFrameClockSent (.c (.loop b_t_TopFrameClockSent_l2) :: k_t_TopFrameClockSent_2) ⟨ρ', s.push ⟨bx, tk⟩⟩ = some (B true, s) := fun ρ' a b c d => seg_pairs hs hl.1 hps.ok hn p3 p1 p2 p4 p5 a b c d
 simp only [Sl.v] at g1 z0
 rw [show ((acS 3 (extracted fs)).v rowPk) = AV.slice (acS 3 (extracted fs)).o (acS 3 (extracted fs)).e ((acS 3 (extracted fs)).l.map rowPk) from rfl] at e2 hlx
 generalize AV.slice (acS 3 (extracted fs)).o (acS 3 (extracted fs)).e ((acS 3 (extracted fs)).l.map rowPk) = EV at *
 generalize (extracted fs).length = N at *
 generalize fs.map rowFm = FM at *
 simp (maxSteps := 1000000) only [go_sem, b_t_TopFrameClockSent_r4, g1, g3, g11, hb, e1, e2, hlx, d1, Nat.reduceEqDiff, ↓reduceIte, ne_eq, not_true]
 exact z0 _ (by exact g1) (by rfl) (by rfl) (by rfl)
theorem seg_came {l : Sl Pr} {y : Sl Bool} {L : Nat} {C : Int} (hs : Ok s) (hr : RuOk L C) (hl : l.ok 3) (hy : y.l = [] ∨ y.e = 1) (hps : PsOk l.l) (hn : l.l.length ≤ 12) (hc : ∀ p ∈ l.l, p.cnt ≤ 65535)
  {ρ : Nat → AV} {bx : List (List AV)} {tk : List (Option Nat)} (g1 : ρ 1 = l.v rowPr) (g2 : ρ 2 = y.v fun b => [B b]) (g3 : ρ 3 = .ptr s.acts.length 0 0) (hb : bx[0]? = some [I L, I C]) (g9 : ρ 9 = (acS 4 (packedL L (pksC l.l))).v rowFm) (g11 : ρ 11 = .slice .nilS 0 []) (g12 : ρ 12 = I 0) :
  go AP f_t_TopFrameClockSent (.c (.loop b_t_TopFrameClockSent_l3) :: k_t_TopFrameClockSent_3) ⟨ρ, s.push ⟨bx, tk⟩⟩ = some (B true, s) := by
 have hL : 4 ≤ L := by have := hr.l0; omega
 have hL2 : L ≤ 24 := by have := hr.l1; omega
 have hk := pksC_ok hn (fun p hp => ⟨(hps.ok p hp).c0, hc p hp⟩)
 have hfn := framesC (L := L) hL hn hps.n1 (fun p hp => ⟨(hps.ok p hp).c0, hc p hp⟩)
 obtain ⟨N, hN⟩ : ∃ N, N = framesN L (pksC l.l) := ⟨_, rfl⟩
 have hpl : (packedL L (pksC l.l)).length = N := by rw [packed_len, hN]
 have hlx : lenOp false ((acS 4 (packedL L (pksC l.l))).v rowFm) = some (I (N : Int)) := by rw [lenSl, acS_l, hpl]
 have key : ∀ (k : Nat) ρ m, k ≤ N → (ρ 1 = l.v rowPr ∧ ρ 2 = (y.v fun b => [B b]) ∧ ρ 3 = .ptr s.acts.length 0 0 ∧ ρ 9 = (acS 4 (packedL L (pksC l.l))).v rowFm ∧ ρ 12 = I k ∧ ∃ fs X og tk, Came L (fillP L (pksC l.l)) k fs ∧ Acc s.acts.length 4 (fs.map rowFm) X og tk ∧ fs.length ≤ k ∧ ρ 11 = X ∧ m = s.push ⟨bx, tk⟩) →
   go AP f_t_TopFrameClockSent (.c (.loop b_t_TopFrameClockSent_l3) :: k_t_TopFrameClockSent_3) ⟨ρ, m⟩ = some (B true, s) := by
  refine loop_up N _ (fun _ => some (B true, s)) ?_ ?_
  ·rintro k ρ m hk' ⟨g1, g2, g3, g9, g12, fs, X, og, tk, hcame, hA, hfl, g11, rfl⟩ ih
   obtain ⟨f, hf⟩ := get_some (l := packedL L (pksC l.l)) (k := k) (by omega)
   obtain ⟨o1, o2, o3, o4, o5⟩ := packed_ok (C := C) hL hL2 hr.c0 (fun q hq => (hk q hq).1) (show k < framesN L (pksC l.l) by omega) (by omega) hf
   have hwk := wrap_succ hk' (show (N : Int) < _ by omega)
   have hix : indexAddrOp none 4 ((acS 4 (packedL L (pksC l.l))).v rowFm) (I (k : Int)) = some (.eptr (rowFm f) 0) := Sl.ix (f := rowFm) acS_ok (by rw [acS_l]; exact hf)
   have hdl : f.data.l.length ≤ 4294967296 := by have := o1.len; omega
   have e1 : ∀ r, callL AP (.fn 8) [.agg (rowFm f)] (s.push r) = some (.agg (rowFm (cpFm f)), s.push r) := fun r => r_CopyFrame (hs.push r) o1.data hdl
   have hcl : closeAll (rowFm (cpFm f)) = some (rowFm (cpFm f)) := by
    simp only [rowFm, cpFm, closeAll_cons, closeAll_nil, close_int, Sl.close (f := rowI) (cpS_ok (es := 1) (l := f.data.l))]; rfl
   have htk : (fs.map rowFm).length ≤ 16 := by simp; omega
   obtain ⟨x9, og9, tk9, ha1, ha2, _, _⟩ := hA.append hs .full (ys := [rowFm (cpFm f)]) (by simp) (by simp; omega)
   have hA' : Acc s.acts.length 4 ((fs ++ [cpFm f]).map rowFm) x9 og9 tk9 := by rw [List.map_append]; exact ha2
   have hc2 : Came L (fillP L (pksC l.l)) (k + 1) (fs ++ [cpFm f]) := .take hcame o2 o3 o4 (by rw [← o5]; exact cpS_l) cpS_ok
   have ih2 : ∀ ρ', ρ' 1 = l.v rowPr → ρ' 2 = (y.v fun b => [B b]) → ρ' 3 = .ptr s.acts.length 0 0 → ρ' 9 = (acS 4 (packedL L (pksC l.l))).v rowFm → ρ' 12 = I (k + 1 : Nat) → ρ' 11 = x9 → go AP f_t_TopFrameClockSent (.c (.loop b_t_TopFrameClockSent_l3) :: k_t_TopFrameClockSent_3) ⟨ρ', s.push ⟨bx, tk9⟩⟩ = some (B true, s) := fun ρ' a b c d e f' => ih ρ' _ ⟨a, b, c, d, e, _, x9, og9, tk9, hc2, hA', by simp; omega, f', rfl⟩
   have ih3 : ∀ ρ', ρ' 1 = l.v rowPr → ρ' 2 = (y.v fun b => [B b]) → ρ' 3 = .ptr s.acts.length 0 0 → ρ' 9 = (acS 4 (packedL L (pksC l.l))).v rowFm → ρ' 12 = I (k + 1 : Nat) → ρ' 11 = X → go AP f_t_TopFrameClockSent (.c (.loop b_t_TopFrameClockSent_l3) :: k_t_TopFrameClockSent_3) ⟨ρ', s.push ⟨bx, tk⟩⟩ = some (B true, s) := fun ρ' a b c d e f' => ih ρ' _ ⟨a, b, c, d, e, fs, X, og, tk, .skip hcame, hA, by omega, f', rfl⟩
   clear ih
   have hly : lenOp false (y.v fun b => [B b]) = some (I (y.l.length : Int)) := lenSl
   have hix2 : indexAddrOp none 4 ((acS 4 (packedL L (pksC l.l))).v rowFm) (I (k : Int)) = some (.eptr [I f.ch, I f.cnt, I f.first, f.data.v rowI] 0) := hix
   have e12 : ∀ r, callL AP (.fn 8) [.agg [I f.ch, I f.cnt, I f.first, f.data.v rowI]] (s.push r) = some (.agg (rowFm (cpFm f)), s.push r) := e1
   obtain ⟨rc, hrc⟩ : ∃ rc, rc = rowFm (cpFm f) := ⟨_, rfl⟩
   have hrc4 : rc = [I (cpFm f).ch, I (cpFm f).cnt, I (cpFm f).first, (cpFm f).data.v rowI] := hrc
   rw [← hrc] at e12 hcl ha1
   have hbs : ∀ Y : AV, Y = .agg rc → True := fun _ _ => trivial
   rcases Nat.lt_or_ge k y.l.length with hky | hky
   ·have d1 : decide ((y.l.length : Int) ≤ (k : Int)) = false := decide_eq_false (by omega)
    obtain ⟨b, hbk⟩ := get_some hky
    have hixy : indexAddrOp none 1 (y.v fun b => [B b]) (I (k : Int)) = some (.eptr [B b] 0) := ixE (f := fun b => [B b]) hy hbk
    rw [hrc4] at e12 hcl ha1
    generalize (acS 4 (packedL L (pksC l.l))).v rowFm = PV at *
    generalize (y.v fun b => [B b]) = YV at *
    generalize f.data.v rowI = DV at *
    generalize (cpFm f).data.v rowI = CV at *
    cases b with
    | true =>
     simp (maxSteps := 1000000) only [go_sem, b_t_TopFrameClockSent_l3, g2, g9, g12, hlx, lt_dec hk', hly, d1, hixy, hwk, Nat.reduceEqDiff, ↓reduceIte]
     exact ih3 _ (by exact g1) (by exact g2) (by exact g3) (by exact g9) (by rfl) (by exact g11)
    | false =>
     simp (maxSteps := 1000000) only [go_sem, b_t_TopFrameClockSent_l3, g2, g9, g11, g12, hlx, lt_dec hk', hly, d1, hixy, hwk, hix2, e12, hcl, ha1, Nat.reduceEqDiff, ↓reduceIte]
     exact ih2 _ (by exact g1) (by exact g2) (by exact g3) (by exact g9) (by rfl) (by rfl)
   ·have d1 : decide ((y.l.length : Int) ≤ (k : Int)) = true := decide_eq_true (by omega)
    rw [hrc4] at e12 hcl ha1
    generalize (acS 4 (packedL L (pksC l.l))).v rowFm = PV at *
    generalize (y.v fun b => [B b]) = YV at *
    generalize f.data.v rowI = DV at *
    generalize (cpFm f).data.v rowI = CV at *
    simp (maxSteps := 1000000) only [go_sem, b_t_TopFrameClockSent_l3, g2, g9, g11, g12, hlx, lt_dec hk', hly, d1, hwk, hix2, e12, hcl, ha1, Nat.reduceEqDiff, ↓reduceIte]
    exact ih2 _ (by exact g1) (by exact g2) (by exact g3) (by exact g9) (by rfl) (by rfl)
  ·rintro ρ m ⟨g1, g2, g3, g9, g12, fs, X, og, tk, hcame, hA, hfl, g11, rfl⟩
   rw [hN] at hcame
   have hr4 := fun ρ a b d => seg_r4 (ρ := ρ) (bx := bx) hs hr hl hps hn hc hcame a b hb d hA
   generalize (acS 4 (packedL L (pksC l.l))).v rowFm = PV at *
   simp (maxSteps := 1000000) only [go_sem, b_t_TopFrameClockSent_l3, g9, g12, hlx, ge_dec, Nat.reduceEqDiff, ↓reduceIte]
   exact hr4 _ (by exact g1) (by exact g3) (by exact g11)
 exact key 0 _ _ (Nat.zero_le _) ⟨g1, g2, g3, g9, g12, [], _, none, tk, .nil, Acc.start, Nat.le_refl _, g11, rfl⟩
end
end Go.Ax.Sx.Ck

namespace Go.Ax.Sx.Ck
open Go.Ax
set_option linter.unusedSimpArgs false
set_option linter.unusedVariables false
set_option maxRecDepth 100000
section
variable {s : Sig}
theorem seg_r5 {l : Sl Pr} {y : Sl Bool} {L : Nat} {C : Int} {X : AV} {og : Option Nat} (hs : Ok s) (hr : RuOk L C) (hl : l.ok 3) (hy : y.l = [] ∨ y.e = 1) (hps : PsOk l.l) (hn : l.l.length ≤ 12) (hc : ∀ p ∈ l.l, p.cnt ≤ 65535)
  {ρ : Nat → AV} {bx : List (List AV)} {tk : List (Option Nat)} (g1 : ρ 1 = l.v rowPr) (g2 : ρ 2 = y.v fun b => [B b]) (g3 : ρ 3 = .ptr s.acts.length 0 0) (hb : bx[0]? = some [I L, I C]) (g7 : ρ 7 = X) (hA : Acc s.acts.length 3 ((pksC l.l).map rowPk) X og tk) :
  go AP f_t_TopFrameClockSent [.c b_t_TopFrameClockSent_r5] ⟨ρ, s.push ⟨bx, tk⟩⟩ = some (B true, s) := by
 have hL : 4 ≤ L := by have := hr.l0; omega
 have hk := pksC_ok hn (fun p hp => ⟨(hps.ok p hp).c0, hc p hp⟩)
 have hfn := framesC (L := L) hL hn hps.n1 (fun p hp => ⟨(hps.ok p hp).c0, hc p hp⟩)
 have hpl := pksC_len (l := l.l)
 have hn1 := hps.n1
 have hne : pksC l.l ≠ [] := by intro e; rw [e] at hpl; simp at hpl; omega
 cases og with
 | none =>
  obtain ⟨h0, rfl⟩ := hA
  exact absurd (List.map_eq_nil_iff.1 h0) hne
 | some g =>
  obtain ⟨_, rfl, _⟩ := hA
  have e1 : ∀ r, callL AP (.fn 7) [rulesV L C, .agg [I 0, I 0], .slice (.tok s.acts.length g) 3 ((pksC l.l).map rowPk)] (s.push r) = some (.tuple [(acS 4 (packedL L (pksC l.l))).v rowFm, I 0], s.push r) := fun r =>
   frame_PackedE (x := ⟨.tok s.acts.length g, 3, pksC l.l⟩) (x' := ⟨.any, 3, pksC l.l⟩) (hs.push r) hr (.inr rfl) ⟨.inr rfl, .inl rfl⟩ rfl (fun m => rfl) rfl hne (fun q hq => (hk q hq).1) (by simp only; omega) hfn.1 (by simp only; omega)
  have hlx : lenOp false ((acS 4 (packedL L (pksC l.l))).v rowFm) = some (I ((framesN L (pksC l.l) : Nat) : Int)) := by rw [lenSl, acS_l, packed_len]
  have d1 : decide ((16 : Int) < ((framesN L (pksC l.l) : Nat) : Int)) = false := decide_eq_false (by omega)
  have z0 := fun ρ a b c d e f => seg_came (ρ := ρ) (bx := bx) (tk := tk) hs hr hl hy hps hn hc a b c hb d e f
  generalize (acS 4 (packedL L (pksC l.l))).v rowFm = PV at *
  generalize framesN L (pksC l.l) = N at *
  generalize (pksC l.l).map rowPk = KM at *
  simp (maxSteps := 1000000) only [go_sem, b_t_TopFrameClockSent_r5, g3, g7, hb, e1, hlx, d1, Nat.reduceEqDiff, ↓reduceIte, ne_eq, not_true]
  exact z0 _ (by exact g1) (by exact g2) (by exact g3) (by rfl) (by rfl) (by rfl)
theorem seg_l4 {l : Sl Pr} {y : Sl Bool} {L : Nat} {C : Int} (hs : Ok s) (hr : RuOk L C) (hl : l.ok 3) (hy : y.l = [] ∨ y.e = 1) (hps : PsOk l.l) (hn : l.l.length ≤ 12) (hc : ∀ p ∈ l.l, p.cnt ≤ 65535)
  {ρ : Nat → AV} {bx : List (List AV)} {tk : List (Option Nat)} (g1 : ρ 1 = l.v rowPr) (g2 : ρ 2 = y.v fun b => [B b]) (g3 : ρ 3 = .ptr s.acts.length 0 0) (hb : bx[0]? = some [I L, I C]) (g7 : ρ 7 = .slice .nilS 0 []) (g8 : ρ 8 = I 0) :
  go AP f_t_TopFrameClockSent (.c (.loop b_t_TopFrameClockSent_l4) :: k_t_TopFrameClockSent_4) ⟨ρ, s.push ⟨bx, tk⟩⟩ = some (B true, s) := by
 have key : ∀ (k : Nat) ρ m, k ≤ l.l.length → (ρ 1 = l.v rowPr ∧ ρ 2 = (y.v fun b => [B b]) ∧ ρ 3 = .ptr s.acts.length 0 0 ∧ ρ 8 = I k ∧ ∃ X og tk, Acc s.acts.length 3 (((pksC l.l).take k).map rowPk) X og tk ∧ ρ 7 = X ∧ m = s.push ⟨bx, tk⟩) →
   go AP f_t_TopFrameClockSent (.c (.loop b_t_TopFrameClockSent_l4) :: k_t_TopFrameClockSent_4) ⟨ρ, m⟩ = some (B true, s) := by
  refine loop_up l.l.length _ (fun _ => some (B true, s)) ?_ ?_
  ·rintro k ρ m hk ⟨g1, g2, g3, g8, X, og, tk, hA, g7, rfl⟩ ih
   obtain ⟨p, hp⟩ := get_some hk
   have hpo := hps.ok p (List.mem_of_getElem? hp)
   have hwk := wrap_succ hk (show (l.l.length : Int) < _ by omega)
   have hix : indexAddrOp none 3 (l.v rowPr) (I (k : Int)) = some (.eptr (rowPr p) 0) := Sl.ix (f := rowPr) hl hp
   have hg : (pksC l.l)[k]? = some (pkC k p) := by
    unfold pksC; rw [List.getElem?_mapIdx, hp]; rfl
   obtain ⟨c, hcn⟩ : ∃ c : Nat, p.cnt = c := ⟨p.cnt.toNat, by have := hpo.c0; omega⟩
   have hc1 := hpo.c1
   have hq : arithOp .quo (I p.cnt) (I 256) = some (I (p.cnt / 256)) := by
    rw [hcn]
    exact ar_quon (a := c) (b := 256) (by omega) (by omega)
   have hrm : arithOp .rem (I p.cnt) (I 256) = some (I (p.cnt % 256)) := by
    rw [hcn]
    exact ar_remn (a := c) (b := 256) (by omega) (by omega)
   have htk : (((pksC l.l).take k).map rowPk).length ≤ 12 := by simp; omega
   obtain ⟨x9, og9, tk9, ha1, ha2, _, _⟩ := hA.append hs .full (ys := [rowPk (pkC k p)]) (by simp) (by simp; omega)
   have hA' : Acc s.acts.length 3 (((pksC l.l).take (k + 1)).map rowPk) x9 og9 tk9 := by rw [take_get hg, List.map_append]; exact ha2
   have ih2 : ∀ ρ', ρ' 1 = l.v rowPr → ρ' 2 = (y.v fun b => [B b]) → ρ' 3 = .ptr s.acts.length 0 0 → ρ' 8 = I (k + 1 : Nat) → ρ' 7 = x9 → go AP f_t_TopFrameClockSent (.c (.loop b_t_TopFrameClockSent_l4) :: k_t_TopFrameClockSent_4) ⟨ρ', s.push ⟨bx, tk9⟩⟩ = some (B true, s) := fun ρ' a b c d e => ih ρ' _ ⟨a, b, c, d, x9, og9, tk9, hA', e, rfl⟩
   clear ih
   have ha3 : ∀ boxes, appendOp (s.push ⟨boxes, tk⟩) 3 X (.slice .full 3 [[I 1, I (k : Int), .slice .full 1 [[I (p.cnt / 256)], [I (p.cnt % 256)]]]]) = some (x9, s.push ⟨boxes, tk9⟩) := ha1
   have hll : lenOp false (l.v rowPr) = some (I (l.l.length : Int)) := lenSl
   have hcl : closeAll [I 1, I (k : Int), .slice .full 1 [[I (p.cnt / 256)], [I (p.cnt % 256)]]] = some [I 1, I (k : Int), .slice .full 1 [[I (p.cnt / 256)], [I (p.cnt % 256)]]] := rfl
   simp only [rowPr] at hix
   generalize l.v rowPr = LV at *
   generalize (y.v fun b => [B b]) = YV at *
   simp (maxSteps := 1000000) only [go_sem, b_t_TopFrameClockSent_l4, g1, g7, g8, hll, lt_dec hk, hix, hq, hrm, hcl, ha3, hwk, Nat.reduceEqDiff, Nat.reduceAdd, ↓reduceIte]
   exact ih2 _ (by exact g1) (by exact g2) (by exact g3) (by rfl) (by rfl)
  ·rintro ρ m ⟨g1, g2, g3, g8, X, og, tk, hA, g7, rfl⟩
   rw [← pksC_len, List.take_length] at hA
   have hr5 := fun ρ a b c d => seg_r5 (ρ := ρ) (bx := bx) hs hr hl hy hps hn hc a b c hb d hA
   have hll : lenOp false (l.v rowPr) = some (I (l.l.length : Int)) := lenSl
   generalize l.v rowPr = LV at *
   simp (maxSteps := 1000000) only [go_sem, b_t_TopFrameClockSent_l4, g1, g8, hll, ge_dec, Nat.reduceEqDiff, ↓reduceIte]
   exact hr5 _ (by exact g1) (by exact g2) (by exact g3) (by exact g7)
 exact key 0 _ _ (Nat.zero_le _) ⟨g1, g2, g3, g8, _, none, tk, Acc.start, g7, rfl⟩
theorem t_ClockSent {l : Sl Pr} {y : Sl Bool} {L C : Int} (hs : Ok s) (hl : l.ok 3) (hy : y.l = [] ∨ y.e = 1) (hbig : (l.l.length : Int) < 9223372036854775808) :
  callL AP (.fn 3) [rulesV L C, l.v rowPr, y.v fun b => [B b]] s = some (B true, s) := by
 have e1 : ∀ r, callL AP (.fn 4) [] (s.push r) = some (B true, s.push r) := fun r => t_frameShown (hs.push r)
 obtain ⟨a, ha, hru⟩ := r_RulesErr (L := L) (C := C) (hs.push ⟨[[I L, I C]], []⟩)
 have hll : lenOp false (l.v rowPr) = some (I (l.l.length : Int)) := lenSl
 simp only [Sl.v] at hll ⊢
 by_cases h0 : a = 0
 ·subst h0
  have hr := hru rfl
  obtain ⟨L', rfl⟩ : ∃ L' : Nat, L = L' := ⟨L.toNat, by have := hr.l0; omega⟩
  by_cases h12 : l.l.length ≤ 12
  ·have d1 : decide ((12 : Int) < (l.l.length : Int)) = false := decide_eq_false (by omega)
   obtain ⟨b, hb, hpr⟩ := r_PairsErr (x := l) (hs.push ⟨[[I L', I C]], []⟩) hl (by omega)
   simp only [Sl.v] at hb
   by_cases hb0 : b = 0
   ·subst hb0
    have hps := hpr rfl
    have hn1 := hps.n1
    obtain ⟨q, hq⟩ := get_some (l := l.l) (k := l.l.length - 1) (by omega)
    have hix := Sl.ix (f := rowPr) hl hq
    have w1 : IntKind.i64.wrap ((l.l.length : Int) - 1) = ((l.l.length - 1 : Nat) : Int) := by rw [wrap_id (by omega) (by omega)]; omega
    simp only [Sl.v, rowPr] at hix
    by_cases hq5 : q.cnt ≤ 65535
    ·have d2 : decide ((65535 : Int) < q.cnt) = false := decide_eq_false (by omega)
     have hc : ∀ p ∈ l.l, p.cnt ≤ 65535 := by
      intro p hp
      obtain ⟨i, hi⟩ := List.getElem?_of_mem hp
      have hil := (List.getElem?_eq_some_iff.1 hi).1
      rcases Nat.lt_or_ge i (l.l.length - 1) with h | h
      ·have := asc_lt hps.asc h hi hq; omega
      ·have e : i = l.l.length - 1 := by omega
       rw [e, hq] at hi
       cases hi; exact hq5
     have z0 := fun ρ a b c d e => seg_l4 (ρ := ρ) (bx := [[I L', I C]]) (tk := []) (l := l) (y := y) hs hr hl hy hps h12 hc a b c rfl d e
     simp only [Sl.v] at z0
     rw [callL_go (show AP 3 = some c_t_TopFrameClockSent from rfl) rfl]
     simp (maxSteps := 1000000) only [go_sem, b_t_TopFrameClockSent, e1, ha, hll, d1, hb, hix, w1, d2, Nat.reduceEqDiff, Nat.reduceAdd, ↓reduceIte, ne_eq, not_true]
     exact z0 _ (by rfl) (by rfl) (by rfl) (by rfl) (by rfl)
    ·have d2 : decide ((65535 : Int) < q.cnt) = true := decide_eq_true (by omega)
     rw [callL_go (show AP 3 = some c_t_TopFrameClockSent from rfl) rfl]
     simp (maxSteps := 1000000) only [go_sem, b_t_TopFrameClockSent, e1, ha, hll, d1, hb, hix, w1, d2, Nat.reduceEqDiff, Nat.reduceAdd, ↓reduceIte, ne_eq, not_true]
   ·have d2 : decide (¬ b = 0) = true := decide_eq_true hb0
    rw [callL_go (show AP 3 = some c_t_TopFrameClockSent from rfl) rfl]
    simp (maxSteps := 1000000) only [go_sem, b_t_TopFrameClockSent, e1, ha, hll, d1, hb, hb0, Nat.reduceEqDiff, Nat.reduceAdd, ↓reduceIte, ne_eq, not_true, not_false_eq_true]
  ·have d1 : decide ((12 : Int) < (l.l.length : Int)) = true := decide_eq_true (by omega)
   rw [callL_go (show AP 3 = some c_t_TopFrameClockSent from rfl) rfl]
   simp (maxSteps := 1000000) only [go_sem, b_t_TopFrameClockSent, e1, ha, hll, d1, Nat.reduceEqDiff, Nat.reduceAdd, ↓reduceIte, ne_eq, not_true]
 ·have d2 : decide (¬ a = 0) = true := decide_eq_true h0
  rw [callL_go (show AP 3 = some c_t_TopFrameClockSent from rfl) rfl]
  simp (maxSteps := 1000000) only [go_sem, b_t_TopFrameClockSent, e1, ha, h0, Nat.reduceEqDiff, Nat.reduceAdd, ↓reduceIte, ne_eq, not_false_eq_true]
end
end Go.Ax.Sx.Ck

namespace Go.Proofs.Ytehlallciamkoaa.AxOk
open Go.Ax Go.Ax.Sx Go.Ax.Sx.Ck
set_option maxRecDepth 100000

theorem k3 : compFn Try.prog false { grow := false, flat := [], nat := [], only := [] } Try.f3 = some c_t_TopFrameClockSent := by kernel_rfl
theorem k4 : compFn Try.prog false { grow := false, flat := [], nat := [], only := [] } Try.f4 = some c_t_frameShown := by kernel_rfl
theorem k5 : compFn Try.prog false { grow := false, flat := [], nat := [], only := [] } Try.f5 = some c_r_RulesErr := by kernel_rfl
theorem k6 : compFn Try.prog false { grow := false, flat := [], nat := [], only := [] } Try.f6 = some c_r_PairsErr := by kernel_rfl
theorem k7 : compFn Try.prog false { grow := false, flat := [], nat := [], only := [] } Try.f7 = some c_frame_Packed := by kernel_rfl
theorem k8 : compFn Try.prog false { grow := false, flat := [], nat := [], only := [] } Try.f8 = some c_r_CopyFrame := by kernel_rfl
theorem k9 : compFn Try.prog false { grow := false, flat := [], nat := [], only := [] } Try.f9 = some c_r_FramesErr := by kernel_rfl
theorem k10 : compFn Try.prog false { grow := false, flat := [], nat := [], only := [] } Try.f10 = some c_frame_Extracted := by kernel_rfl
theorem k11 : compFn Try.prog false { grow := false, flat := [], nat := [], only := [] } Try.f11 = some c_b_Within := by kernel_rfl
theorem k12 : compFn Try.prog false { grow := true, flat := [], nat := [], only := [] } Try.f12 = some c_frame_PiecesOf := by kernel_rfl
theorem k13 : compFn Try.prog false { grow := false, flat := [], nat := [], only := [] } Try.f13 = some c_r_CopyPairs := by kernel_rfl
theorem k14 : compFn Try.prog false { grow := false, flat := [], nat := [], only := [] } Try.f14 = some c_frame_TimeAt := by kernel_rfl
theorem k15 : compFn Try.prog false { grow := false, flat := [], nat := [], only := [] } Try.f15 = some c_l_Rules := by kernel_rfl
theorem k16 : compFn Try.prog false { grow := false, flat := [], nat := [], only := [] } Try.f16 = some c_l_Packets := by kernel_rfl
theorem k17 : compFn Try.prog false { grow := false, flat := [], nat := [], only := [] } Try.f17 = some c_l_Pairs := by kernel_rfl
theorem k18 : compFn Try.prog false { grow := false, flat := [], nat := [], only := [] } Try.f18 = some c_b_Ranges := by kernel_rfl
theorem k19 : compFn Try.prog false { grow := false, flat := [], nat := [], only := [] } Try.f19 = some c_r_CheckPairs := by kernel_rfl
theorem k20 : compFn Try.prog false { grow := false, flat := [], nat := [], only := [] } Try.f20 = some c_frame_openChannel := by kernel_rfl
theorem k21 : compFn Try.prog false { grow := false, flat := [], nat := [], only := [] } Try.f21 = some c_frame_first := by kernel_rfl
theorem k22 : compFn Try.prog false { grow := false, flat := [], nat := [], only := [] } Try.f22 = some c_frame_unless := by kernel_rfl
theorem k23 : compFn Try.prog false { grow := false, flat := [], nat := [], only := [] } Try.f23 = some c_frame_isCount := by kernel_rfl
theorem k24 : compFn Try.prog false { grow := false, flat := [], nat := [], only := [] } Try.f24 = some c_frame_packetsErr := by kernel_rfl
theorem k25 : compFn Try.prog false { grow := false, flat := [], nat := [], only := [] } Try.f25 = some c_frame_stream := by kernel_rfl
theorem k26 : compFn Try.prog false { grow := false, flat := [], nat := [], only := [], vals := true } Try.f26 = some c_frame_link_filled := by kernel_rfl
theorem k27 : compFn Try.prog false { grow := false, flat := [], nat := [], only := [] } Try.f27 = some c_z_Chunk_int := by kernel_rfl
theorem k28 : compFn Try.prog false { grow := false, flat := [], nat := [], only := [] } Try.f28 = some c_z_Clone_int := by kernel_rfl
theorem k29 : compFn Try.prog false { grow := false, flat := [], nat := [], only := [] } Try.f29 = some c_z_BinarySearch_int := by kernel_rfl
theorem k30 : compFn Try.prog false { grow := false, flat := [], nat := [], only := [] } Try.f30 = some c_b_CopyInts := by kernel_rfl
theorem k31 : compFn Try.prog false { grow := false, flat := [], nat := [], only := [] } Try.f31 = some c_r_FrameErr := by kernel_rfl
theorem k32 : compFn Try.prog false { grow := false, flat := [], nat := [], only := [] } Try.f32 = some c_frame_openFrames := by kernel_rfl
theorem k33 : compFn Try.prog false { grow := false, flat := [], nat := [], only := [] } Try.f33 = some c_frame_ordered := by kernel_rfl
theorem k34 : compFn Try.prog false { grow := false, flat := [], nat := [], only := [] } Try.f34 = some c_frame_reader_read := by kernel_rfl
theorem k35 : compFn Try.prog false { grow := false, flat := [], nat := [], only := [] } Try.f35 = some c_frame_CheckPairs := by kernel_rfl
theorem k36 : compFn Try.prog false { grow := false, flat := [], nat := [], only := [] } Try.f36 = some c_frame_isLine := by kernel_rfl
theorem k37 : compFn Try.prog false { grow := false, flat := [], nat := [], only := [] } Try.f37 = some c_frame_linesErr := by kernel_rfl
theorem k38 : compFn Try.prog false { grow := false, flat := [], nat := [], only := [] } Try.f38 = some c_frame_within := by kernel_rfl
theorem k39 : compFn Try.prog false { grow := false, flat := [], nat := [], only := [] } Try.f39 = some c_frame_chords := by kernel_rfl
theorem k40 : compFn Try.prog false { grow := false, flat := [], nat := [], only := [] } Try.f40 = some c_frame_chord_at := by kernel_rfl
theorem k41 : compFn Try.prog false { grow := false, flat := [], nat := [], only := [] } Try.f41 = some c_frame_floor := by kernel_rfl
theorem k42 : compFn Try.prog false { grow := false, flat := [], nat := [], only := [] } Try.f42 = some c_frame_chord_den := by kernel_rfl
theorem k43 : compFn Try.prog false { grow := false, flat := [], nat := [], only := [] } Try.f43 = some c_frame_open := by kernel_rfl
theorem k44 : compFn Try.prog false { grow := false, flat := [], nat := [], only := [] } Try.f44 = some c_frame_link_channelErr := by kernel_rfl
theorem k45 : compFn Try.prog false { grow := false, flat := [], nat := [], only := [] } Try.f45 = some c_frame_each_api_FramePacket := by kernel_rfl
theorem k46 : compFn Try.prog false { grow := false, flat := [], nat := [], only := [] } Try.f46 = some c_frame_CheckPacket := by kernel_rfl
theorem k47 : compFn Try.prog true { grow := false, flat := [], nat := [], only := [] } Try.f47 = some c_z_Clone_FramePacket := by kernel_rfl
theorem k48 : compFn Try.prog false { grow := false, flat := [], nat := [], only := [] } Try.f48 = some c_slices_Chunk_int_int__1 := by kernel_rfl
theorem k49 : compFn Try.prog false { grow := false, flat := [], nat := [], only := [] } Try.f49 = some c_cmp_Less_int := by kernel_rfl
theorem k50 : compFn Try.prog false { grow := false, flat := [], nat := [], only := [] } Try.f50 = some c_z_isNaN_int := by kernel_rfl
theorem k51 : compFn Try.prog false { grow := false, flat := [], nat := [], only := [] } Try.f51 = some c_r_ChannelErr := by kernel_rfl
theorem k52 : compFn Try.prog false { grow := false, flat := [], nat := [], only := [] } Try.f52 = some c_r_BytesErr := by kernel_rfl
theorem k53 : compFn Try.prog false { grow := false, flat := [], nat := [], only := [] } Try.f53 = some c_frame_each_api_FrameFrame := by kernel_rfl
theorem k54 : compFn Try.prog false { grow := false, flat := [], nat := [], only := [] } Try.f54 = some c_frame_link_frameErr := by kernel_rfl
theorem k55 : compFn Try.prog false { grow := false, flat := [], nat := [], only := [] } Try.f55 = some c_z_SortStableFunc_numbered := by kernel_rfl
theorem k56 : compFn Try.prog false { grow := false, flat := [], nat := [], only := [] } Try.f56 = some c_frame_ordered_1 := by kernel_rfl
theorem k57 : compFn Try.prog false { grow := false, flat := [], nat := [], only := [] } Try.f57 = some c_cmp_Compare_int := by kernel_rfl
theorem k58 : compFn Try.prog false { grow := false, flat := [], nat := [], only := [] } Try.f58 = some c_z_CompactFunc_numbered := by kernel_rfl
theorem k59 : compFn Try.prog false { grow := false, flat := [], nat := [], only := [] } Try.f59 = some c_frame_ordered_2 := by kernel_rfl
theorem k60 : compFn Try.prog false { grow := false, flat := [], nat := [], only := [] } Try.f60 = some c_frame_reader_expected := by kernel_rfl
theorem k61 : compFn Try.prog false { grow := false, flat := [], nat := [], only := [] } Try.f61 = some c_frame_reader_close := by kernel_rfl
theorem k62 : compFn Try.prog false { grow := false, flat := [73], nat := [], only := [], place := true } Try.f62 = some c_z_Concat_int := by kernel_rfl
theorem k63 : compFn Try.prog false { grow := false, flat := [], nat := [], only := [] } Try.f63 = some c_frame_CheckPairs_1 := by kernel_rfl
theorem k64 : compFn Try.prog false { grow := false, flat := [], nat := [], only := [] } Try.f64 = some c_frame_rates := by kernel_rfl
theorem k65 : compFn Try.prog false { grow := false, flat := [], nat := [], only := [] } Try.f65 = some c_frame_less := by kernel_rfl
theorem k66 : compFn Try.prog false { grow := false, flat := [], nat := [], only := [] } Try.f66 = some c_frame_chords_1 := by kernel_rfl
theorem k67 : compFn Try.prog false { grow := false, flat := [], nat := [], only := [] } Try.f67 = some c_frame_chord_fits := by kernel_rfl
theorem k68 : compFn Try.prog false { grow := false, flat := [], nat := [], only := [] } Try.f68 = some c_frame_CheckRules := by kernel_rfl
theorem k69 : compFn Try.prog false { grow := false, flat := [], nat := [], only := [] } Try.f69 = some c_frame_isByte := by kernel_rfl
theorem k70 : compFn Try.prog false { grow := false, flat := [], nat := [], only := [] } Try.f70 = some c_frame_bytesErr := by kernel_rfl
theorem k71 : compFn Try.prog false { grow := false, flat := [], nat := [], only := [] } Try.f71 = some c_cmp_isNaN_int := by kernel_rfl
theorem k72 : compFn Try.prog false { grow := false, flat := [], nat := [], only := [] } Try.f72 = some c_z_stableCmpFunc_numbered := by kernel_rfl
theorem k73 : compFn Try.prog false { grow := false, flat := [], nat := [], only := [], place := true } Try.f73 = some c_z_Grow_int := by kernel_rfl
theorem k74 : compFn Try.prog false { grow := false, flat := [], nat := [], only := [] } Try.f74 = some c_frame_lowest := by kernel_rfl
theorem k75 : compFn Try.prog false { grow := false, flat := [], nat := [], only := [] } Try.f75 = some c_frame_each_int := by kernel_rfl
theorem k76 : compFn Try.prog false { grow := false, flat := [], nat := [], only := [] } Try.f76 = some c_frame_bytesErr_1 := by kernel_rfl
theorem k77 : compFn Try.prog false { grow := false, flat := [], nat := [], only := [] } Try.f77 = some c_z_insertionSortCmpFunc_numbered := by kernel_rfl

theorem code_ok (f : FuncId) (np nt : Nat) (b : ACode) (rs : List ARes) (own : Bool) (h : AP f = some (.code np nt b rs own)) : ∃ fn mu, Try.prog.funcs[f]? = some fn ∧ compFn Try.prog own mu fn = some (.code np nt b rs own) := by
  match f, h with
  | 0, h => have e : AP 0 = none := rfl; rw [e] at h; cases h
  | 1, h => have e : AP 1 = none := rfl; rw [e] at h; cases h
  | 2, h => have e : AP 2 = none := rfl; rw [e] at h; cases h
  | 3, h => have e : c_t_TopFrameClockSent = .code np nt b rs own := Option.some.inj h; unfold c_t_TopFrameClockSent at e; cases e; exact ⟨_, _, Try.func3, k3⟩
  | 4, h => have e : c_t_frameShown = .code np nt b rs own := Option.some.inj h; unfold c_t_frameShown at e; cases e; exact ⟨_, _, Try.func4, k4⟩
  | 5, h => have e : c_r_RulesErr = .code np nt b rs own := Option.some.inj h; unfold c_r_RulesErr at e; cases e; exact ⟨_, _, Try.func5, k5⟩
  | 6, h => have e : c_r_PairsErr = .code np nt b rs own := Option.some.inj h; unfold c_r_PairsErr at e; cases e; exact ⟨_, _, Try.func6, k6⟩
  | 7, h => have e : c_frame_Packed = .code np nt b rs own := Option.some.inj h; unfold c_frame_Packed at e; cases e; exact ⟨_, _, Try.func7, k7⟩
  | 8, h => have e : c_r_CopyFrame = .code np nt b rs own := Option.some.inj h; unfold c_r_CopyFrame at e; cases e; exact ⟨_, _, Try.func8, k8⟩
  | 9, h => have e : c_r_FramesErr = .code np nt b rs own := Option.some.inj h; unfold c_r_FramesErr at e; cases e; exact ⟨_, _, Try.func9, k9⟩
  | 10, h => have e : c_frame_Extracted = .code np nt b rs own := Option.some.inj h; unfold c_frame_Extracted at e; cases e; exact ⟨_, _, Try.func10, k10⟩
  | 11, h => have e : c_b_Within = .code np nt b rs own := Option.some.inj h; unfold c_b_Within at e; cases e; exact ⟨_, _, Try.func11, k11⟩
  | 12, h => have e : c_frame_PiecesOf = .code np nt b rs own := Option.some.inj h; unfold c_frame_PiecesOf at e; cases e; exact ⟨_, _, Try.func12, k12⟩
  | 13, h => have e : c_r_CopyPairs = .code np nt b rs own := Option.some.inj h; unfold c_r_CopyPairs at e; cases e; exact ⟨_, _, Try.func13, k13⟩
  | 14, h => have e : c_frame_TimeAt = .code np nt b rs own := Option.some.inj h; unfold c_frame_TimeAt at e; cases e; exact ⟨_, _, Try.func14, k14⟩
  | 15, h => have e : c_l_Rules = .code np nt b rs own := Option.some.inj h; unfold c_l_Rules at e; cases e; exact ⟨_, _, Try.func15, k15⟩
  | 16, h => have e : c_l_Packets = .code np nt b rs own := Option.some.inj h; unfold c_l_Packets at e; cases e; exact ⟨_, _, Try.func16, k16⟩
  | 17, h => have e : c_l_Pairs = .code np nt b rs own := Option.some.inj h; unfold c_l_Pairs at e; cases e; exact ⟨_, _, Try.func17, k17⟩
  | 18, h => have e : c_b_Ranges = .code np nt b rs own := Option.some.inj h; unfold c_b_Ranges at e; cases e; exact ⟨_, _, Try.func18, k18⟩
  | 19, h => have e : c_r_CheckPairs = .code np nt b rs own := Option.some.inj h; unfold c_r_CheckPairs at e; cases e; exact ⟨_, _, Try.func19, k19⟩
  | 20, h => have e : c_frame_openChannel = .code np nt b rs own := Option.some.inj h; unfold c_frame_openChannel at e; cases e; exact ⟨_, _, Try.func20, k20⟩
  | 21, h => have e : c_frame_first = .code np nt b rs own := Option.some.inj h; unfold c_frame_first at e; cases e; exact ⟨_, _, Try.func21, k21⟩
  | 22, h => have e : c_frame_unless = .code np nt b rs own := Option.some.inj h; unfold c_frame_unless at e; cases e; exact ⟨_, _, Try.func22, k22⟩
  | 23, h => have e : c_frame_isCount = .code np nt b rs own := Option.some.inj h; unfold c_frame_isCount at e; cases e; exact ⟨_, _, Try.func23, k23⟩
  | 24, h => have e : c_frame_packetsErr = .code np nt b rs own := Option.some.inj h; unfold c_frame_packetsErr at e; cases e; exact ⟨_, _, Try.func24, k24⟩
  | 25, h => have e : c_frame_stream = .code np nt b rs own := Option.some.inj h; unfold c_frame_stream at e; cases e; exact ⟨_, _, Try.func25, k25⟩
  | 26, h => have e : c_frame_link_filled = .code np nt b rs own := Option.some.inj h; unfold c_frame_link_filled at e; cases e; exact ⟨_, _, Try.func26, k26⟩
  | 27, h => have e : c_z_Chunk_int = .code np nt b rs own := Option.some.inj h; unfold c_z_Chunk_int at e; cases e; exact ⟨_, _, Try.func27, k27⟩
  | 28, h => have e : c_z_Clone_int = .code np nt b rs own := Option.some.inj h; unfold c_z_Clone_int at e; cases e; exact ⟨_, _, Try.func28, k28⟩
  | 29, h => have e : c_z_BinarySearch_int = .code np nt b rs own := Option.some.inj h; unfold c_z_BinarySearch_int at e; cases e; exact ⟨_, _, Try.func29, k29⟩
  | 30, h => have e : c_b_CopyInts = .code np nt b rs own := Option.some.inj h; unfold c_b_CopyInts at e; cases e; exact ⟨_, _, Try.func30, k30⟩
  | 31, h => have e : c_r_FrameErr = .code np nt b rs own := Option.some.inj h; unfold c_r_FrameErr at e; cases e; exact ⟨_, _, Try.func31, k31⟩
  | 32, h => have e : c_frame_openFrames = .code np nt b rs own := Option.some.inj h; unfold c_frame_openFrames at e; cases e; exact ⟨_, _, Try.func32, k32⟩
  | 33, h => have e : c_frame_ordered = .code np nt b rs own := Option.some.inj h; unfold c_frame_ordered at e; cases e; exact ⟨_, _, Try.func33, k33⟩
  | 34, h => have e : c_frame_reader_read = .code np nt b rs own := Option.some.inj h; unfold c_frame_reader_read at e; cases e; exact ⟨_, _, Try.func34, k34⟩
  | 35, h => have e : c_frame_CheckPairs = .code np nt b rs own := Option.some.inj h; unfold c_frame_CheckPairs at e; cases e; exact ⟨_, _, Try.func35, k35⟩
  | 36, h => have e : c_frame_isLine = .code np nt b rs own := Option.some.inj h; unfold c_frame_isLine at e; cases e; exact ⟨_, _, Try.func36, k36⟩
  | 37, h => have e : c_frame_linesErr = .code np nt b rs own := Option.some.inj h; unfold c_frame_linesErr at e; cases e; exact ⟨_, _, Try.func37, k37⟩
  | 38, h => have e : c_frame_within = .code np nt b rs own := Option.some.inj h; unfold c_frame_within at e; cases e; exact ⟨_, _, Try.func38, k38⟩
  | 39, h => have e : c_frame_chords = .code np nt b rs own := Option.some.inj h; unfold c_frame_chords at e; cases e; exact ⟨_, _, Try.func39, k39⟩
  | 40, h => have e : c_frame_chord_at = .code np nt b rs own := Option.some.inj h; unfold c_frame_chord_at at e; cases e; exact ⟨_, _, Try.func40, k40⟩
  | 41, h => have e : c_frame_floor = .code np nt b rs own := Option.some.inj h; unfold c_frame_floor at e; cases e; exact ⟨_, _, Try.func41, k41⟩
  | 42, h => have e : c_frame_chord_den = .code np nt b rs own := Option.some.inj h; unfold c_frame_chord_den at e; cases e; exact ⟨_, _, Try.func42, k42⟩
  | 43, h => have e : c_frame_open = .code np nt b rs own := Option.some.inj h; unfold c_frame_open at e; cases e; exact ⟨_, _, Try.func43, k43⟩
  | 44, h => have e : c_frame_link_channelErr = .code np nt b rs own := Option.some.inj h; unfold c_frame_link_channelErr at e; cases e; exact ⟨_, _, Try.func44, k44⟩
  | 45, h => have e : c_frame_each_api_FramePacket = .code np nt b rs own := Option.some.inj h; unfold c_frame_each_api_FramePacket at e; cases e; exact ⟨_, _, Try.func45, k45⟩
  | 46, h => have e : c_frame_CheckPacket = .code np nt b rs own := Option.some.inj h; unfold c_frame_CheckPacket at e; cases e; exact ⟨_, _, Try.func46, k46⟩
  | 47, h => have e : c_z_Clone_FramePacket = .code np nt b rs own := Option.some.inj h; unfold c_z_Clone_FramePacket at e; cases e; exact ⟨_, _, Try.func47, k47⟩
  | 48, h => have e : c_slices_Chunk_int_int__1 = .code np nt b rs own := Option.some.inj h; unfold c_slices_Chunk_int_int__1 at e; cases e; exact ⟨_, _, Try.func48, k48⟩
  | 49, h => have e : c_cmp_Less_int = .code np nt b rs own := Option.some.inj h; unfold c_cmp_Less_int at e; cases e; exact ⟨_, _, Try.func49, k49⟩
  | 50, h => have e : c_z_isNaN_int = .code np nt b rs own := Option.some.inj h; unfold c_z_isNaN_int at e; cases e; exact ⟨_, _, Try.func50, k50⟩
  | 51, h => have e : c_r_ChannelErr = .code np nt b rs own := Option.some.inj h; unfold c_r_ChannelErr at e; cases e; exact ⟨_, _, Try.func51, k51⟩
  | 52, h => have e : c_r_BytesErr = .code np nt b rs own := Option.some.inj h; unfold c_r_BytesErr at e; cases e; exact ⟨_, _, Try.func52, k52⟩
  | 53, h => have e : c_frame_each_api_FrameFrame = .code np nt b rs own := Option.some.inj h; unfold c_frame_each_api_FrameFrame at e; cases e; exact ⟨_, _, Try.func53, k53⟩
  | 54, h => have e : c_frame_link_frameErr = .code np nt b rs own := Option.some.inj h; unfold c_frame_link_frameErr at e; cases e; exact ⟨_, _, Try.func54, k54⟩
  | 55, h => have e : c_z_SortStableFunc_numbered = .code np nt b rs own := Option.some.inj h; unfold c_z_SortStableFunc_numbered at e; cases e; exact ⟨_, _, Try.func55, k55⟩
  | 56, h => have e : c_frame_ordered_1 = .code np nt b rs own := Option.some.inj h; unfold c_frame_ordered_1 at e; cases e; exact ⟨_, _, Try.func56, k56⟩
  | 57, h => have e : c_cmp_Compare_int = .code np nt b rs own := Option.some.inj h; unfold c_cmp_Compare_int at e; cases e; exact ⟨_, _, Try.func57, k57⟩
  | 58, h => have e : c_z_CompactFunc_numbered = .code np nt b rs own := Option.some.inj h; unfold c_z_CompactFunc_numbered at e; cases e; exact ⟨_, _, Try.func58, k58⟩
  | 59, h => have e : c_frame_ordered_2 = .code np nt b rs own := Option.some.inj h; unfold c_frame_ordered_2 at e; cases e; exact ⟨_, _, Try.func59, k59⟩
  | 60, h => have e : c_frame_reader_expected = .code np nt b rs own := Option.some.inj h; unfold c_frame_reader_expected at e; cases e; exact ⟨_, _, Try.func60, k60⟩
  | 61, h => have e : c_frame_reader_close = .code np nt b rs own := Option.some.inj h; unfold c_frame_reader_close at e; cases e; exact ⟨_, _, Try.func61, k61⟩
  | 62, h => have e : c_z_Concat_int = .code np nt b rs own := Option.some.inj h; unfold c_z_Concat_int at e; cases e; exact ⟨_, _, Try.func62, k62⟩
  | 63, h => have e : c_frame_CheckPairs_1 = .code np nt b rs own := Option.some.inj h; unfold c_frame_CheckPairs_1 at e; cases e; exact ⟨_, _, Try.func63, k63⟩
  | 64, h => have e : c_frame_rates = .code np nt b rs own := Option.some.inj h; unfold c_frame_rates at e; cases e; exact ⟨_, _, Try.func64, k64⟩
  | 65, h => have e : c_frame_less = .code np nt b rs own := Option.some.inj h; unfold c_frame_less at e; cases e; exact ⟨_, _, Try.func65, k65⟩
  | 66, h => have e : c_frame_chords_1 = .code np nt b rs own := Option.some.inj h; unfold c_frame_chords_1 at e; cases e; exact ⟨_, _, Try.func66, k66⟩
  | 67, h => have e : c_frame_chord_fits = .code np nt b rs own := Option.some.inj h; unfold c_frame_chord_fits at e; cases e; exact ⟨_, _, Try.func67, k67⟩
  | 68, h => have e : c_frame_CheckRules = .code np nt b rs own := Option.some.inj h; unfold c_frame_CheckRules at e; cases e; exact ⟨_, _, Try.func68, k68⟩
  | 69, h => have e : c_frame_isByte = .code np nt b rs own := Option.some.inj h; unfold c_frame_isByte at e; cases e; exact ⟨_, _, Try.func69, k69⟩
  | 70, h => have e : c_frame_bytesErr = .code np nt b rs own := Option.some.inj h; unfold c_frame_bytesErr at e; cases e; exact ⟨_, _, Try.func70, k70⟩
  | 71, h => have e : c_cmp_isNaN_int = .code np nt b rs own := Option.some.inj h; unfold c_cmp_isNaN_int at e; cases e; exact ⟨_, _, Try.func71, k71⟩
  | 72, h => have e : c_z_stableCmpFunc_numbered = .code np nt b rs own := Option.some.inj h; unfold c_z_stableCmpFunc_numbered at e; cases e; exact ⟨_, _, Try.func72, k72⟩
  | 73, h => have e : c_z_Grow_int = .code np nt b rs own := Option.some.inj h; unfold c_z_Grow_int at e; cases e; exact ⟨_, _, Try.func73, k73⟩
  | 74, h => have e : c_frame_lowest = .code np nt b rs own := Option.some.inj h; unfold c_frame_lowest at e; cases e; exact ⟨_, _, Try.func74, k74⟩
  | 75, h => have e : c_frame_each_int = .code np nt b rs own := Option.some.inj h; unfold c_frame_each_int at e; cases e; exact ⟨_, _, Try.func75, k75⟩
  | 76, h => have e : c_frame_bytesErr_1 = .code np nt b rs own := Option.some.inj h; unfold c_frame_bytesErr_1 at e; cases e; exact ⟨_, _, Try.func76, k76⟩
  | 77, h => have e : c_z_insertionSortCmpFunc_numbered = .code np nt b rs own := Option.some.inj h; unfold c_z_insertionSortCmpFunc_numbered at e; cases e; exact ⟨_, _, Try.func77, k77⟩
  | m + 78, h => have e : AP (m + 78) = none := rfl; rw [e] at h; cases h


abbrev KW : World → Prop := fun _ => True

theorem tab_at {p : AFn → Nat → Bool} (h : (tab.zipIdx.all fun q => match q.1 with | some a => p a q.2 | none => true) = true) {f : FuncId} {a : AFn} (e : AP f = some a) : p a f = true := by
  unfold AP at e
  have e2 : tab[f]? = some (some a) := by
    cases h2 : tab[f]? with
    | none => rw [h2] at e; cases e
    | some x => rw [h2] at e; cases x with
      | none => cases e
      | some y => injection e with e; rw [e]
  have := List.all_eq_true.1 h (some a, f) (List.mem_zipIdx_iff_getElem?.2 e2)
  exact this
def primB (a : AFn) (i : Nat) : Bool := match a with | .prim _ => [].contains i | _ => true
def natB (a : AFn) (i : Nat) : Bool := match a with | .nat _ => [].contains i | _ => true
theorem prims : (tab.zipIdx.all fun q => match q.1 with | some a => primB a q.2 | none => true) = true := by kernel_rfl
theorem nats : (tab.zipIdx.all fun q => match q.1 with | some a => natB a q.2 | none => true) = true := by kernel_rfl

theorem prim_ok (f : FuncId) (F : List AV → Option AV) (h : AP f = some (.prim F)) : HasBody Try.prog f ∧ PrimOk Try.prog KW f F := by
  have hb := tab_at prims h
  cases hb

theorem nat_ok (f : FuncId) (F : List AV → Option AV) (h : AP f = some (.nat F)) : NatOk Try.prog f F := by
  have hb := tab_at nats h
  cases hb

theorem prog_ok : ProgOk Try.prog AP KW := ⟨by kernel_rfl, code_ok, prim_ok, nat_ok⟩
end Go.Proofs.Ytehlallciamkoaa.AxOk
