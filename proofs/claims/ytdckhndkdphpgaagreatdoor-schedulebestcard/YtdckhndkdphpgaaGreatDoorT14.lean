/-
  What a week is among the values that an argument may read as.
-/
import Derived.Test.YtdckhndkdphpgaaGreatDoorT13
import Derived.Test.YtdckhndkdphpgaaGreatDoorT12
import Derived.Test.YtdckhndkdphpgaaGreatDoorT7
namespace Go.Ax.Sx.Sc
open Go.Ax
set_option linter.unusedSimpArgs false
set_option linter.unusedVariables false
set_option maxRecDepth 100000

section
variable {s : Sig} {w : W}

theorem valP_cP : ∀ {l : List P}, valP w (l.map cP) = valP w l
  | [] => rfl
  | p :: r => by
    simp only [List.map_cons, valP, valP_cP (l := r)]; rfl
theorem befP_cP : ∀ {a b : List P}, befP (a.map cP) (b.map cP) = befP a b
  | [], [] => rfl
  | [], _ :: _ => rfl
  | _ :: _, [] => rfl
  | x :: r, y :: t => by
    have h := befP_cP (a := r) (b := t)
    simp only [List.map_cons, befP, h]; rfl
theorem better_cP {a b : List P} : better w (a.map cP) (b.map cP) = better w a b := by
  unfold better; rw [valP_cP, valP_cP, befP_cP]

def bestY (w : W) (b : Sl P) (l : List (Sl P)) : Sl P := l.foldl (fun b x => if better w x.l b.l = true then x else b) b
theorem bestY_cP : ∀ {l : List (Sl P)} {b : Sl P}, (bestY w b l).l.map cP = bestF w (b.l.map cP) (l.map fun y => y.l.map cP)
  | [], b => rfl
  | x :: r, b => by
    have e1 : bestY w b (x :: r) = bestY w (if better w x.l b.l = true then x else b) r := rfl
    have e2 : bestF w (b.l.map cP) ((x :: r).map fun y => y.l.map cP) = bestF w (if better w (x.l.map cP) (b.l.map cP) = true then x.l.map cP else b.l.map cP) (r.map fun y => y.l.map cP) := rfl
    rw [e1, e2, bestY_cP, better_cP]
    split <;> rfl

theorem YOk.sm {y : Sl P} (h : YOk w y) : SmOk y.l := ⟨by have := h.pl.len; omega, fun p hp => ⟨(h.pl.ok p hp).1, by have := (h.pl.ok p hp).2; omega⟩⟩

abbrev rqs (n : Nat) : List Int := (List.range n).map fun i : Nat => (i : Int)

theorem r_Best (hs : Ok s) (hw : Wk w) (hN : plsN w 0 w.rs.l.length ≤ 4294967296) :
    ∃ y : Sl P, callL AP (.fn 9) [w.v] s = some (.tuple [y.v rowP, I (valP w y.l)], s) ∧ YOk w y ∧ ∃ (b : List P) (r : List (List P)), pls w (rqs w.rs.l.length) 0 w.rs.l.length [] = b :: r ∧ y.l.map cP = bestF w b r := by
  have hrl := hw.v.rl
  have hall : ∀ m : Sig, Ok m → callL AP (.fn 24) [w.v] m = some ((acS 1 (rqs w.rs.l.length)).v rowI, m) := fun m hm => by rw [r_All hm (by omega), acS_v]
  have hq1 : (rqs w.rs.l.length) = [] ∨ (acS 1 (rqs w.rs.l.length)).e = 1 := by
    cases rqs w.rs.l.length with
    | nil => exact .inl rfl
    | cons _ _ => exact .inr rfl
  obtain ⟨Y, x, tk', hc, hA, _, hY, hYo⟩ := r_Plans (Q := s) (bx := [rowW w]) (tk := []) (l := []) (o := .nilS) (e := 0) (o2 := (acS 1 (rqs w.rs.l.length)).o) hw hq1 (by simp; omega) w.rs.l.length 0 hs (by omega) hN ⟨by simp, fun p hp => absurd hp (by simp)⟩ (by simp) (fun p hp => absurd hp (by simp)) (.inl rfl) (fun _ => rfl)
  have hYl : Y.length ≤ 4294967296 := by
    have h1 := pls_len (w := w) (rq := rqs w.rs.l.length) (k := w.rs.l.length) (i := 0) (l := [].map cP)
    rw [← hY, List.length_map] at h1
    omega
  cases Y with
  | nil => exact absurd hY.symm (fun h => pls_ne h)
  | cons y0 Y =>
    obtain ⟨xo, rfl⟩ := hA.sl
    obtain ⟨Z, hZ⟩ : ∃ Z, Z = (y0 :: Y).map fun y => [AV.slice y.o y.e (y.l.map rowP)] := ⟨_, rfl⟩
    have hZl : Z.length = Y.length + 1 := by rw [hZ, List.length_map, List.length_cons]
    have key : ∀ (d j : Nat) (ρ : Nat → AV) (m : Sig), j + d = Y.length → (ρ 1 = .ptr s.acts.length 0 0 ∧ ρ 4 = .slice xo 1 Z ∧ ρ 6 = I ((j + 1 : Nat) : Int) ∧ (∃ b : Sl P, ρ 5 = b.v rowP ∧ YOk w b ∧ bestY w b (Y.drop j) = bestY w y0 Y) ∧ ∃ bx tk, m = s.push ⟨rowW w :: bx, tk⟩) →
        YOk w (bestY w y0 Y) ∧ go AP f_r_Best (.c (.loop b_r_Best_l0) :: k_r_Best_0) ⟨ρ, m⟩ = some (.tuple [(bestY w y0 Y).v rowP, I (valP w (bestY w y0 Y).l)], s) := by
      intro d
      induction d with
      | zero =>
        rintro j ρ m hj ⟨g1, g4, g6, ⟨b, g5, hb, he⟩, bx, tk, rfl⟩
        have hj2 : j = Y.length := by omega
        subst hj2
        rw [List.drop_length] at he
        have he : b = bestY w y0 Y := he
        rw [← he]
        refine ⟨hb, ?_⟩
        have hv : ∀ r, callL AP (.fn 25) [w.v, b.v rowP] (s.push r) = some (I (valP w b.l), s.push r) := fun r => r_ValueOf (hs.push r) hw hb.pl.len hb.pin hb.ok.1
        have hlv := fun m : Sig => Sl.leave (f := rowP) (m := m) hb.ok
        have d1 : decide (((Y.length + 1 : Nat) : Int) < ((Y.length + 1 : Nat) : Int)) = false := by simp
        simp only [W.v, rowW, Sl.v] at hv hlv g5
        rw [go_loop]
        simp (maxSteps := 1000000) only [go_sem, b_r_Best_l0, b_r_Best_r0, g1, g4, g5, g6, hZl, d1, hv, hlv, Nat.reduceEqDiff, ↓reduceIte]
      | succ d ih =>
        rintro j ρ m hj ⟨g1, g4, g6, ⟨b, g5, hb, he⟩, bx, tk, rfl⟩
        obtain ⟨y, hy⟩ := get_some (show j < Y.length by omega)
        have hyo := hYo y (List.mem_cons_of_mem _ (List.mem_of_getElem? hy))
        have hix : indexAddrOp none 1 (.slice xo 1 Z) (I ((j + 1 : Nat) : Int)) = some (.eptr [y.v rowP] 0) := ix_sl (by rw [hZ, List.getElem?_map, List.getElem?_cons_succ, hy]; rfl)
        have hv : ∀ r, callL AP (.fn 25) [w.v, b.v rowP] (s.push r) = some (I (valP w b.l), s.push r) := fun r => r_ValueOf (hs.push r) hw hb.pl.len hb.pin hb.ok.1
        have hvy : ∀ m : Sig, Ok m → callL AP (.fn 25) [w.v, y.v rowP] m = some (I (valP w y.l), m) := fun m hm => r_ValueOf hm hw hyo.pl.len hyo.pin hyo.ok.1
        have hbf : ∀ r, callL AP (.fn 26) [y.v rowP, b.v rowP] (s.push r) = some (B (befP y.l b.l), s.push r) := fun r => r_Before (hs.push r) hyo.ok.1 hb.ok.1 hyo.sm hb.sm
        have d1 : decide (((j + 1 : Nat) : Int) < ((Y.length + 1 : Nat) : Int)) = true := by simp; omega
        have w1 : IntKind.i64.wrap (((j + 1 : Nat) : Int) + 1) = ((j + 1 + 1 : Nat) : Int) := by
          rw [List.length_cons] at hYl
          rw [wrap_id (by omega) (by omega)]; omega
        have hnx : bestY w (if better w y.l b.l = true then y else b) (Y.drop (j + 1)) = bestY w y0 Y := by
          rw [← he, drop_get hy]; rfl
        rw [go_loop]
        cases hg : decide (valP w b.l < valP w y.l) with
        | true =>
          have hbt : better w y.l b.l = true := by unfold better; rw [hg]; rfl
          rw [if_pos hbt] at hnx
          simp only [W.v, rowW, Sl.v] at hv hvy hbf hix g5
          simp (maxSteps := 1000000) only [go_sem, b_r_Best_l0, g1, g4, g5, g6, hZl, d1, w1, hix, hv, hvy, hg, Nat.reduceEqDiff, ↓reduceIte]
          refine ih (j + 1) _ _ (by omega) ?_
          exact ⟨g1, g4, rfl, ⟨y, rfl, hyo, hnx⟩, bx, _, rfl⟩
        | false =>
          have hbt : better w y.l b.l = (decide (valP w y.l = valP w b.l) && befP y.l b.l) := by unfold better; rw [hg]; rfl
          rw [hbt] at hnx
          simp only [W.v, rowW, Sl.v] at hv hvy hbf hix g5
          cases hq : decide (valP w y.l = valP w b.l) with
          | false =>
            rw [hq, Bool.false_and, if_neg (by decide)] at hnx
            simp (maxSteps := 1000000) only [go_sem, b_r_Best_l0, g1, g4, g5, g6, hZl, d1, w1, hix, hv, hvy, hg, hq, Nat.reduceEqDiff, ↓reduceIte]
            refine ih (j + 1) _ _ (by omega) ?_
            exact ⟨g1, g4, rfl, ⟨b, g5, hb, hnx⟩, bx, _, rfl⟩
          | true =>
            rw [hq, Bool.true_and] at hnx
            cases hf : befP y.l b.l with
            | false =>
              rw [hf] at hbf
              rw [hf, if_neg (by decide)] at hnx
              simp (maxSteps := 1000000) only [go_sem, b_r_Best_l0, g1, g4, g5, g6, hZl, d1, w1, hix, hv, hvy, hg, hq, hbf, Nat.reduceEqDiff, ↓reduceIte]
              refine ih (j + 1) _ _ (by omega) ?_
              exact ⟨g1, g4, rfl, ⟨b, g5, hb, hnx⟩, bx, _, rfl⟩
            | true =>
              rw [hf] at hbf
              rw [hf, if_pos rfl] at hnx
              simp (maxSteps := 1000000) only [go_sem, b_r_Best_l0, g1, g4, g5, g6, hZl, d1, w1, hix, hv, hvy, hg, hq, hbf, Nat.reduceEqDiff, ↓reduceIte]
              refine ih (j + 1) _ _ (by omega) ?_
              exact ⟨g1, g4, rfl, ⟨y, rfl, hyo, hnx⟩, bx, _, rfl⟩
    have hix0 : indexAddrOp none 1 (.slice xo 1 Z) (I 0) = some (.eptr [y0.v rowP] 0) := ix_sl (k := 0) (by rw [hZ]; rfl)
    have hy0 := hYo y0 (by simp)
    have hal2 := fun r => hall (roS (s.push r)) ok_roS
    have key := key Y.length 0
    rw [List.map_cons, List.map_nil] at hY
    refine ⟨bestY w y0 Y, ?_, ?_, y0.l.map cP, Y.map (fun y => y.l.map cP), hY.symm, bestY_cP⟩
    · simp only [W.v, rowW, Sl.v] at hal2 hc hix0
      have hc0 : callL AP (.fn 23) [.agg [I w.slots, .slice w.as.o w.as.e (w.as.l.map rowA), .slice w.rs.o w.rs.e (w.rs.l.map rowR)], .slice .nilS 0 [], I 0, .slice (acS 1 (rqs w.rs.l.length)).o (acS 1 (rqs w.rs.l.length)).e ((acS 1 (rqs w.rs.l.length)).l.map rowI)] (s.push ⟨[[I w.slots, .slice w.as.o w.as.e (w.as.l.map rowA), .slice w.rs.o w.rs.e (w.rs.l.map rowR)]], []⟩) = some (.slice xo 1 Z, s.push ⟨[[I w.slots, .slice w.as.o w.as.e (w.as.l.map rowA), .slice w.rs.o w.rs.e (w.rs.l.map rowR)]], tk'⟩) := by
        rw [acS_l, hZ]; exact hc
      rw [callL_go (show AP 9 = some c_r_Best from rfl) rfl]
      simp (maxSteps := 1000000) only [go_sem, b_r_Best, hal2, hc0, hix0, Nat.reduceEqDiff, Nat.reduceAdd, ↓reduceIte]
      refine (key _ _ (by omega) ?_).2
      exact ⟨rfl, rfl, rfl, ⟨y0, rfl, hy0, rfl⟩, [], tk', rfl⟩
    · refine (key (fun q => if q = 1 then .ptr s.acts.length 0 0 else if q = 4 then .slice xo 1 Z else if q = 6 then I ((0 + 1 : Nat) : Int) else if q = 5 then y0.v rowP else .undef) (s.push ⟨[rowW w], []⟩) (by omega) ?_).1
      exact ⟨rfl, rfl, rfl, ⟨y0, rfl, hy0, rfl⟩, [], [], rfl⟩

theorem Wk.c (hw : Wk w) (h0 : (weekE w).2.2 = 0) : Wk (cW w) := ⟨cW_Ok, cW_Few hw.few, weekE_ok (by rw [weekE_c]; exact h0)⟩

theorem pls_c (hw : Wk w) {rq : List Int} : ∀ {k i : Nat} {l : List P}, i + k = w.rs.l.length → (∀ x ∈ l, 0 ≤ x.req ∧ x.req < w.rs.l.length) → pls (cW w) rq i k l = pls w rq i k l
  | 0, _, _, _, _ => rfl
  | k + 1, i, l, hk, hl => by
    simp only [pls]
    rw [pls_c hw (k := k) (i := i + 1) (by omega) hl, ← plcs_cP (w := cW w), plcs_c hw (by omega) (by omega) hl]
    congr 1
    split
    · have : ∀ L : List P, (∀ p ∈ L, p ∈ plcs w l (i : Int)) → (L.flatMap fun p => pls (cW w) rq (i + 1) k (l ++ [p])) = L.flatMap fun p => pls w rq (i + 1) k (l ++ [p]) := by
        intro L
        induction L with
        | nil => intro _; rfl
        | cons a L ih =>
          intro h
          have ha := h a (by simp)
          obtain ⟨hpin, _⟩ := poss_in hw (show (0 : Int) ≤ (i : Int) by omega) (by omega) (List.mem_filter.1 ha).1
          rw [List.flatMap_cons, List.flatMap_cons, ih fun p hp => h p (List.mem_cons_of_mem _ hp), pls_c hw (k := k) (i := i + 1) (by omega) fun x hx => by
            rw [List.mem_append, List.mem_singleton] at hx
            rcases hx with hx | rfl
            · exact hl x hx
            · exact ⟨hpin.r0, hpin.r1⟩]
      exact this _ fun _ h => h
    · rfl

theorem better_c {a b : List P} (ha : ∀ x ∈ a, 0 ≤ x.req ∧ x.req < w.rs.l.length) (hb : ∀ x ∈ b, 0 ≤ x.req ∧ x.req < w.rs.l.length) : better (cW w) a b = better w a b := by
  unfold better
  rw [← valP_cP (w := cW w) (l := a), valP_c ha, ← valP_cP (w := cW w) (l := b), valP_c hb]
theorem bestF_c : ∀ {l : List (List P)} {b : List P}, (∀ x ∈ b, 0 ≤ x.req ∧ x.req < w.rs.l.length) → (∀ a ∈ l, ∀ x ∈ a, 0 ≤ x.req ∧ x.req < w.rs.l.length) → bestF (cW w) b l = bestF w b l
  | [], _, _, _ => rfl
  | x :: r, b, hb, hl => by
    have hx := hl x (by simp)
    show bestF (cW w) (if better (cW w) x b = true then x else b) r = bestF w (if better w x b = true then x else b) r
    rw [better_c hx hb]
    refine bestF_c ?_ fun a ha => hl a (List.mem_cons_of_mem _ ha)
    split
    · exact hx
    · exact hb

theorem best_c (hw : Wk w) (h0 : (weekE w).2.2 = 0) : (bestW (cW w)).1 = (bestW w).1 ∧ (bestW (cW w)).2.1 = (bestW w).2.1 := by
  have hrq : ∀ i : Nat, i < w.rs.l.length → (i : Int) ∈ rqs w.rs.l.length := fun i hi => List.mem_map.2 ⟨i, List.mem_range.2 hi, rfl⟩
  have hpc := pls_c hw (rq := rqs w.rs.l.length) (k := w.rs.l.length) (i := 0) (l := []) (by omega) (fun x hx => absurd hx (by simp))
  cases hp : pls w (rqs w.rs.l.length) 0 w.rs.l.length [] with
  | nil => exact absurd hp pls_ne
  | cons b r =>
    have hin : ∀ X ∈ b :: r, ∀ x ∈ X, 0 ≤ x.req ∧ x.req < w.rs.l.length := fun X hX x hx => by
      rw [← hp, pls_iff hw (by omega) VP.nil (fun p hp => absurd hp (by simp))] at hX
      have := hX.1.mem x hx
      exact ⟨this.1, this.2.1⟩
    have h1 := best_ref hw hrq hp
    have h2 := best_ref (w := cW w) (hw.c h0) (rq := rqs w.rs.l.length) (fun i hi => hrq i (by rw [cW_len] at hi; exact hi)) (b := b) (r := r) (by rw [cW_len, hpc, hp])
    have hf := bestF_c (w := w) (b := b) (l := r) (hin b (by simp)) fun a ha => hin a (List.mem_cons_of_mem _ ha)
    rw [h1, h2, hf]
    refine ⟨rfl, ?_⟩
    show valP (cW w) (bestF w b r) = valP w (bestF w b r)
    obtain ⟨hm, _⟩ := bestF_spec (w := w) (l := r) (b := b)
    rw [← valP_cP (w := cW w) (l := bestF w b r), valP_c]
    rcases hm with hm | hm
    · rw [hm]; exact hin b (by simp)
    · exact hin _ (List.mem_cons_of_mem _ hm)
end
end Go.Ax.Sx.Sc

namespace Go.Ax.Sx.Sc
open Go.Ax
set_option linter.unusedSimpArgs false
set_option linter.unusedVariables false
set_option maxRecDepth 100000

section
variable {s : Sig} {w : W}

theorem smallE_c : smallE (cW w) = smallE w := by
  unfold smallE
  rw [weekE_c]
  have : smallB (cW w) = smallB w := by
    unfold smallB
    rw [cW_len, cW_rs, List.any_map]; rfl
  rw [this]

theorem light_N {w : W} (h : lightB w = true) (h0 : smallE w = 0) : plsN w 0 w.rs.l.length ≤ 2000 := by
  unfold lightB at h
  rw [Bool.and_eq_true, Bool.or_eq_true, decide_eq_true_eq, decide_eq_true_eq] at h
  rcases h.2 with h | h
  · exact absurd h0 h
  · have := workF_N (show (1 : Int) ≤ 1 by omega) h
    omega

theorem l_ScheduleBest (hs : Ok s) (hw : w.Ok) (hb : w.Big) : callL AP (.fn 3) [w.v] s = some (B true, s) := by
  have haw : ∀ r, callL AP (.fn 4) [] (s.push r) = some (B true, s.push r) := fun r => l_awake (hs.push r)
  have hfe : ∀ r, callL AP (.fn 5) [w.v] (s.push r) = some (B (lightB w), s.push r) := fun r => l_Light (hs.push r) hw hb
  cases hf : lightB w with
  | false =>
    simp only [W.v, rowW, Sl.v] at hfe
    rw [callL_go (show AP 3 = some c_l_ScheduleBest from rfl) rfl]
    simp (maxSteps := 1000000) only [go_sem, b_l_ScheduleBest, haw, hfe, hf, Nat.reduceEqDiff, Nat.reduceAdd, ↓reduceIte]
  | true =>
    have hF : w.Few := fewB_iff (by unfold lightB at hf; rw [Bool.and_eq_true] at hf; exact hf.1)
    have hcp : ∀ r, callL AP (.fn 7) [w.v] (s.push r) = some ((cW w).v, s.push r) := fun r => r_CopyWeek (hs.push r) hw hF
    have hse : ∀ r, callL AP (.fn 8) [w.v] (s.push r) = some (I (smallE w), s.push r) := fun r => r_SmallErr (hs.push r) hw hF
    by_cases h0 : smallE w = 0
    · have hwe := smallE_ok h0
      have hwk : Wk w := ⟨hw, hF, weekE_ok hwe⟩
      obtain ⟨hb1, hb2⟩ := best_c hwk hwe
      have hsb : ∀ r, callL AP (.fn 6) [(cW w).v] (s.push r) = some (.tuple [accV 3 ((bestW w).1.map rowP), I (bestW w).2.1, I 0], s.push r) := fun r => by
        rw [s_Best (hs.push r) cW_Ok (cW_Few hF), smallE_c, if_pos h0, if_pos h0, hb1, hb2, h0]
      have hN := light_N hf h0
      have hbr : ∀ r, ∃ y : Sl P, callL AP (.fn 9) [w.v] (s.push r) = some (.tuple [y.v rowP, I (valP w y.l)], s.push r) ∧ YOk w y ∧ ∃ (b : List P) (t : List (List P)), pls w (rqs w.rs.l.length) 0 w.rs.l.length [] = b :: t ∧ y.l.map cP = bestF w b t := fun r => r_Best (hs.push r) hwk (by omega)
      obtain ⟨y, hy1, hy2, b, t, hp, hy3⟩ := hbr ⟨[rowW w], []⟩
      have hrq : ∀ i : Nat, i < w.rs.l.length → (i : Int) ∈ rqs w.rs.l.length := fun i hi => List.mem_map.2 ⟨i, List.mem_range.2 hi, rfl⟩
      have href := best_ref hwk hrq hp
      have hv : valP w y.l = (bestW w).2.1 := by rw [href]; show _ = valP w (bestF w b t); rw [← hy3, valP_cP]
      have h1 : (bestW w).1 = y.l.map cP := by rw [href]; exact hy3.symm
      rw [h1, acS_v] at hsb
      rw [hv] at hy1
      have hsame : ∀ r, callL AP (.fn 10) [(acS 3 (y.l.map cP)).v rowP, y.v rowP] (s.push r) = some (B true, s.push r) := fun r => by
        have := r_Same (s := s.push r) (a := (acS 3 (y.l.map cP)).l) (b := y.l) (o1 := (acS 3 (y.l.map cP)).o) (e1 := (acS 3 (y.l.map cP)).e) (o2 := y.o) (e2 := y.e) (hs.push r) acS_ok.1 hy2.ok.1
          (by rw [acS_l]; exact ⟨by rw [List.length_map]; exact hy2.sm.len, fun p hp => by
            obtain ⟨q, hq, rfl⟩ := List.mem_map.1 hp
            exact ⟨cpI_ok, (hy2.sm.ok q hq).2⟩⟩) hy2.sm
        refine this.trans ?_
        rw [acS_l]
        have hm := sameF_map (f := cP) (g := id) (fun p => rfl) (l := y.l)
        rw [List.map_id] at hm
        rw [hm]
      rw [h0] at hse
      simp only [W.v, rowW, Sl.v] at hfe hcp hsb hy1 hsame hse
      rw [callL_go (show AP 3 = some c_l_ScheduleBest from rfl) rfl]
      simp (maxSteps := 1000000) only [go_sem, b_l_ScheduleBest, haw, hfe, hf, hcp, hsb, hse, hy1, hsame, ne_eq, not_true, decide_true, Bool.not_true, Nat.reduceEqDiff, Nat.reduceAdd, ↓reduceIte]
    · have hsb : ∀ r, callL AP (.fn 6) [(cW w).v] (s.push r) = some (.tuple [.slice .nilS 0 [], I 0, I (smallE w)], s.push r) := fun r => by
        rw [s_Best (hs.push r) cW_Ok (cW_Few hF), smallE_c, if_neg h0, if_neg h0]; rfl
      simp only [W.v, rowW, Sl.v] at hfe hcp hsb hse
      rw [callL_go (show AP 3 = some c_l_ScheduleBest from rfl) rfl]
      simp (maxSteps := 1000000) only [go_sem, b_l_ScheduleBest, haw, hfe, hf, hcp, hsb, hse, h0, ne_eq, not_false_iff, decide_true, Bool.not_true, Nat.reduceEqDiff, Nat.reduceAdd, Int.cast_ofNat_Int, ↓reduceIte]
end
end Go.Ax.Sx.Sc

namespace Go.Ax.Sx.Sc
open Go.Ax

section
variable {P : Program} {d : Nat}

def Flds (P : Program) (t : TypeId) (ts : List TypeId) : Prop := ∃ fs : Array Field, P.underlying t = some (.struct fs) ∧ fs.toList.map (·.type) = ts

theorem shp_flds {t : TypeId} {ts : List TypeId} {avs : List AV} (hf : Flds P t ts) (h : Shp P (d + 1) t avs) :
    ∃ ps : List (List AV), avs = ps.flatten ∧ ps.length = ts.length ∧ ∀ (i : Nat) (u : TypeId) (p : List AV), ts[i]? = some u → ps[i]? = some p → Shp P d u p := by
  obtain ⟨fs, hu, rfl⟩ := hf
  obtain ⟨ps, h1, h2, h3⟩ := shp_struct hu h
  refine ⟨ps, h1, by simp [h2], fun i u p hi hp => ?_⟩
  rw [List.getElem?_map] at hi
  obtain ⟨f, hf, rfl⟩ := Option.map_eq_some_iff.1 hi
  exact h3 i f p (by simpa using hf) hp

/-- The types of a week. -/
structure WkT (P : Program) (ti ts tg tgs tis ta tas tr trs tw : TypeId) : Prop where
  i : P.underlying ti = some (.int .i64)
  s : P.underlying ts = some .string
  g : Flds P tg [ti, ti]
  gs : P.underlying tgs = some (.slice tg)
  gc : P.cellsOf tg = 2
  is : P.underlying tis = some (.slice ti)
  ic : P.cellsOf ti = 1
  a : Flds P ta [ts, ti, tgs]
  sa : P.underlying tas = some (.slice ta)
  ac : P.cellsOf ta = 3
  r : Flds P tr [ts, tg, ti, ti, tis, ti]
  sr : P.underlying trs = some (.slice tr)
  rc : P.cellsOf tr = 7
  w : Flds P tw [ti, tas, trs]

variable {ti ts tg tgs tis ta tas tr trs tw : TypeId}

theorem maxLen_lt {n : Nat} (h : n ≤ maxLen) : (n : Int) < 9223372036854775808 := by unfold maxLen at h; omega

theorem shp_rng (T : WkT P ti ts tg tgs tis ta tas tr trs tw) {avs : List AV} (h : Shp P (d + 2) tg avs) : ∃ x : Int × Int, avs = rowG x ∧ True := by
  obtain ⟨ps, rfl, hl, hp⟩ := shp_flds T.g h
  match ps, hl, hp with
  | [p0, p1], _, hp =>
    obtain ⟨a, rfl, _⟩ := shp_int T.i (hp 0 _ p0 rfl rfl)
    obtain ⟨b, rfl, _⟩ := shp_int T.i (hp 1 _ p1 rfl rfl)
    exact ⟨(a, b), rfl, trivial⟩

theorem own_ok {o : Own} {rows : List (List AV)} (h : o = .any ∨ (o = .nilS ∧ rows = [])) : o = .any ∨ (o = .nilS ∧ rows = []) := h

theorem shp_ints (T : WkT P ti ts tg tgs tis ta tas tr trs tw) {avs : List AV} (h : Shp P (d + 2) tis avs) : ∃ x : Sl Int, avs = [x.v rowI] ∧ x.ok 1 ∧ (x.l.length : Int) < 9223372036854775808 := by
  obtain ⟨o, rows, rfl, ho, hlen, hrows⟩ := shp_slice T.is h
  obtain ⟨l, rfl, _⟩ := rows_eq (f := rowI) (g := fun _ => True) (fun r hr => by
    obtain ⟨x, hx, _⟩ := shp_int T.i (hrows r hr)
    exact ⟨x, hx, trivial⟩)
  rw [List.length_map] at hlen
  rw [T.ic]
  refine ⟨⟨o, 1, l⟩, rfl, ?_, maxLen_lt hlen⟩
  rcases ho with rfl | ⟨rfl, h⟩
  · exact ⟨.inr rfl, .inl rfl⟩
  · exact ⟨.inr rfl, .inr (.inr ⟨rfl, List.map_eq_nil_iff.1 (by assumption)⟩)⟩

theorem shp_rngs (T : WkT P ti ts tg tgs tis ta tas tr trs tw) {avs : List AV} (h : Shp P (d + 3) tgs avs) : ∃ x : Sl (Int × Int), avs = [x.v rowG] ∧ x.ok 2 ∧ (x.l.length : Int) < 9223372036854775808 := by
  obtain ⟨o, rows, rfl, ho, hlen, hrows⟩ := shp_slice T.gs h
  obtain ⟨l, rfl, _⟩ := rows_eq (f := rowG) (g := fun _ => True) (fun r hr => shp_rng T (hrows r hr))
  rw [List.length_map] at hlen
  rw [T.gc]
  refine ⟨⟨o, 2, l⟩, rfl, ?_, maxLen_lt hlen⟩
  rcases ho with rfl | ⟨rfl, h⟩
  · exact ⟨.inr rfl, .inl rfl⟩
  · exact ⟨.inr rfl, .inr (.inr ⟨rfl, List.map_eq_nil_iff.1 (by assumption)⟩)⟩

theorem shp_ant (T : WkT P ti ts tg tgs tis ta tas tr trs tw) {avs : List AV} (h : Shp P (d + 4) ta avs) :
    ∃ a : A, avs = rowA a ∧ (a.cl.ok 2 ∧ (a.name.size : Int) < 9223372036854775808 ∧ (a.cl.l.length : Int) < 9223372036854775808) := by
  obtain ⟨ps, rfl, hl, hp⟩ := shp_flds T.a h
  match ps, hl, hp with
  | [p0, p1, p2], _, hp =>
    obtain ⟨n, rfl, hn⟩ := shp_str T.s (hp 0 _ p0 rfl rfl)
    obtain ⟨b, rfl, _⟩ := shp_int T.i (hp 1 _ p1 rfl rfl)
    obtain ⟨c, rfl, hc, hcl⟩ := shp_rngs T (hp 2 _ p2 rfl rfl)
    exact ⟨⟨n, b, c⟩, rfl, hc, maxLen_lt hn, hcl⟩

theorem shp_req (T : WkT P ti ts tg tgs tis ta tas tr trs tw) {avs : List AV} (h : Shp P (d + 4) tr avs) :
    ∃ r : R, avs = rowR r ∧ (r.an.ok 1 ∧ (r.mis.size : Int) < 9223372036854775808 ∧ (r.an.l.length : Int) < 9223372036854775808) := by
  obtain ⟨ps, rfl, hl, hp⟩ := shp_flds T.r h
  match ps, hl, hp with
  | [p0, p1, p2, p3, p4, p5], _, hp =>
    obtain ⟨n, rfl, hn⟩ := shp_str T.s (hp 0 _ p0 rfl rfl)
    obtain ⟨g, rfl, _⟩ := shp_rng T (hp 1 _ p1 rfl rfl)
    obtain ⟨b, rfl, _⟩ := shp_int T.i (hp 2 _ p2 rfl rfl)
    obtain ⟨c, rfl, _⟩ := shp_int T.i (hp 3 _ p3 rfl rfl)
    obtain ⟨x, rfl, hx, hxl⟩ := shp_ints T (hp 4 _ p4 rfl rfl)
    obtain ⟨e, rfl, _⟩ := shp_int T.i (hp 5 _ p5 rfl rfl)
    exact ⟨⟨n, g.1, g.2, b, c, x, e⟩, rfl, hx, maxLen_lt hn, hxl⟩

theorem shp_week (T : WkT P ti ts tg tgs tis ta tas tr trs tw) {avs : List AV} (h : Shp P (d + 6) tw avs) : ∃ w : W, AV.agg avs = w.v ∧ w.Ok ∧ w.Big := by
  obtain ⟨ps, rfl, hl, hp⟩ := shp_flds T.w h
  match ps, hl, hp with
  | [p0, p1, p2], _, hp =>
    obtain ⟨n, rfl, _⟩ := shp_int T.i (hp 0 _ p0 rfl rfl)
    obtain ⟨o1, r1, rfl, ho1, hl1, hr1⟩ := shp_slice T.sa (hp 1 _ p1 rfl rfl)
    obtain ⟨o2, r2, rfl, ho2, hl2, hr2⟩ := shp_slice T.sr (hp 2 _ p2 rfl rfl)
    obtain ⟨as, rfl, has⟩ := rows_eq (fun r hr => shp_ant T (hr1 r hr))
    obtain ⟨rs, rfl, hrs⟩ := rows_eq (fun r hr => shp_req T (hr2 r hr))
    rw [List.length_map] at hl1 hl2
    rw [T.ac, T.rc]
    refine ⟨⟨n, ⟨o1, 3, as⟩, ⟨o2, 7, rs⟩⟩, rfl, ⟨?_, fun a ha => (has a ha).1, ?_, fun r hr => (hrs r hr).1⟩, ⟨maxLen_lt hl1, maxLen_lt hl2, fun a ha => (has a ha).2.1, fun a ha => (has a ha).2.2, fun r hr => (hrs r hr).2.1, fun r hr => (hrs r hr).2.2⟩⟩
    · rcases ho1 with rfl | ⟨rfl, h⟩
      · exact ⟨.inr rfl, .inl rfl⟩
      · exact ⟨.inr rfl, .inr (.inr ⟨rfl, List.map_eq_nil_iff.1 (by assumption)⟩)⟩
    · rcases ho2 with rfl | ⟨rfl, h⟩
      · exact ⟨.inr rfl, .inl rfl⟩
      · exact ⟨.inr rfl, .inr (.inr ⟨rfl, List.map_eq_nil_iff.1 (by assumption)⟩)⟩
end
end Go.Ax.Sx.Sc
