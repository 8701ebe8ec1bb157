/-
  What a week is among the values that an argument may read as.
-/
import Derived.Test.YthodiahmjmoakaaGreatDoorT13
import Derived.Test.YthodiahmjmoakaaGreatDoorT12
import Derived.Test.YthodiahmjmoakaaGreatDoorT7
namespace Go.Ax.Sx.Sc
open Go.Ax
set_option linter.unusedSimpArgs false
set_option linter.unusedVariables false
set_option maxRecDepth 100000

section
variable {s : Sig} {w : W}

abbrev minL (ρ : Nat → AV) : ALoop := ⟨true, none, ρ, [38], b_s_MinimumConflict_a2, b_s_MinimumConflict_y1⟩
abbrev minBx (w : W) (x : AV) : List (List AV) := [rowW w, [x], [I 0], [OW w, .slice (acS 2 (freeC w)).o (acS 2 (freeC w)).e ((freeC w).map rowC)]]

theorem min_round {X T : Rec → Sig} {l d : Nat} {ρ : Nat → AV} {tk : List (Option Nat)} {g : List Int} (hM : Mid X d) (hX : ∀ r, busy l (T r) = X r) (hR : ∀ r, Ready l (minL ρ) (T r)) (hok : ∀ r, Ok (T r)) (hw : Wk w)
    (hg : ∀ i ∈ g, 0 ≤ i ∧ i < w.rs.l.length) (hg0 : g ≠ []) (hgl : g.length ≤ 100) (h2 : ρ 2 = .ptr d 1 0) (h3 : ρ 3 = .ptr d 2 0) (h6 : ρ 6 = .ptr d 3 0) :
    callL AP (.yield l) [accV 1 (g.map rowI)] (T ⟨minBx w (.slice .nilS 0 []), tk⟩) = if fitsB w (freeC w) [] (maskO g) = true then some (.v (.bool true), T ⟨minBx w (.slice .nilS 0 []), tk⟩) else some (.v (.bool false), over l .ret (T ⟨minBx w (accV 1 (g.map rowI)), tk⟩)) := by
  have hrl := hw.v.rl
  have hacc : accV 1 (g.map rowI) = .slice .any 1 (g.map rowI) := by cases g with | nil => exact absurd rfl hg0 | cons _ _ => rfl
  rw [hacc]
  have hokX : ∀ r, Ok (X r) := fun r => by rw [← hX]; exact (hok r).busy
  have hTX : ∀ r, (T r).acts.length = (X r).acts.length := fun r => by rw [← hX]; rfl
  have hfin : ∀ r ρ' q, finR l .normal ⟨ρ', (X r).push q⟩ = some (.v (.bool true), T r) := fun r ρ' q => by rw [← hX]; exact finR_n (hR r)
  have hfr : ∀ r ρ' q, finR l .ret ⟨ρ', (X r).push q⟩ = some (.v (.bool false), over l .ret (T r)) := fun r ρ' q => by rw [← hX]; exact finR_r
  have k3 : ∀ x q, ((X ⟨minBx w x, tk⟩).push q).box d 3 = some [OW w, .slice (acS 2 (freeC w)).o (acS 2 (freeC w)).e ((freeC w).map rowC)] := fun x q => by rw [hM.box]; rfl
  have st1 : ∀ q, ((X ⟨minBx w (.slice .nilS 0 []), tk⟩).push q).store 1 (.ptr d 1 0) (.slice .any 1 (g.map rowI)) = some ((X ⟨minBx w (.slice .any 1 (g.map rowI)), tk⟩).push q) := fun q => hM.store (by rfl) (by rfl) (row := [.slice .nilS 0 []]) (by rfl) (by rfl)
  have st2 : ∀ q, ((X ⟨minBx w (.slice .any 1 (g.map rowI)), tk⟩).push q).store 1 (.ptr d 2 0) (I 0) = some ((X ⟨minBx w (.slice .any 1 (g.map rowI)), tk⟩).push q) := fun q => hM.store (by rfl) (by rfl) (row := [I 0]) (by rfl) (by rfl)
  have hft : ∀ r, callL AP (.fn 27) [CH w (acS 2 (freeC w)).o (acS 2 (freeC w)).e (freeC w), .slice .nilS 0 [], I ((maskO g : Nat) : Int)] ((X ⟨minBx w (.slice .nilS 0 []), tk⟩).push r) = some (B (fitsB w (freeC w) [] (maskO g)), (X ⟨minBx w (.slice .nilS 0 []), tk⟩).push r) := fun r =>
    c_fits (plan := []) (o2 := .nilS) (e2 := 0) ((hokX _).push r) hw (freeC_ok hw) (maskO_lt hg) (fun y hy => absurd hy (by simp)) (.inl rfl) (by simp)
  have key : ∀ (j : Nat) ρ' m, j ≤ g.length → (ρ' 2 = .ptr d 1 0 ∧ ρ' 3 = .ptr d 2 0 ∧ ρ' 6 = .ptr d 3 0 ∧ ρ' 9 = .slice .any 1 (g.map rowI) ∧ ρ' 10 = I ((maskO (g.take j) : Nat) : Int) ∧ ρ' 39 = .slice .any 1 (g.map rowI) ∧ ρ' 40 = I g.length ∧ ρ' 41 = I j ∧ m = (X ⟨minBx w (.slice .nilS 0 []), tk⟩).push ⟨[], []⟩) →
      go AP (finR l) (.c (.loop b_s_MinimumConflict_l2) :: k_s_MinimumConflict_2) ⟨ρ', m⟩ = if fitsB w (freeC w) [] (maskO g) = true then some (.v (.bool true), T ⟨minBx w (.slice .nilS 0 []), tk⟩) else some (.v (.bool false), over l .ret (T ⟨minBx w (.slice .any 1 (g.map rowI)), tk⟩)) := by
    refine loop_up g.length _ _ ?_ ?_
    · rintro j ρ' m hj ⟨g2, g3, g6, g9, g10, g39, g40, g41, rfl⟩ ih
      obtain ⟨a, ha⟩ := get_some hj
      have ham := hg a (List.mem_of_getElem? ha)
      have hr := ix_map (o := .any) (es := 1) (f := rowI) ha
      have hin : ∀ i ∈ g.take j, 0 ≤ i ∧ i < w.rs.l.length := fun i hi => hg i (List.mem_of_mem_take hi)
      have hm1 : maskO (g.take j) < 2 ^ 63 := lt63 (maskO_lt hin) (by omega)
      have hm2 : 2 ^ a.toNat < 2 ^ 63 := Nat.pow_lt_pow_right (by decide) (by omega)
      have hsh := ar_shln (k := a.toNat) (by omega)
      rw [show ((a.toNat : Nat) : Int) = a by omega] at hsh
      have hor := ar_or hm1 hm2
      have hwk1 := wrap_succ hj (show (g.length : Int) < _ by omega)
      simp (maxSteps := 1000000) only [go_sem, b_s_MinimumConflict_l2, g10, g39, g40, g41, lt_dec hj, hr, hsh, hor, hwk1, Nat.reduceEqDiff, ↓reduceIte]
      refine ih _ _ ?_
      exact ⟨g2, g3, g6, g9, by rw [take_get ha, maskO_snoc]; rfl, g39, g40, rfl, rfl⟩
    · rintro ρ' m ⟨g2, g3, g6, g9, g10, g39, g40, g41, rfl⟩
      rw [List.take_length] at g10
      simp only [OW, CH, minBx] at k3 hft st1 st2 hfin hfr hokX ⊢
      cases hf : fitsB w (freeC w) [] (maskO g) with
      | true =>
        rw [hf] at hft
        simp (maxSteps := 1000000) only [go_sem, b_s_MinimumConflict_l2, b_s_MinimumConflict_r2, g6, g10, g40, g41, ge_dec, k3, hft, Bool.not_true, hfin, Nat.reduceEqDiff, ↓reduceIte]
      | false =>
        rw [hf] at hft
        simp (maxSteps := 1000000) only [go_sem, b_s_MinimumConflict_l2, b_s_MinimumConflict_r2, g2, g3, g6, g9, g10, g40, g41, ge_dec, k3, hft, Bool.not_false, st1, st2, hfr, Nat.reduceEqDiff, reduceCtorEq, ↓reduceIte]
  rw [callL_round (hR _) rfl]
  simp (maxSteps := 1000000) only [go_sem, b_s_MinimumConflict_a2, finA_n (hR _), setParams_1, ↓reduceIte]
  simp (maxSteps := 1000000) only [go_sem, b_s_MinimumConflict_y1, hX, Nat.reduceEqDiff, ↓reduceIte]
  refine key 0 _ _ (Nat.zero_le _) ?_
  exact ⟨h2, h3, h6, rfl, rfl, rfl, rfl, rfl, rfl⟩

theorem Ends.none_stops {α ι : Type} {I : List α → ι → Prop} {st : α → Bool} {O : List α → α → ι → Prop} {i : ι} : ∀ {xs done : List α}, Ends I (fun _ x => st x) O done xs true i → xs.find? st = none
  | [], _, _ => rfl
  | x :: r, done, h => by
    simp only [Ends] at h
    cases hs : st x with
    | true => rw [if_pos hs] at h; exact absurd h.1 (by decide)
    | false =>
      rw [if_neg (by rw [hs]; decide)] at h
      rw [List.find?_cons, hs]
      exact Ends.none_stops h
theorem Ends.find {α ι : Type} {I : List α → ι → Prop} {st : α → Bool} {O : List α → α → ι → Prop} {i : ι} : ∀ {xs done : List α}, Ends I (fun _ x => st x) O done xs false i → ∃ x dn, xs.find? st = some x ∧ O dn x i
  | [], _, h => absurd h.1 (by decide)
  | x :: r, done, h => by
    simp only [Ends] at h
    cases hs : st x with
    | true => rw [if_pos hs] at h; exact ⟨x, done, by rw [List.find?_cons, hs], h.2⟩
    | false =>
      rw [if_neg (by rw [hs]; decide)] at h
      rw [List.find?_cons, hs]
      exact Ends.find h

def minX : Option (List Int) → AV
  | none => .slice .nilS 0 []
  | some g => accV 1 (g.map rowI)
def minP : Option (List Int) → Option AExit
  | none => none
  | some _ => some .ret
abbrev minB (s : Sig) (w : W) (ρ : Nat → AV) (j : Option (List Int)) : Sig := enterLoop (s.push ⟨minBx w (minX j), []⟩) ⟨j.isNone, minP j, ρ, [38], b_s_MinimumConflict_a2, b_s_MinimumConflict_y1⟩

theorem min_hand {ρ : Nat → AV} (hs : Ok s) (hw : Wk w) (h2 : ρ 2 = .ptr s.acts.length 1 0) (h3 : ρ 3 = .ptr s.acts.length 2 0) (h6 : ρ 6 = .ptr s.acts.length 3 0) :
    Hand AP s.loops.length (fun g => accV 1 (g.map rowI)) (minB s w ρ) (fun _ j => j = none) (fun _ g => !fitsB w (freeC w) [] (maskO g)) (fun _ g j => j = some g)
      (fun g => g ≠ [] ∧ g.length ≤ 100 ∧ ∀ i ∈ g, 0 ≤ i ∧ i < w.rs.l.length) (s.acts.length + 1) (s.loops.length + 1) 100000 := by
  have main : ∀ (g : List Int) (B : List Rec) (ls : List ALoop), g ≠ [] ∧ g.length ≤ 100 ∧ (∀ i ∈ g, 0 ≤ i ∧ i < w.rs.l.length) →
      callL AP (.yield s.loops.length) [accV 1 (g.map rowI)] (up (minB s w ρ none) B ls) = if fitsB w (freeC w) [] (maskO g) = true then some (.v (.bool true), up (minB s w ρ none) B ls) else some (.v (.bool false), up (minB s w ρ (some g)) B ls) := by
    rintro g B ls ⟨hg0, hgl, hg⟩
    have hM : Mid (fun r => up (busy s.loops.length (enterLoop (s.push r) (minL ρ))) B ls) s.acts.length := mid_loop hs
    have hX : ∀ r, busy s.loops.length (up (enterLoop (s.push r) (minL ρ)) B ls) = (fun r => up (busy s.loops.length (enterLoop (s.push r) (minL ρ))) B ls) r := fun r => up_busy (by simp [enterLoop, Sig.push])
    have h := min_round (T := fun r => up (enterLoop (s.push r) (minL ρ)) B ls) (tk := []) (g := g) hM hX (fun r => up_ready (enter_ready (hs.push r))) (fun r => ((hs.push _).enter).up) hw hg hg0 hgl h2 h3 h6
    refine h.trans ?_
    have hov : over s.loops.length .ret (up (enterLoop (s.push ⟨minBx w (accV 1 (g.map rowI)), []⟩) (minL ρ)) B ls) = up (minB s w ρ (some g)) B ls := by
      rw [up_over (by simp [enterLoop, Sig.push])]
      congr 1
      exact over_enter (m := s.push _)
    rw [hov]; rfl
  refine ⟨fun j => (hs.push _).enter, fun j => by simp [minB, enterLoop, Sig.push], fun j => by simp [minB, enterLoop, Sig.push], ?_, ?_⟩
  · rintro done g j B ls _ rfl hX hst
    refine ⟨none, ?_, rfl⟩
    rw [main g B ls hX, if_pos (by simpa using hst)]
  · rintro done g j B ls _ rfl hX hst
    refine ⟨some g, ?_, rfl⟩
    rw [main g B ls hX, if_neg (by simpa using hst)]

theorem min_range {F : AExit → St → Option (AV × Sig)} {ks : List K} {ρ : Nat → AV} {c : Nat} (hs : Ok s) (hw : Wk w) (hc : 1 ≤ c) (hc2 : c ≤ 100) (h2 : ρ 2 = .ptr s.acts.length 1 0) (h3 : ρ 3 = .ptr s.acts.length 2 0) (h6 : ρ 6 = .ptr s.acts.length 3 0)
    (h37 : ρ 37 = .fn 46 [] [.eptr [I c] 0, .eptr [(acS 1 (rqs w.rs.l.length)).v rowI] 0]) :
    (∃ g, ((grps c (rqs w.rs.l.length)).find? fun g => !fitsB w (freeC w) [] (maskO g)) = some g ∧ go AP F (.c (.rangeFunc (.tmp 37) [38] b_s_MinimumConflict_a2 b_s_MinimumConflict_y1) :: ks) ⟨ρ, s.push ⟨minBx w (.slice .nilS 0 []), []⟩⟩ = F .ret ⟨ρ, s.push ⟨minBx w (accV 1 (g.map rowI)), []⟩⟩) ∨
    (((grps c (rqs w.rs.l.length)).find? fun g => !fitsB w (freeC w) [] (maskO g)) = none ∧ go AP F (.c (.rangeFunc (.tmp 37) [38] b_s_MinimumConflict_a2 b_s_MinimumConflict_y1) :: ks) ⟨ρ, s.push ⟨minBx w (.slice .nilS 0 []), []⟩⟩ = go AP F ks ⟨ρ, s.push ⟨minBx w (.slice .nilS 0 []), []⟩⟩) := by
  have hrl := hw.v.rl
  have hq1 : (rqs w.rs.l.length) = [] ∨ (acS 1 (rqs w.rs.l.length)).e = 1 := by
    cases rqs w.rs.l.length with
    | nil => exact .inl rfl
    | cons _ _ => exact .inr rfl
  have hgc := grps_count (k := c) (l := rqs w.rs.l.length)
  have hgc2 : (grps c (rqs w.rs.l.length)).length ≤ 2 ^ 12 := by
    refine Nat.le_trans hgc ?_
    rw [rqs_len]
    exact Nat.pow_le_pow_right (by decide) (by omega)
  obtain ⟨b, j, hcl, hE⟩ := groups_calls (min_hand hs hw h2 h3 h6) (cnt := c) (by omega) (l := rqs w.rs.l.length) (o := (acS 1 (rqs w.rs.l.length)).o) (e := (acS 1 (rqs w.rs.l.length)).e) (i := none) (done := []) hq1 (by rw [rqs_len]; omega) (by simp; omega) rfl (fun g hg => by
    have hl := grps_len hg
    refine ⟨fun e => by rw [e] at hl; simp at hl; omega, by omega, (grp_in hg).2⟩)
  have hv : (acS 1 (rqs w.rs.l.length)).v rowI = .slice (acS 1 (rqs w.rs.l.length)).o (acS 1 (rqs w.rs.l.length)).e ((rqs w.rs.l.length).map rowI) := by simp only [Sl.v, acS_l]
  rw [go_range (x := .tmp 37) h37, hv]
  cases b with
  | true =>
    have hn := Ends.none_stops (st := fun g => !fitsB w (freeC w) [] (maskO g)) hE
    have hj : j = none := hE.all
    subst hj
    refine .inr ⟨hn, (congrArg (Option.bind · _) hcl).trans ?_⟩
    simp only [Option.bind_some]
    exact goL_normal (m := s.push ⟨minBx w (.slice .nilS 0 []), []⟩) (lp := minL ρ) rfl rfl rfl
  | false =>
    obtain ⟨g, dn, hf, hO⟩ := Ends.find (st := fun g => !fitsB w (freeC w) [] (maskO g)) hE
    have hj : j = some g := hO
    subst hj
    refine .inl ⟨g, hf, (congrArg (Option.bind · _) hcl).trans ?_⟩
    simp only [Option.bind_some]
    exact goL_ret (m := s.push ⟨minBx w (accV 1 (g.map rowI)), []⟩) (lp := ⟨false, some .ret, ρ, [38], b_s_MinimumConflict_a2, b_s_MinimumConflict_y1⟩) rfl rfl

theorem minF_some {c d : Nat} {g : List Int} (h : ((grps c (rqs w.rs.l.length)).find? fun g => !fitsB w (freeC w) [] (maskO g)) = some g) : minF w c (d + 1) = some g := by simp only [minF, h]
theorem minF_none {c d : Nat} (h : ((grps c (rqs w.rs.l.length)).find? fun g => !fitsB w (freeC w) [] (maskO g)) = none) : minF w c (d + 1) = minF w (c + 1) d := by simp only [minF, h]

/-- what the program returns -/
def minV (w : W) : AV := .tuple [accV 1 ((if smallE w = 0 then (minC w).getD [] else []).map rowI), I (if smallE w = 0 then (if (minC w).isSome = true then 0 else 12) else smallE w)]

theorem s_MinimumConflict (hs : Ok s) (hw : w.Ok) (hf : w.Few) : callL AP (.fn 7) [w.v] s = some (minV w, s) := by
  have ho : ∀ r, callL AP (.fn 23) [w.v] (s.push r) = some (.tuple [if (weekE w).2.2 = 0 then OW w else NP, I (smallE w)], s.push r) := fun r => s_openSmall (hs.push r) hw hf
  simp only [W.v, rowW, Sl.v] at ho
  unfold minV
  by_cases h0 : smallE w = 0
  · have hwe := smallE_ok h0
    have hwk : Wk w := ⟨hw, hf, weekE_ok hwe⟩
    have hrl := hwk.v.rl
    rw [if_pos hwe, h0] at ho
    have hfr : ∀ r, callL AP (.fn 24) [OW w] (s.push r) = some (CH w (acS 2 (freeC w)).o (acS 2 (freeC w)).e (freeC w), s.push r) := fun r => by
      rw [w_free (hs.push r) hwk, acS_v]; simp only [Sl.v, acS_l]
    have hme : ∀ r, callL AP (.fn 25) [I ((2 ^ w.rs.l.length - 1 : Nat) : Int)] (s.push r) = some ((acS 1 (rqs w.rs.l.length)).v rowI, s.push r) := fun r => by
      rw [s_members (by have : (2 : Nat) ^ w.rs.l.length ≤ 2 ^ 12 := Nat.pow_le_pow_right (by decide) hrl
                        omega) (hs.push r), mems_full (by omega), acS_v]
    have hsh := ar_shln (k := w.rs.l.length) (by omega)
    have hsub : IntKind.i64.wrap (((2 ^ w.rs.l.length : Nat) : Int) - 1) = ((2 ^ w.rs.l.length - 1 : Nat) : Int) := by
      have h1 : (2 : Nat) ^ w.rs.l.length ≤ 2 ^ 12 := Nat.pow_le_pow_right (by decide) hrl
      have h2 : 1 ≤ (2 : Nat) ^ w.rs.l.length := Nat.one_le_two_pow
      generalize (2 : Nat) ^ w.rs.l.length = q at *
      rw [wrap_id (by omega) (by omega)]; omega
    simp only [h0, if_true]
    have outer : ∀ (d c : Nat) ρ m, c + d = w.rs.l.length + 1 → 1 ≤ c → (ρ 2 = .ptr s.acts.length 1 0 ∧ ρ 3 = .ptr s.acts.length 2 0 ∧ ρ 6 = .ptr s.acts.length 3 0 ∧ ρ 7 = (acS 1 (rqs w.rs.l.length)).v rowI ∧ ρ 8 = I c ∧ m = s.push ⟨minBx w (.slice .nilS 0 []), []⟩) →
        go AP f_s_MinimumConflict (.c (.loop b_s_MinimumConflict_l0) :: k_s_MinimumConflict_0) ⟨ρ, m⟩ = some (.tuple [accV 1 (((minF w c d).getD []).map rowI), I (if (minF w c d).isSome = true then 0 else 12)], s) := by
      intro d
      induction d with
      | zero =>
        rintro c ρ m hc hc1 ⟨g2, g3, g6, g7, g8, rfl⟩
        have hl : (acS 1 (rqs w.rs.l.length)).l.length = w.rs.l.length := by rw [acS_l, rqs_len]
        have d1 : decide ((c : Int) ≤ (w.rs.l.length : Int)) = false := by simp; omega
        rw [go_loop]
        simp only [Sl.v, minBx] at g7 ⊢
        simp (maxSteps := 1000000) only [go_sem, b_s_MinimumConflict_l0, b_s_MinimumConflict_r0, g2, g3, g7, g8, hs, hl, d1, Nat.reduceEqDiff, ↓reduceIte]
        rfl
      | succ d ih =>
        rintro c ρ m hc hc1 ⟨g2, g3, g6, g7, g8, rfl⟩
        have hl : (acS 1 (rqs w.rs.l.length)).l.length = w.rs.l.length := by rw [acS_l, rqs_len]
        have d1 : decide ((c : Int) ≤ (w.rs.l.length : Int)) = true := by simp; omega
        have w1 : IntKind.i64.wrap ((c : Int) + 1) = ((c + 1 : Nat) : Int) := by rw [wrap_id (by omega) (by omega)]; omega
        have hsg : ∀ r, callL AP (.fn 26) [(acS 1 (rqs w.rs.l.length)).v rowI, I (c : Int)] (s.push r) = some (.fn 46 [] [.eptr [I c] 0, .eptr [(acS 1 (rqs w.rs.l.length)).v rowI] 0], s.push r) := fun r => s_groups (Sl.close (n := 1) acS_ok) (hs.push r)
        have hrng := fun ρ' h2 h3 h6 h37 => min_range (s := s) (w := w) (F := f_s_MinimumConflict) (ks := k_s_MinimumConflict_1) (ρ := ρ') (c := c) hs hwk hc1 (by omega) h2 h3 h6 h37
        have hrest : ∀ ρ' : Nat → AV, ρ' 2 = .ptr s.acts.length 1 0 → ρ' 3 = .ptr s.acts.length 2 0 → ρ' 6 = .ptr s.acts.length 3 0 → ρ' 7 = (acS 1 (rqs w.rs.l.length)).v rowI → ρ' 8 = I c → ρ' 37 = .fn 46 [] [.eptr [I c] 0, .eptr [(acS 1 (rqs w.rs.l.length)).v rowI] 0] →
            go AP f_s_MinimumConflict (.c (.rangeFunc (.tmp 37) [38] b_s_MinimumConflict_a2 b_s_MinimumConflict_y1) :: k_s_MinimumConflict_1) ⟨ρ', s.push ⟨minBx w (.slice .nilS 0 []), []⟩⟩ = some (.tuple [accV 1 (((minF w c (d + 1)).getD []).map rowI), I (if (minF w c (d + 1)).isSome = true then 0 else 12)], s) := by
          intro ρ' g2 g3 g6 g7 g8 g37
          rcases hrng ρ' g2 g3 g6 g37 with ⟨g, hfd, hgo⟩ | ⟨hfd, hgo⟩
          · rw [hgo, minF_some hfd]
            have hlv := fun m : Sig => leavec_acc (es := 1) (xs := g.map rowI) (m := m)
            have hlv2 := fun m : Sig => leave_acc (es := 1) (xs := g.map rowI) (m := m)
            simp only [Option.getD_some, Option.isSome_some, minBx]
            obtain ⟨z, hz⟩ : ∃ z, accV 1 (g.map rowI) = z := ⟨_, rfl⟩
            simp only [hz] at hlv hlv2 ⊢
            simp (maxSteps := 1000000) only [go_sem, g2, g3, hlv2, ↓reduceIte]
          · rw [hgo, minF_none hfd]
            simp (maxSteps := 1000000) only [go_sem, b_s_MinimumConflict_r1, g8, w1, ↓reduceIte]
            refine ih (c + 1) _ _ (by omega) (by omega) ?_
            exact ⟨g2, g3, g6, g7, rfl, rfl⟩
        rw [go_loop]
        simp only [Sl.v, minBx] at g7 hsg hrest ⊢
        simp (maxSteps := 1000000) only [go_sem, b_s_MinimumConflict_l0, g7, g8, hl, d1, hsg, Nat.reduceEqDiff, ↓reduceIte]
        exact hrest _ g2 g3 g6 g7 g8 rfl
    rw [callL_go (show AP 7 = some c_s_MinimumConflict from rfl) rfl]
    simp only [OW, CH, Sl.v] at ho hfr hme
    simp (maxSteps := 1000000) only [go_sem, b_s_MinimumConflict, hs, ho, hfr, hme, hsh, hsub, ne_eq, not_true, Nat.reduceEqDiff, Nat.reduceAdd, ↓reduceIte]
    refine outer w.rs.l.length 1 _ _ (by omega) (by omega) ?_
    exact ⟨rfl, rfl, rfl, rfl, rfl, rfl⟩
  · rw [callL_go (show AP 7 = some c_s_MinimumConflict from rfl) rfl]
    simp only [h0, if_false]
    simp (maxSteps := 1000000) only [go_sem, b_s_MinimumConflict, hs, ho, ne_eq, h0, not_false_iff, Nat.reduceEqDiff, Nat.reduceAdd, ↓reduceIte]
    rfl
end
end Go.Ax.Sx.Sc

namespace Go.Ax.Sx.Sc
open Go.Ax
set_option linter.unusedSimpArgs false
set_option linter.unusedVariables false
set_option maxRecDepth 100000

section
variable {s : Sig} {w : W}

theorem fits_c (hw : Wk w) (h0 : (weekE w).2.2 = 0) {rq : List Int} (ha : rq.Pairwise (· < ·)) (hin : ∀ i ∈ rq, 0 ≤ i ∧ i < w.rs.l.length) : fitsB (cW w) (freeC (cW w)) [] (maskO rq) = fitsB w (freeC w) [] (maskO rq) := by
  rw [← tog_eq hw ha hin, ← tog_eq (hw.c h0) ha (by rw [cW_len]; exact hin), cW_len, pls_c hw (by omega) (fun x hx => absurd hx (by simp))]

theorem find_congr {α : Type} {f g : α → Bool} : ∀ {l : List α}, (∀ x ∈ l, f x = g x) → l.find? f = l.find? g
  | [], _ => rfl
  | a :: r, h => by
    rw [List.find?_cons, List.find?_cons, h a (by simp), find_congr fun x hx => h x (List.mem_cons_of_mem _ hx)]

theorem minF_c (hw : Wk w) (h0 : (weekE w).2.2 = 0) : ∀ {d c : Nat}, minF (cW w) c d = minF w c d
  | 0, _ => rfl
  | d + 1, c => by
    have h : ((grps c (rqs (cW w).rs.l.length)).find? fun g => !fitsB (cW w) (freeC (cW w)) [] (maskO g)) = (grps c (rqs w.rs.l.length)).find? fun g => !fitsB w (freeC w) [] (maskO g) := by
      rw [cW_len]
      refine find_congr fun g hg => ?_
      obtain ⟨ga, gin⟩ := grp_in hg
      rw [fits_c hw h0 ga gin]
    have ih := minF_c hw h0 (d := d) (c := c + 1)
    cases hf : (grps c (rqs w.rs.l.length)).find? fun g => !fitsB w (freeC w) [] (maskO g) with
    | none => rw [minF_none hf, minF_none (by rw [h, hf]), ih]
    | some g => rw [minF_some hf, minF_some (by rw [h, hf])]
theorem minC_c (hw : Wk w) (h0 : (weekE w).2.2 = 0) : minC (cW w) = minC w := by
  unfold minC; rw [cW_len, minF_c hw h0]

theorem minF_mem : ∀ {d c : Nat} {g : List Int}, minF w c d = some g → ∃ k, c ≤ k ∧ k < c + d ∧ g ∈ grps k (rqs w.rs.l.length) ∧ fitsB w (freeC w) [] (maskO g) = false
  | 0, c, g, h => by simp [minF] at h
  | d + 1, c, g, h => by
    cases hf : (grps c (rqs w.rs.l.length)).find? fun g => !fitsB w (freeC w) [] (maskO g) with
    | none =>
      rw [minF_none hf] at h
      obtain ⟨k, h1, h2, h3⟩ := minF_mem h
      exact ⟨k, by omega, by omega, h3⟩
    | some g' =>
      rw [minF_some hf] at h
      injection h with h
      subst h
      exact ⟨c, Nat.le_refl _, by omega, List.mem_of_find?_eq_some hf, by have := List.find?_some hf; simpa using this⟩

end
end Go.Ax.Sx.Sc

namespace Go.Ax.Sx.Sc
open Go.Ax
set_option linter.unusedSimpArgs false
set_option linter.unusedVariables false
set_option maxRecDepth 100000

section
variable {s : Sig} {w : W}

theorem rqs_all {n : Nat} : ∀ i : Nat, i < n → (i : Int) ∈ rqs n := fun i hi => List.mem_map.2 ⟨i, List.mem_range.2 hi, rfl⟩

/-- What the best plan is. -/
theorem best_is (hw : Wk w) : VP w (bestW w).1 ∧ valP w (bestW w).1 = (bestW w).2.1 ∧ ∀ R, VP w R → valP w R ≤ (bestW w).2.1 ∧ (valP w R = (bestW w).2.1 → befP R (bestW w).1 = false) := by
  have hiff := fun X => pls_iff (X := X) hw (rq := rqs w.rs.l.length) (k := w.rs.l.length) (i := 0) (by omega) VP.nil (fun p hp => absurd hp (by simp))
  cases hp : pls w (rqs w.rs.l.length) 0 w.rs.l.length [] with
  | nil => exact absurd hp pls_ne
  | cons b r =>
    rw [hp] at hiff
    have hmem : ∀ X, X ∈ b :: r ↔ VP w X := fun X => by
      rw [hiff X]
      constructor
      · rintro ⟨h, _⟩; exact h
      · intro h
        refine ⟨h, X, rfl, fun p hp => ?_⟩
        obtain ⟨h0, h1, _⟩ := h.mem p hp
        have := rqs_all (n := w.rs.l.length) p.req.toNat (by omega)
        rw [show ((p.req.toNat : Nat) : Int) = p.req by omega] at this
        exact ⟨by omega, this⟩
    have hb := best_ref hw rqs_all hp
    obtain ⟨h1, h2, h3, h4, h5⟩ := bestF_spec (w := w) (l := r) (b := b)
    rw [hb]
    refine ⟨(hmem _).1 (by
      rcases h1 with h | h
      · rw [h]; simp
      · exact List.mem_cons_of_mem _ h), rfl, fun R hR => ?_⟩
    rcases List.mem_cons.1 ((hmem R).2 hR) with rfl | h
    · exact ⟨h2, h4⟩
    · exact ⟨h3 R h, h5 R h⟩

theorem lastR_mem {l : List P} : lastR l = -1 ∨ ∃ p ∈ l, lastR l = p.req := by
  unfold lastR
  cases h : l.getLast? with
  | none => exact .inl rfl
  | some p => exact .inr ⟨p, List.mem_of_getLast? h, rfl⟩

theorem VP.chk (hw : Wk w) {R : List P} (h : VP w R) : chkE w R = (0, 0) ∧ PlOk R := by
  have hz : zs w [] R := zs_ix fun j x hj => by
    rw [List.nil_append]
    obtain ⟨a, b, hab⟩ : ∃ a b, R = a ++ x :: b ∧ a = R.take j := ⟨R.take j, R.drop (j + 1), by rw [← drop_get hj, List.take_append_drop], rfl⟩
    rw [← hab.2]
    have hR := hab.1
    have hxm : x ∈ R := List.mem_of_getElem? hj
    obtain ⟨h0, h1, hx⟩ := h.mem x hxm
    have hasc := h.asc
    have hnc := h.nc
    rw [hR, List.pairwise_append] at hasc hnc
    refine passE_poss hw h0 h1 hx ?_ ?_
    · rcases lastR_mem (l := a) with e | ⟨p, hp, e⟩
      · rw [e]; omega
      · rw [e]; exact hasc.2.2 p hp x (by simp)
    · exact confs_none.2 fun p hp => hnc.2.2 p hp x (by simp)
  refine ⟨chk_zs hz, by have := zs_max hw hz; omega, fun p hp => ?_⟩
  obtain ⟨h0, h1, hx⟩ := h.mem p hp
  obtain ⟨hpin, _, _, _, _, _, hsub, _⟩ := poss_in hw h0 h1 hx
  have hq := hw.few.an _ (W.rq_mem h0 h1)
  have := hsub.length_le
  exact ⟨hpin.ok, by omega⟩

theorem grps_all : ∀ {l g : List Int}, g.Sublist l → g ∈ grps g.length l
  | _, _, .slnil => by simp [grps]
  | _, _, .cons (l₁ := g) (l₂ := l) a h => by
    have ih := grps_all h
    cases g with
    | nil => simp [grps]
    | cons b g => simp only [List.length_cons, grps, List.mem_append]; exact .inr ih
  | _, _, .cons_cons (l₁ := g) (l₂ := l) a h => by
    have ih := grps_all h
    simp only [List.length_cons, grps, List.mem_append, List.mem_map]
    exact .inl ⟨g, ih, rfl⟩

theorem reqsE_of {n : Nat} : ∀ {l : List Int} {last : Int}, l.Pairwise (· < ·) → (∀ i ∈ l, 0 ≤ i ∧ i < n ∧ last < i) → reqsE n last l = 0
  | [], _, _, _ => rfl
  | a :: t, last, hp, h => by
    have hp' := List.pairwise_cons.1 hp
    obtain ⟨h0, h1, h2⟩ := h a (by simp)
    simp only [reqsE]
    rw [if_pos (wi_iff.2 ⟨h0, by omega⟩), if_pos h2]
    exact reqsE_of hp'.2 fun i hi => ⟨(h i (List.mem_cons_of_mem _ hi)).1, (h i (List.mem_cons_of_mem _ hi)).2.1, hp'.1 i hi⟩

abbrev fitG (w : W) (g : List Int) : Bool := fitsB w (freeC w) [] (maskO g)

theorem minF_small {d c : Nat} {g h : List Int} (hm : minF w c d = some g) (hs : h.Sublist (rqs w.rs.l.length)) (h1 : c ≤ h.length) (h2 : h.length < g.length) : fitG w h = true := by
  induction d generalizing c with
  | zero => simp [minF] at hm
  | succ d ih =>
    cases hf : (grps c (rqs w.rs.l.length)).find? fun g => !fitsB w (freeC w) [] (maskO g) with
    | none =>
      rw [minF_none hf] at hm
      by_cases e : c = h.length
      · subst e
        have := List.find?_eq_none.1 hf h (grps_all hs)
        simpa using this
      · exact ih hm (by omega)
    | some g' =>
      rw [minF_some hf] at hm
      injection hm with hm
      subst hm
      have := grps_len (List.mem_of_find?_eq_some hf)
      omega
theorem minF_none_all {d c : Nat} {h : List Int} (hm : minF w c d = none) (hs : h.Sublist (rqs w.rs.l.length)) (h1 : c ≤ h.length) (h2 : h.length < c + d) : fitG w h = true := by
  induction d generalizing c with
  | zero => omega
  | succ d ih =>
    cases hf : (grps c (rqs w.rs.l.length)).find? fun g => !fitsB w (freeC w) [] (maskO g) with
    | none =>
      rw [minF_none hf] at hm
      by_cases e : c = h.length
      · subst e
        have := List.find?_eq_none.1 hf h (grps_all hs)
        simpa using this
      · exact ih hm (by omega) (by omega)
    | some g' => rw [minF_some hf] at hm; cases hm

theorem fit_nil (hw : Wk w) : fitG w [] = true := by
  unfold fitG
  rw [← tog_eq hw (rq := []) List.Pairwise.nil (fun i hi => absurd hi (by simp))]
  rw [List.any_eq_true]
  refine ⟨[], ?_, by simp⟩
  rw [pls_iff hw (by omega) VP.nil (fun p hp => absurd hp (by simp))]
  exact ⟨VP.nil, [], rfl, fun p hp => absurd hp (by simp)⟩

/-- Without any one of them they can be granted. -/
theorem min_less (hw : Wk w) {g : List Int} (hm : minC w = some g) {j : Nat} (hj : j < g.length) : fitG w (g.take j ++ g.drop (j + 1)) = true ∧ (g.take j ++ g.drop (j + 1)).Pairwise (· < ·) ∧ ∀ i ∈ g.take j ++ g.drop (j + 1), 0 ≤ i ∧ i < w.rs.l.length := by
  obtain ⟨k, hk1, hk2, hg, _⟩ := minF_mem hm
  have hgs := grps_mem hg
  have hsub : (g.take j ++ g.drop (j + 1)).Sublist g := by
    rw [← List.eraseIdx_eq_take_drop_succ]; exact List.eraseIdx_sublist _ _
  have hs2 := hsub.trans hgs
  have hl : (g.take j ++ g.drop (j + 1)).length = g.length - 1 := by rw [List.length_append, List.length_take, List.length_drop]; omega
  refine ⟨?_, rqs_asc.sublist hs2, fun i hi => rqs_in i (hs2.subset hi)⟩
  by_cases h1 : 1 ≤ (g.take j ++ g.drop (j + 1)).length
  · exact minF_small hm hs2 h1 (by omega)
  · have h0 : g.take j ++ g.drop (j + 1) = [] := List.eq_nil_of_length_eq_zero (by omega)
    rw [h0]; exact fit_nil hw

theorem min_all (hw : Wk w) (hm : minC w = none) : fitG w (rqs w.rs.l.length) = true := by
  by_cases h0 : w.rs.l.length = 0
  · rw [h0]; exact fit_nil hw
  · exact minF_none_all hm (List.Sublist.refl _) (by rw [rqs_len]; omega) (by rw [rqs_len]; omega)

theorem sumV_sub (hw : Wk w) : ∀ {a b : List Int}, a.Sublist b → (∀ i ∈ b, 0 ≤ i ∧ i < w.rs.l.length) → sumV w a ≤ sumV w b
  | _, _, .slnil, _ => Int.le_refl _
  | _, _, .cons (l₁ := g) (l₂ := l) a h, hb => by
    have h1 := hb a (by simp)
    have h2 := (hw.rq h1.1 h1.2).val0
    have ih := sumV_sub hw h fun i hi => hb i (List.mem_cons_of_mem _ hi)
    simp only [sumV]; omega
  | _, _, .cons_cons (l₁ := g) (l₂ := l) a h, hb => by
    have ih := sumV_sub hw h fun i hi => hb i (List.mem_cons_of_mem _ hi)
    simp only [sumV]; omega

/-- If all requests can be granted the best plan grants them. -/
theorem best_all (hw : Wk w) (hf : fitG w (rqs w.rs.l.length) = true) : (bestW w).2.1 = sumV w (rqs w.rs.l.length) := by
  obtain ⟨hv, hval, hmax⟩ := best_is hw
  obtain ⟨R, hR, ho, _⟩ := plan_of_fits hw (pl := []) (k := 0) VP.nil (fun p hp => absurd hp (by simp)) (maskO_lt rqs_in) (fun i hi => absurd hi (Nat.not_lt_zero _)) hf
  have hR : VP w R := hR
  have ho : ownM R = maskO (rqs w.rs.l.length) := ho
  have hr := hR.reqs hw
  rw [ho, mems_mask hw rqs_asc rqs_in] at hr
  have h1 := (hmax R hR).1
  rw [← sumV_map, ← hr] at h1
  have hsub : ((bestW w).1.map (·.req)).Sublist (rqs w.rs.l.length) := asc_sub (by rw [List.pairwise_map]; exact hv.asc) rqs_asc fun x hx => by
    obtain ⟨p, hp, rfl⟩ := List.mem_map.1 hx
    obtain ⟨h0, h1, _⟩ := hv.mem p hp
    have := rqs_all (n := w.rs.l.length) p.req.toNat (by omega)
    rwa [show ((p.req.toNat : Nat) : Int) = p.req by omega] at this
  have h2 := sumV_sub hw hsub rqs_in
  rw [sumV_map, hval] at h2
  omega

/-- The best plan leaves one of a conflict's requests out. -/
theorem best_out (hw : Wk w) {g : List Int} (hm : minC w = some g) : (g.any fun a => (pOf (bestW w).1 a).isNone) = true := by
  obtain ⟨hv, hval, hmax⟩ := best_is hw
  obtain ⟨k, hk1, hk2, hg, hf⟩ := minF_mem hm
  obtain ⟨ga, gin⟩ := grp_in hg
  apply Classical.byContradiction
  intro hno
  have hno : (g.any fun a => (pOf (bestW w).1 a).isNone) = false := by simpa using hno
  have hall : ∀ a ∈ g, ∃ p ∈ (bestW w).1, p.req = a := fun a ha => by
    have : (pOf (bestW w).1 a).isNone = false := by
      rw [List.any_eq_false] at hno
      have h := hno a ha
      cases hc : (pOf (bestW w).1 a).isNone with
      | false => rfl
      | true => exact absurd hc h
    cases hp : pOf (bestW w).1 a with
    | none => rw [hp] at this; exact absurd this (by decide)
    | some p => exact ⟨p, pOf_some hp⟩
  have hR : VP w ((bestW w).1.filter fun p => decide (p.req ∈ g)) := ⟨fun p hp => hv.mem p (List.mem_filter.1 hp).1, hv.asc.filter _, hv.nc.filter _⟩
  have hown : ownM ((bestW w).1.filter fun p => decide (p.req ∈ g)) = maskO g := by
    apply Nat.eq_of_testBit_eq
    intro i
    unfold maskO
    rw [ownM_bit, maskO_bit, Nat.zero_testBit, Bool.false_or]
    apply Bool.eq_iff_iff.2
    rw [List.any_eq_true, List.any_eq_true]
    constructor
    · rintro ⟨p, hp, he⟩
      have := (List.mem_filter.1 hp).2
      exact ⟨p.req, by simpa using this, he⟩
    · rintro ⟨a, ha, he⟩
      obtain ⟨p, hp, rfl⟩ := hall a ha
      exact ⟨p, List.mem_filter.2 ⟨hp, by simpa using ha⟩, he⟩
  have := fits_of_plan hw (pl := []) (rest := (bestW w).1.filter fun p => decide (p.req ∈ g)) hR
  rw [List.nil_append, hown, hf] at this
  exact absurd this (by decide)
end
end Go.Ax.Sx.Sc

namespace Go.Ax.Sx.Sc
open Go.Ax
set_option linter.unusedSimpArgs false
set_option linter.unusedVariables false
set_option maxRecDepth 100000

section
variable {s : Sig} {w : W}

theorem rqs_succ {k : Nat} : rqs (k + 1) = rqs k ++ [(k : Int)] := by
  unfold rqs; rw [List.range_succ, List.map_append]; rfl
theorem app_ints {tk : List (Option Nat)} {a b : List Int} {oo o : Own} {e : Nat} (hs : Ok s) (hb : b = [] ∨ e = 1) (h : (oo = .full ∧ a = []) ∨ ∃ g, oo = .tok s.acts.length g ∧ tk[g]? = some (some a.length)) (hl : a.length + b.length ≤ 4294967296) :
    ∃ o2 tk2, ∀ bx, appendOp (s.push ⟨bx, tk⟩) 1 (.slice oo 1 (a.map rowI)) (.slice o e (b.map rowI)) = some (.slice o2 1 ((a ++ b).map rowI), s.push ⟨bx, tk2⟩) := by
  by_cases hb0 : b = []
  · subst hb0
    exact ⟨oo, tk, fun bx => by simp [appendOp]⟩
  · have he : e = 1 := by rcases hb with h | h; exact absurd h hb0; exact h
    subst he
    have hAG : AG s.acts.length 1 (a.map rowI) (.slice oo 1 (a.map rowI)) tk := by
      rcases h with ⟨rfl, _⟩ | ⟨g, rfl, hg⟩
      · exact .inl rfl
      · exact .inr ⟨g, rfl, by rw [List.length_map]; exact hg⟩
    obtain ⟨x, tk2, h1, h2⟩ := hAG.append hs o (ys := b.map rowI) (by simpa using hb0) (by rw [List.length_map, List.length_map]; exact hl)
    obtain ⟨o2, rfl⟩ := h2.sl
    exact ⟨o2, tk2, fun bx => by rw [h1, List.map_append]⟩

theorem l_ScheduleConflicts (hs : Ok s) (hw : w.Ok) (hb : w.Big) : callL AP (.fn 3) [w.v] s = some (B true, s) := by
  have haw : ∀ r, callL AP (.fn 4) [] (s.push r) = some (B true, s.push r) := fun r => l_awake (hs.push r)
  have hfe : ∀ r, callL AP (.fn 5) [w.v] (s.push r) = some (B (lightB w), s.push r) := fun r => l_Light (hs.push r) hw hb
  cases hf : lightB w with
  | false =>
    simp only [W.v, rowW, Sl.v] at hfe
    rw [callL_go (show AP 3 = some c_l_ScheduleConflicts from rfl) rfl]
    simp (maxSteps := 1000000) only [go_sem, b_l_ScheduleConflicts, haw, hfe, hf, Nat.reduceEqDiff, Nat.reduceAdd, ↓reduceIte]
  | true =>
    have hF : w.Few := fewB_iff (by unfold lightB at hf; rw [Bool.and_eq_true] at hf; exact hf.1)
    have hcp : ∀ r, callL AP (.fn 8) [w.v] (s.push r) = some ((cW w).v, s.push r) := fun r => r_CopyWeek (hs.push r) hw hF
    have hse : ∀ r, callL AP (.fn 6) [w.v] (s.push r) = some (I (smallE w), s.push r) := fun r => r_SmallErr (hs.push r) hw hF
    by_cases h0 : smallE w = 0
    · have hwe := smallE_ok h0
      have hwk : Wk w := ⟨hw, hF, weekE_ok hwe⟩
      have hrl := hwk.v.rl
      obtain ⟨hb1, hb2⟩ := best_c hwk hwe
      obtain ⟨hbv, hbval, hbmax⟩ := best_is hwk
      obtain ⟨hck, hpo⟩ := hbv.chk hwk
      have hsb : ∀ r, callL AP (.fn 9) [(cW w).v] (s.push r) = some (.tuple [(acS 3 (bestW w).1).v rowP, I (bestW w).2.1, I 0], s.push r) := fun r => by
        rw [s_Best (hs.push r) cW_Ok (cW_Few hF), smallE_c, if_pos h0, if_pos h0, hb1, hb2, h0, acS_v]
      have hpe : ∀ r, callL AP (.fn 10) [w.v, (acS 3 (bestW w).1).v rowP] (s.push r) = some (I 0, s.push r) := fun r => by
        have h := r_PlanErr (l := (acS 3 (bestW w).1).l) (o := (acS 3 (bestW w).1).o) (e := (acS 3 (bestW w).1).e) (hs.push r) hw hF (by rw [acS_l]; exact hpo) acS_ok.1
        refine h.trans ?_
        rw [acS_l]
        unfold planE
        rw [if_pos hwe, hck]
      have hmc : ∀ r, callL AP (.fn 7) [(cW w).v] (s.push r) = some (minV (cW w), s.push r) := fun r => s_MinimumConflict (hs.push r) cW_Ok (cW_Few hF)
      have htg : ∀ (m : Sig) (x : List Int) (oo : Own) (e : Nat), Ok m → (x = [] ∨ e = 1) → x.length ≤ 100000 → x.Pairwise (· < ·) → (∀ i ∈ x, 0 ≤ i ∧ i < w.rs.l.length) → callL AP (.fn 11) [(cW w).v, .slice oo e (x.map rowI)] m = some (.tuple [B (fitG w x), I 0], m) := fun m x oo e hm he hl ha hin => by
        rw [s_Together hm cW_Ok (cW_Few hF) he hl, smallE_c, if_pos h0, if_pos h0, cW_len, reqsE_of ha fun i hi => ⟨(hin i hi).1, (hin i hi).2, by have := (hin i hi).1; omega⟩, if_pos rfl, fits_c hwk hwe ha hin]
      unfold minV at hmc
      rw [smallE_c] at hmc
      simp only [h0, if_true, minC_c hwk hwe] at hmc
      rw [h0] at hse
      cases hm : minC w with
      | none =>
        rw [hm] at hmc
        have hmc' : ∀ r, callL AP (.fn 7) [(cW w).v] (s.push r) = some (.tuple [.slice .nilS 0 [], I 12], s.push r) := hmc
        have hfa := min_all hwk hm
        have hba := best_all hwk hfa
        have hall : ∀ r, callL AP (.fn 12) [w.v] (s.push r) = some ((acS 1 (rqs w.rs.l.length)).v rowI, s.push r) := fun r => by rw [r_All (hs.push r) (by omega), acS_v]
        have hcpr : ∀ r, callL AP (.fn 8) [w.v] (roS (s.push r)) = some ((cW w).v, roS (s.push r)) := fun r => r_CopyWeek ok_roS hw hF
        have htg' : ∀ r, callL AP (.fn 11) [(cW w).v, (acS 1 (rqs w.rs.l.length)).v rowI] (s.push r) = some (.tuple [B true, I 0], s.push r) := fun r => by
          have := htg (s.push r) (acS 1 (rqs w.rs.l.length)).l (acS 1 (rqs w.rs.l.length)).o (acS 1 (rqs w.rs.l.length)).e (hs.push r) acS_ok.1 (by rw [acS_l, rqs_len]; omega) (by rw [acS_l]; exact rqs_asc) (by rw [acS_l]; exact rqs_in)
          rw [acS_l, hfa] at this
          refine Eq.trans ?_ this
          simp only [Sl.v, acS_l]
        have key : ∀ (j : Nat) ρ m, j ≤ w.rs.l.length → (ρ 1 = .ptr s.acts.length 0 0 ∧ ρ 3 = .slice .nilS 0 [] ∧ ρ 4 = I 12 ∧ ρ 6 = I (bestW w).2.1 ∧ ρ 8 = I (sumV w (rqs j)) ∧ ρ 9 = I j ∧ ∃ tk, m = s.push ⟨[rowW w], tk⟩) →
            go AP f_l_ScheduleConflicts (.c (.loop b_l_ScheduleConflicts_l1) :: k_l_ScheduleConflicts_1) ⟨ρ, m⟩ = some (B true, s) := by
          refine loop_up w.rs.l.length _ _ ?_ ?_
          · rintro j ρ m hj ⟨g1, g3, g4, g6, g8, g9, tk, rfl⟩ ih
            obtain ⟨q, hq⟩ := get_some hj
            have hix := Sl.ix (f := rowR) hw.rs hq
            have hrq : (w.rq (j : Int)) = q := by unfold W.rq; rw [Int.toNat_natCast, hq]; rfl
            have hb1 := sumV_bd hwk (l := rqs j) fun i hi => by have := rqs_in i hi; omega
            rw [rqs_len] at hb1
            have hq2 := hwk.rq (i := (j : Int)) (by omega) (by omega)
            have hv0 := hq2.val0
            have hv1 := hq2.val1
            rw [hrq] at hv0 hv1
            have hnx : sumV w (rqs (j + 1)) = sumV w (rqs j) + q.val := by rw [rqs_succ, sumV_app]; simp only [sumV, hrq]; omega
            have w1 : IntKind.i64.wrap (sumV w (rqs j) + q.val) = sumV w (rqs j) + q.val := wrap_id (by omega) (by omega)
            simp only [rowR, Sl.v] at hix
            simp (maxSteps := 1000000) only [go_sem, b_l_ScheduleConflicts_l1, g1, g8, g9, lt_dec hj, hix, w1, wrap_succ hj (show (w.rs.l.length : Int) < _ by omega), Nat.reduceEqDiff, Nat.reduceAdd, ↓reduceIte]
            refine ih _ _ ?_
            exact ⟨g1, g3, g4, g6, by rw [hnx]; rfl, rfl, tk, rfl⟩
          · rintro ρ m ⟨g1, g3, g4, g6, g8, g9, tk, rfl⟩
            have hd : decide ((bestW w).2.1 = sumV w (rqs w.rs.l.length)) = true := by rw [hba]; simp
            simp only [W.v, rowW, Sl.v] at hall hcpr htg'
            simp (maxSteps := 1000000) only [go_sem, b_l_ScheduleConflicts_l1, b_l_ScheduleConflicts_r2, g1, g3, g4, g6, g8, g9, ge_dec, hall, hcpr, htg', hd, Nat.reduceEqDiff, Nat.reduceAdd, Int.cast_ofNat_Int, ↓reduceIte]
        simp only [W.v, rowW, Sl.v] at hfe hcp hse hsb hpe hmc'
        rw [callL_go (show AP 3 = some c_l_ScheduleConflicts from rfl) rfl]
        simp (maxSteps := 1000000) only [go_sem, b_l_ScheduleConflicts, haw, hfe, hf, hcp, hse, hmc', hsb, hpe, ne_eq, not_true, not_false_iff, decide_true, Bool.not_true, Nat.reduceEqDiff, Nat.reduceAdd, Int.reduceEq, ↓reduceIte]
        refine key 0 _ _ (Nat.zero_le _) ?_
        exact ⟨rfl, rfl, rfl, rfl, rfl, rfl, _, rfl⟩
      | some g =>
        rw [hm] at hmc
        obtain ⟨k, hk1, hk2, hg, hgf⟩ := minF_mem hm
        obtain ⟨ga, gin⟩ := grp_in hg
        have hgl := grps_len hg
        have hg0 : g ≠ [] := fun e => by rw [e] at hgl; simp at hgl; omega
        have hacc : accV 1 (g.map rowI) = .slice .any 1 (g.map rowI) := by cases g with | nil => exact absurd rfl hg0 | cons _ _ => rfl
        simp only [Option.getD_some, Option.isSome_some, if_true, hacc] at hmc
        have hgl0 : decide ((g.length : Int) = 0) = false := by simp; exact fun e => hg0 e
        have hre : ∀ r, callL AP (.fn 13) [w.v, .slice .any 1 (g.map rowI)] (s.push r) = some (I 0, s.push r) := fun r => by
          rw [r_RequestsErr (hs.push r) hF.rs (.inr rfl) (by omega), reqsE_of ga fun i hi => ⟨(gin i hi).1, (gin i hi).2, by have := (gin i hi).1; omega⟩]
        obtain ⟨oo, tk1, hci, _⟩ := b_CopyInts (Q := s) (tk := []) (l := g) (o := .any) (e := 1) hs (.inr rfl) (by omega)
        have htg1 : ∀ r, callL AP (.fn 11) [(cW w).v, .slice oo 1 (g.map rowI)] (s.push r) = some (.tuple [B false, I 0], s.push r) := fun r => by
          rw [htg (s.push r) g oo 1 (hs.push r) (.inr rfl) (by omega) ga gin]
          unfold fitG; rw [hgf]
        have key : ∀ (j : Nat) ρ m, j ≤ g.length → (ρ 1 = .ptr s.acts.length 0 0 ∧ ρ 3 = .slice .any 1 (g.map rowI) ∧ ρ 5 = (acS 3 (bestW w).1).v rowP ∧ ρ 14 = B ((g.take j).any fun a => (pOf (bestW w).1 a).isNone) ∧ ρ 15 = I j ∧ ∃ tk, m = s.push ⟨[rowW w], tk⟩) →
            go AP f_l_ScheduleConflicts (.c (.loop b_l_ScheduleConflicts_l0) :: k_l_ScheduleConflicts_0) ⟨ρ, m⟩ = some (B true, s) := by
          refine loop_up g.length _ _ ?_ ?_
          · rintro j ρ m hj ⟨g1, g3, g5, g14, g15, tk, rfl⟩ ih
            obtain ⟨a, ha⟩ := get_some hj
            have hix := ix_map (o := .any) (es := 1) (f := rowI) ha
            obtain ⟨ot, hot⟩ := slice_take (f := rowI) (o := .any) (es := 1) (l := g) (k := j) (by omega)
            obtain ⟨od, hod⟩ := slice_drop (f := rowI) (o := .any) (es := 1) (l := g) (k := j + 1) (by omega)
            have hwj := wrap_succ hj (show (g.length : Int) < _ by omega)
            have hlt : (g.take j).length ≤ 4294967296 := by rw [List.length_take]; omega
            obtain ⟨oc, tkc, hc, _, _, hc1, hc2⟩ := b_CopyInts (Q := s) (tk := tk) (l := g.take j) (o := ot) (e := 1) hs (.inr rfl) hlt
            obtain ⟨o2, tk2, happ⟩ := app_ints (s := s) (tk := tkc) (a := g.take j) (b := g.drop (j + 1)) (oo := oc) (o := od) (e := 1) hs (.inr rfl) (by
              by_cases hz : g.take j = []
              · exact .inl ⟨hc1 hz, hz⟩
              · obtain ⟨e1, e2⟩ := hc2 hz
                exact .inr ⟨tk.length, e1, by rw [e2]; simp⟩) (by rw [List.length_take, List.length_drop]; omega)
            obtain ⟨hf1, hf2, hf3⟩ := min_less hwk hm hj
            have htl : ∀ r, callL AP (.fn 11) [(cW w).v, .slice o2 1 ((g.take j ++ g.drop (j + 1)).map rowI)] (s.push r) = some (.tuple [B true, I 0], s.push r) := fun r => by
              rw [htg (s.push r) _ o2 1 (hs.push r) (.inr rfl) (by rw [List.length_append, List.length_take, List.length_drop]; omega) hf2 hf3, hf1]
            have hpa : ∀ m : Sig, callL AP (.fn 15) [(acS 3 (bestW w).1).v rowP, I a] m = some (I (findI (fun p : P => decide (p.req = a)) (bestW w).1), m) := fun m => by
              have := r_PassOf (s := m) (l := (acS 3 (bestW w).1).l) (o := (acS 3 (bestW w).1).o) (e := (acS 3 (bestW w).1).e) (i := a) acS_ok.1 (by rw [acS_l]; have := hpo.len; omega)
              rw [acS_l] at this
              refine Eq.trans ?_ this
              simp only [Sl.v, acS_l]
            have hfd : decide (findI (fun p : P => decide (p.req = a)) (bestW w).1 < 0) = (pOf (bestW w).1 a).isNone := by
              have h := findI_pOf (l := (bestW w).1) (i := a)
              by_cases hz : findI (fun p : P => decide (p.req = a)) (bestW w).1 < 0
              · rw [decide_eq_true hz]
                rw [decide_eq_false (by omega)] at h
                cases hp : pOf (bestW w).1 a with
                | none => rfl
                | some _ => rw [hp] at h; exact absurd h (by simp)
              · rw [decide_eq_false hz]
                rw [decide_eq_true (by omega)] at h
                cases hp : pOf (bestW w).1 a with
                | none => rw [hp] at h; exact absurd h (by simp)
                | some _ => rfl
            have hnx : ((g.take (j + 1)).any fun a => (pOf (bestW w).1 a).isNone) = (((g.take j).any fun a => (pOf (bestW w).1 a).isNone) || (pOf (bestW w).1 a).isNone) := by
              rw [take_get ha, List.any_append]; simp
            simp only [Sl.v] at g5 hpa
            simp only [W.v, rowW, Sl.v] at hcp htl
            cases hd : (g.take j).any fun a => (pOf (bestW w).1 a).isNone with
            | true =>
              rw [hd] at g14
              simp (maxSteps := 1000000) only [go_sem, b_l_ScheduleConflicts_l0, g1, g3, g14, g15, lt_dec hj, hot, hod, hc, happ, hwj, hcp, htl, ne_eq, not_true, Bool.not_true, Nat.reduceEqDiff, ↓reduceIte]
              refine ih _ _ ?_
              exact ⟨g1, g3, by simp only [Sl.v]; exact g5, by rw [hnx, hd]; rfl, rfl, tk2, rfl⟩
            | false =>
              rw [hd] at g14
              simp (maxSteps := 1000000) only [go_sem, b_l_ScheduleConflicts_l0, g1, g3, g5, g14, g15, lt_dec hj, hot, hod, hc, happ, hwj, hcp, htl, hix, hpa, hfd, ne_eq, not_true, Bool.not_true, Nat.reduceEqDiff, ↓reduceIte]
              refine ih _ _ ?_
              exact ⟨g1, g3, by simp only [Sl.v]; exact g5, by rw [hnx, hd]; rfl, rfl, tk2, rfl⟩
          · rintro ρ m ⟨g1, g3, g5, g14, g15, tk, rfl⟩
            rw [List.take_length, best_out hwk hm] at g14
            simp (maxSteps := 1000000) only [go_sem, b_l_ScheduleConflicts_l0, b_l_ScheduleConflicts_r0, g3, g14, g15, ge_dec, Nat.reduceEqDiff, ↓reduceIte]
        simp only [W.v, rowW, Sl.v] at hfe hcp hse hsb hpe hmc hre htg1 hci
        rw [callL_go (show AP 3 = some c_l_ScheduleConflicts from rfl) rfl]
        simp (maxSteps := 1000000) only [go_sem, b_l_ScheduleConflicts, b_l_ScheduleConflicts_r1, haw, hfe, hf, hcp, hse, hmc, hsb, hpe, hgl0, hre, hci, htg1, ne_eq, not_true, Bool.not_true, Nat.reduceEqDiff, Nat.reduceAdd, ↓reduceIte]
        refine key 0 _ _ (Nat.zero_le _) ?_
        exact ⟨rfl, rfl, rfl, rfl, rfl, _, rfl⟩
    · simp only [W.v, rowW, Sl.v] at hfe hse
      rw [callL_go (show AP 3 = some c_l_ScheduleConflicts from rfl) rfl]
      simp (maxSteps := 1000000) only [go_sem, b_l_ScheduleConflicts, haw, hfe, hf, hse, h0, ne_eq, not_false_iff, decide_true, Bool.not_true, Nat.reduceEqDiff, Nat.reduceAdd, ↓reduceIte]
end
end Go.Ax.Sx.Sc

namespace Go.Ax.Sx.Sc
open Go.Ax

section
variable {P : Program} {d : Nat}

def Flds (P : Program) (t : TypeId) (ts : List TypeId) : Prop := ∃ fs : Array Field, P.underlying t = some (.struct fs) ∧ fs.toList.map (·.type) = ts

theorem shp_flds {t : TypeId} {ts : List TypeId} {avs : List AV} (hf : Flds P t ts) (h : Shp P (d + 1) t avs) :
    ∃ ps : List (List AV), avs = ps.flatten ∧ ps.length = ts.length ∧ ∀ (i : Nat) (u : TypeId) (p : List AV), ts[i]? = some u → ps[i]? = some p → Shp P d u p := by
  obtain ⟨fs, hu, rfl⟩ := hf
  obtain ⟨ps, h1, h2, h3⟩ := shp_struct hu h
  refine ⟨ps, h1, by simp [h2], fun i u p hi hp => ?_⟩
  rw [List.getElem?_map] at hi
  obtain ⟨f, hf, rfl⟩ := Option.map_eq_some_iff.1 hi
  exact h3 i f p (by simpa using hf) hp

/-- The types of a week. -/
structure WkT (P : Program) (ti ts tg tgs tis ta tas tr trs tw : TypeId) : Prop where
  i : P.underlying ti = some (.int .i64)
  s : P.underlying ts = some .string
  g : Flds P tg [ti, ti]
  gs : P.underlying tgs = some (.slice tg)
  gc : P.cellsOf tg = 2
  is : P.underlying tis = some (.slice ti)
  ic : P.cellsOf ti = 1
  a : Flds P ta [ts, ti, tgs]
  sa : P.underlying tas = some (.slice ta)
  ac : P.cellsOf ta = 3
  r : Flds P tr [ts, tg, ti, ti, tis, ti]
  sr : P.underlying trs = some (.slice tr)
  rc : P.cellsOf tr = 7
  w : Flds P tw [ti, tas, trs]

variable {ti ts tg tgs tis ta tas tr trs tw : TypeId}

theorem maxLen_lt {n : Nat} (h : n ≤ maxLen) : (n : Int) < 9223372036854775808 := by unfold maxLen at h; omega

theorem shp_rng (T : WkT P ti ts tg tgs tis ta tas tr trs tw) {avs : List AV} (h : Shp P (d + 2) tg avs) : ∃ x : Int × Int, avs = rowG x ∧ True := by
  obtain ⟨ps, rfl, hl, hp⟩ := shp_flds T.g h
  match ps, hl, hp with
  | [p0, p1], _, hp =>
    obtain ⟨a, rfl, _⟩ := shp_int T.i (hp 0 _ p0 rfl rfl)
    obtain ⟨b, rfl, _⟩ := shp_int T.i (hp 1 _ p1 rfl rfl)
    exact ⟨(a, b), rfl, trivial⟩

theorem own_ok {o : Own} {rows : List (List AV)} (h : o = .any ∨ (o = .nilS ∧ rows = [])) : o = .any ∨ (o = .nilS ∧ rows = []) := h

theorem shp_ints (T : WkT P ti ts tg tgs tis ta tas tr trs tw) {avs : List AV} (h : Shp P (d + 2) tis avs) : ∃ x : Sl Int, avs = [x.v rowI] ∧ x.ok 1 ∧ (x.l.length : Int) < 9223372036854775808 := by
  obtain ⟨o, rows, rfl, ho, hlen, hrows⟩ := shp_slice T.is h
  obtain ⟨l, rfl, _⟩ := rows_eq (f := rowI) (g := fun _ => True) (fun r hr => by
    obtain ⟨x, hx, _⟩ := shp_int T.i (hrows r hr)
    exact ⟨x, hx, trivial⟩)
  rw [List.length_map] at hlen
  rw [T.ic]
  refine ⟨⟨o, 1, l⟩, rfl, ?_, maxLen_lt hlen⟩
  rcases ho with rfl | ⟨rfl, h⟩
  · exact ⟨.inr rfl, .inl rfl⟩
  · exact ⟨.inr rfl, .inr (.inr ⟨rfl, List.map_eq_nil_iff.1 (by assumption)⟩)⟩

theorem shp_rngs (T : WkT P ti ts tg tgs tis ta tas tr trs tw) {avs : List AV} (h : Shp P (d + 3) tgs avs) : ∃ x : Sl (Int × Int), avs = [x.v rowG] ∧ x.ok 2 ∧ (x.l.length : Int) < 9223372036854775808 := by
  obtain ⟨o, rows, rfl, ho, hlen, hrows⟩ := shp_slice T.gs h
  obtain ⟨l, rfl, _⟩ := rows_eq (f := rowG) (g := fun _ => True) (fun r hr => shp_rng T (hrows r hr))
  rw [List.length_map] at hlen
  rw [T.gc]
  refine ⟨⟨o, 2, l⟩, rfl, ?_, maxLen_lt hlen⟩
  rcases ho with rfl | ⟨rfl, h⟩
  · exact ⟨.inr rfl, .inl rfl⟩
  · exact ⟨.inr rfl, .inr (.inr ⟨rfl, List.map_eq_nil_iff.1 (by assumption)⟩)⟩

theorem shp_ant (T : WkT P ti ts tg tgs tis ta tas tr trs tw) {avs : List AV} (h : Shp P (d + 4) ta avs) :
    ∃ a : A, avs = rowA a ∧ (a.cl.ok 2 ∧ (a.name.size : Int) < 9223372036854775808 ∧ (a.cl.l.length : Int) < 9223372036854775808) := by
  obtain ⟨ps, rfl, hl, hp⟩ := shp_flds T.a h
  match ps, hl, hp with
  | [p0, p1, p2], _, hp =>
    obtain ⟨n, rfl, hn⟩ := shp_str T.s (hp 0 _ p0 rfl rfl)
    obtain ⟨b, rfl, _⟩ := shp_int T.i (hp 1 _ p1 rfl rfl)
    obtain ⟨c, rfl, hc, hcl⟩ := shp_rngs T (hp 2 _ p2 rfl rfl)
    exact ⟨⟨n, b, c⟩, rfl, hc, maxLen_lt hn, hcl⟩

theorem shp_req (T : WkT P ti ts tg tgs tis ta tas tr trs tw) {avs : List AV} (h : Shp P (d + 4) tr avs) :
    ∃ r : R, avs = rowR r ∧ (r.an.ok 1 ∧ (r.mis.size : Int) < 9223372036854775808 ∧ (r.an.l.length : Int) < 9223372036854775808) := by
  obtain ⟨ps, rfl, hl, hp⟩ := shp_flds T.r h
  match ps, hl, hp with
  | [p0, p1, p2, p3, p4, p5], _, hp =>
    obtain ⟨n, rfl, hn⟩ := shp_str T.s (hp 0 _ p0 rfl rfl)
    obtain ⟨g, rfl, _⟩ := shp_rng T (hp 1 _ p1 rfl rfl)
    obtain ⟨b, rfl, _⟩ := shp_int T.i (hp 2 _ p2 rfl rfl)
    obtain ⟨c, rfl, _⟩ := shp_int T.i (hp 3 _ p3 rfl rfl)
    obtain ⟨x, rfl, hx, hxl⟩ := shp_ints T (hp 4 _ p4 rfl rfl)
    obtain ⟨e, rfl, _⟩ := shp_int T.i (hp 5 _ p5 rfl rfl)
    exact ⟨⟨n, g.1, g.2, b, c, x, e⟩, rfl, hx, maxLen_lt hn, hxl⟩

theorem shp_week (T : WkT P ti ts tg tgs tis ta tas tr trs tw) {avs : List AV} (h : Shp P (d + 6) tw avs) : ∃ w : W, AV.agg avs = w.v ∧ w.Ok ∧ w.Big := by
  obtain ⟨ps, rfl, hl, hp⟩ := shp_flds T.w h
  match ps, hl, hp with
  | [p0, p1, p2], _, hp =>
    obtain ⟨n, rfl, _⟩ := shp_int T.i (hp 0 _ p0 rfl rfl)
    obtain ⟨o1, r1, rfl, ho1, hl1, hr1⟩ := shp_slice T.sa (hp 1 _ p1 rfl rfl)
    obtain ⟨o2, r2, rfl, ho2, hl2, hr2⟩ := shp_slice T.sr (hp 2 _ p2 rfl rfl)
    obtain ⟨as, rfl, has⟩ := rows_eq (fun r hr => shp_ant T (hr1 r hr))
    obtain ⟨rs, rfl, hrs⟩ := rows_eq (fun r hr => shp_req T (hr2 r hr))
    rw [List.length_map] at hl1 hl2
    rw [T.ac, T.rc]
    refine ⟨⟨n, ⟨o1, 3, as⟩, ⟨o2, 7, rs⟩⟩, rfl, ⟨?_, fun a ha => (has a ha).1, ?_, fun r hr => (hrs r hr).1⟩, ⟨maxLen_lt hl1, maxLen_lt hl2, fun a ha => (has a ha).2.1, fun a ha => (has a ha).2.2, fun r hr => (hrs r hr).2.1, fun r hr => (hrs r hr).2.2⟩⟩
    · rcases ho1 with rfl | ⟨rfl, h⟩
      · exact ⟨.inr rfl, .inl rfl⟩
      · exact ⟨.inr rfl, .inr (.inr ⟨rfl, List.map_eq_nil_iff.1 (by assumption)⟩)⟩
    · rcases ho2 with rfl | ⟨rfl, h⟩
      · exact ⟨.inr rfl, .inl rfl⟩
      · exact ⟨.inr rfl, .inr (.inr ⟨rfl, List.map_eq_nil_iff.1 (by assumption)⟩)⟩
end
end Go.Ax.Sx.Sc
