/-
  What a week is among the values that an argument may read as.
-/
import Derived.Test.YtjeekkklapmkfaaGreatDoorT13
import Derived.Test.YtjeekkklapmkfaaGreatDoorT12
import Derived.Test.YtjeekkklapmkfaaGreatDoorT7
namespace Go.Ax.Sx.Sc
open Go.Ax
set_option linter.unusedSimpArgs false
set_option linter.unusedVariables false
set_option maxRecDepth 100000

section
variable {s : Sig} {w : W}

theorem reqsE_ok {n : Nat} : ∀ {l : List Int} {last : Int}, reqsE n last l = 0 → (∀ i ∈ l, 0 ≤ i ∧ i < n ∧ (l.head? = some i ∨ last < i)) ∧ l.Pairwise (· < ·) ∧ ∀ i ∈ l, last < i
  | [], last, _ => ⟨fun i h => absurd h (by simp), List.Pairwise.nil, fun i h => absurd h (by simp)⟩
  | a :: t, last, h => by
    simp only [reqsE] at h
    by_cases h1 : wi a 0 (n - 1) = true
    · rw [if_pos h1] at h
      by_cases h2 : last < a
      · rw [if_pos h2] at h
        obtain ⟨i1, i2, i3⟩ := reqsE_ok h
        have ha := wi_iff.1 h1
        have hl : ∀ i ∈ a :: t, last < i := fun i hi => by
          rcases List.mem_cons.1 hi with rfl | hi
          · exact h2
          · have := i3 i hi; omega
        refine ⟨fun i hi => ?_, List.pairwise_cons.2 ⟨fun b hb => i3 b hb, i2⟩, hl⟩
        refine ⟨?_, ?_, .inr (hl i hi)⟩
        · rcases List.mem_cons.1 hi with rfl | hi
          · omega
          · exact (i1 i hi).1
        · rcases List.mem_cons.1 hi with rfl | hi
          · omega
          · exact (i1 i hi).2.1
      · rw [if_neg h2] at h; exact absurd h (by decide)
    · rw [if_neg h1] at h; exact absurd h (by decide)
theorem reqs_ok {n : Nat} {l : List Int} (h : reqsE n (-1) l = 0) : l.Pairwise (· < ·) ∧ ∀ i ∈ l, 0 ≤ i ∧ i < n :=
  ⟨(reqsE_ok h).2.1, fun i hi => ⟨((reqsE_ok h).1 i hi).1, ((reqsE_ok h).1 i hi).2.1⟩⟩

theorem fits_c (hw : Wk w) (h0 : (weekE w).2.2 = 0) {rq : List Int} (ha : rq.Pairwise (· < ·)) (hin : ∀ i ∈ rq, 0 ≤ i ∧ i < w.rs.l.length) : fitsB (cW w) (freeC (cW w)) [] (maskO rq) = fitsB w (freeC w) [] (maskO rq) := by
  rw [← tog_eq hw ha hin, ← tog_eq (hw.c h0) ha (by rw [cW_len]; exact hin), cW_len, pls_c hw (by omega) (fun x hx => absurd hx (by simp))]

theorem find_congr {α : Type} {f g : α → Bool} : ∀ {l : List α}, (∀ x ∈ l, f x = g x) → l.find? f = l.find? g
  | [], _ => rfl
  | a :: r, h => by
    rw [List.find?_cons, List.find?_cons, h a (by simp), find_congr fun x hx => h x (List.mem_cons_of_mem _ hx)]

theorem minF_c (hw : Wk w) (h0 : (weekE w).2.2 = 0) : ∀ {d c : Nat}, minF (cW w) c d = minF w c d
  | 0, _ => rfl
  | d + 1, c => by
    have h : ((grps c (rqs (cW w).rs.l.length)).find? fun g => !fitsB (cW w) (freeC (cW w)) [] (maskO g)) = (grps c (rqs w.rs.l.length)).find? fun g => !fitsB w (freeC w) [] (maskO g) := by
      rw [cW_len]
      refine find_congr fun g hg => ?_
      obtain ⟨ga, gin⟩ := grp_in hg
      rw [fits_c hw h0 ga gin]
    have ih := minF_c hw h0 (d := d) (c := c + 1)
    cases hf : (grps c (rqs w.rs.l.length)).find? fun g => !fitsB w (freeC w) [] (maskO g) with
    | none => rw [minF_none hf, minF_none (by rw [h, hf]), ih]
    | some g => rw [minF_some hf, minF_some (by rw [h, hf])]
theorem minC_c (hw : Wk w) (h0 : (weekE w).2.2 = 0) : minC (cW w) = minC w := by
  unfold minC; rw [cW_len, minF_c hw h0]

theorem minF_mem : ∀ {d c : Nat} {g : List Int}, minF w c d = some g → ∃ k, c ≤ k ∧ k < c + d ∧ g ∈ grps k (rqs w.rs.l.length) ∧ fitsB w (freeC w) [] (maskO g) = false
  | 0, c, g, h => by simp [minF] at h
  | d + 1, c, g, h => by
    cases hf : (grps c (rqs w.rs.l.length)).find? fun g => !fitsB w (freeC w) [] (maskO g) with
    | none =>
      rw [minF_none hf] at h
      obtain ⟨k, h1, h2, h3⟩ := minF_mem h
      exact ⟨k, by omega, by omega, h3⟩
    | some g' =>
      rw [minF_some hf] at h
      injection h with h
      subst h
      exact ⟨c, Nat.le_refl _, by omega, List.mem_of_find?_eq_some hf, by have := List.find?_some hf; simpa using this⟩

theorem b_Ints {a b : List Int} {o1 o2 : Own} {e1 e2 : Nat} (h1 : a = [] ∨ e1 = 1) (h2 : b = [] ∨ e2 = 1) (l1 : a.length ≤ 100000) :
    callL AP (.fn 12) [.slice o1 e1 (a.map rowI), .slice o2 e2 (b.map rowI)] s = some (B (decide (a = b)), s) := by
  by_cases hl : a.length = b.length
  · have key : ∀ (k : Nat) ρ m, k ≤ a.length → (ρ 0 = .slice o1 e1 (a.map rowI) ∧ ρ 1 = .slice o2 e2 (b.map rowI) ∧ ρ 5 = I k ∧ m = s.push ⟨[], []⟩) → go AP f_b_Ints (.c (.loop b_b_Ints_l0) :: k_b_Ints_0) ⟨ρ, m⟩ = some (B (decide (a.drop k = b.drop k)), s) := by
      refine loop_up a.length _ _ ?_ ?_
      · rintro k ρ m hk ⟨g0, g1, g5, rfl⟩ ih
        obtain ⟨x, hx⟩ := get_some hk
        obtain ⟨y, hy⟩ := get_some (l := b) (k := k) (by omega)
        have he1 : e1 = 1 := by rcases h1 with h | h; (rw [h] at hx; simp at hx); exact h
        have he2 : e2 = 1 := by rcases h2 with h | h; (rw [h] at hy; simp at hy); exact h
        subst he1; subst he2
        have r1 := ix_map (o := o1) (es := 1) (f := rowI) hx
        have r2 := ix_map (o := o2) (es := 1) (f := rowI) hy
        rw [drop_get hx, drop_get hy]
        by_cases hxy : x = y
        · have hd : decide (x ≠ y) = false := by simp [hxy]
          simp (maxSteps := 1000000) only [go_sem, b_b_Ints_l0, g0, g1, g5, lt_dec hk, r1, r2, hd, wrap_succ hk (show (a.length : Int) < _ by omega), Nat.reduceEqDiff, reduceCtorEq, ↓reduceIte]
          refine (ih _ _ ?_).trans ?_
          · exact ⟨g0, g1, rfl, rfl⟩
          · subst hxy; simp
        · have hd : decide (x ≠ y) = true := by simp [hxy]
          simp (maxSteps := 1000000) only [go_sem, b_b_Ints_l0, g0, g1, g5, lt_dec hk, r1, r2, hd, Nat.reduceEqDiff, reduceCtorEq, ↓reduceIte]
          simp [hxy]
      · rintro ρ m ⟨g0, g1, g5, rfl⟩
        simp (maxSteps := 1000000) only [go_sem, b_b_Ints_l0, b_b_Ints_r0, g0, g5, ge_dec, Nat.reduceEqDiff, reduceCtorEq, ↓reduceIte]
        rw [List.drop_length, List.drop_eq_nil_of_le (by omega)]; rfl
    have hd : decide ((a.length : Int) ≠ (b.length : Int)) = false := by simp; omega
    rw [callL_go (show AP 12 = some c_b_Ints from rfl) rfl]
    simp (maxSteps := 1000000) only [go_sem, b_b_Ints, hd, Nat.reduceEqDiff, reduceCtorEq, ↓reduceIte]
    refine key 0 _ _ (Nat.zero_le _) ?_
    exact ⟨rfl, rfl, rfl, rfl⟩
  · have hd : decide ((a.length : Int) ≠ (b.length : Int)) = true := by simp; omega
    have hab : decide (a = b) = false := by simp; intro e; exact hl (by rw [e])
    rw [hab]
    rw [callL_go (show AP 12 = some c_b_Ints from rfl) rfl]
    simp (maxSteps := 1000000) only [go_sem, b_b_Ints, hd, Nat.reduceEqDiff, reduceCtorEq, ↓reduceIte]
end
end Go.Ax.Sx.Sc

namespace Go.Ax.Sx.Sc
open Go.Ax
set_option linter.unusedSimpArgs false
set_option linter.unusedVariables false
set_option maxRecDepth 100000

section
variable {s : Sig} {w : W}

theorem l_ScheduleTogether {x : Sl Int} (hs : Ok s) (hw : w.Ok) (hb : w.Big) (hx : x.ok 1) (hxl : (x.l.length : Int) < 9223372036854775808) : callL AP (.fn 3) [w.v, x.v rowI] s = some (B true, s) := by
  have haw : ∀ r, callL AP (.fn 4) [] (s.push r) = some (B true, s.push r) := fun r => l_awake (hs.push r)
  have hfe : ∀ r, callL AP (.fn 5) [w.v] (s.push r) = some (B (lightB w), s.push r) := fun r => l_Light (hs.push r) hw hb
  cases hf : lightB w with
  | false =>
    simp only [W.v, rowW, Sl.v] at hfe
    rw [callL_go (show AP 3 = some c_l_ScheduleTogether from rfl) rfl]
    simp (maxSteps := 1000000) only [go_sem, b_l_ScheduleTogether, haw, hfe, hf, Nat.reduceEqDiff, Nat.reduceAdd, ↓reduceIte]
  | true =>
    by_cases hx14 : x.l.length ≤ 14
    · have d14 : decide ((14 : Int) < (x.l.length : Int)) = false := by simp; omega
      have hF : w.Few := fewB_iff (by unfold lightB at hf; rw [Bool.and_eq_true] at hf; exact hf.1)
      have hcp : ∀ r, callL AP (.fn 7) [w.v] (s.push r) = some ((cW w).v, s.push r) := fun r => r_CopyWeek (hs.push r) hw hF
      have hse : ∀ r, callL AP (.fn 10) [w.v] (s.push r) = some (I (smallE w), s.push r) := fun r => r_SmallErr (hs.push r) hw hF
      obtain ⟨oo, tk1, hci, _⟩ := b_CopyInts (Q := s) (tk := []) (l := x.l) (o := x.o) (e := x.e) hs hx.1 (by omega)
      have hmc : ∀ r, callL AP (.fn 9) [(cW w).v] (s.push r) = some (minV (cW w), s.push r) := fun r => s_MinimumConflict (hs.push r) cW_Ok (cW_Few hF)
      have htg : ∀ r, callL AP (.fn 6) [(cW w).v, .slice oo 1 (x.l.map rowI)] (s.push r) = some (.tuple [B (if smallE (cW w) = 0 then (if reqsE (cW w).rs.l.length (-1) x.l = 0 then fitsB (cW w) (freeC (cW w)) [] (maskO x.l) else false) else false), I (if smallE (cW w) = 0 then reqsE (cW w).rs.l.length (-1) x.l else smallE (cW w))], s.push r) := fun r => s_Together (hs.push r) cW_Ok (cW_Few hF) (.inr rfl) (by omega)
      unfold minV at hmc
      rw [smallE_c] at hmc htg
      by_cases h0 : smallE w = 0
      · have hwe := smallE_ok h0
        have hwk : Wk w := ⟨hw, hF, weekE_ok hwe⟩
        have hN := light_N hf h0
        have h6 : w.rs.l.length ≤ 6 := by
          unfold smallE at h0
          rw [if_pos hwe] at h0
          cases hsb : smallB w with
          | false => rw [hsb] at h0; exact absurd h0 (by decide)
          | true =>
            unfold smallB at hsb
            rw [Bool.and_eq_true, decide_eq_true_eq] at hsb
            exact hsb.1
        have hrm : ∀ r, callL AP (.fn 11) [w.v] (s.push r) = some (minR (minC w), s.push r) := fun r => r_MinimumConflict (hs.push r) hwk h6 (by omega)
        have hre : ∀ r, callL AP (.fn 13) [w.v, x.v rowI] (s.push r) = some (I (reqsE w.rs.l.length (-1) x.l), s.push r) := fun r => r_RequestsErr (hs.push r) hF.rs hx.1 (by omega)
        have hrt : ∀ r, callL AP (.fn 14) [w.v, x.v rowI] (s.push r) = some (B ((pls w x.l 0 w.rs.l.length []).any fun y => decide (y.length = x.l.length)), s.push r) := fun r => r_Together (hs.push r) hwk hx.1 (by omega) (by omega)
        simp only [h0, if_true, minC_c hwk hwe, cW_len] at hmc htg
        rw [h0] at hse
        have hlast : ∀ E : Int, E = reqsE w.rs.l.length (-1) x.l → (E = 0 → ((pls w x.l 0 w.rs.l.length []).any fun y => decide (y.length = x.l.length)) = fitsB (cW w) (freeC (cW w)) [] (maskO x.l)) := fun E hE h => by
          obtain ⟨ha, hin⟩ := reqs_ok (n := w.rs.l.length) (l := x.l) (by rw [← hE]; exact h)
          rw [fits_c hwk hwe ha hin, tog_eq hwk ha hin]
        have hlast := hlast _ rfl
        generalize reqsE w.rs.l.length (-1) x.l = E at *
        generalize fitsB (cW w) (freeC (cW w)) [] (maskO x.l) = T at *
        generalize ((pls w x.l 0 w.rs.l.length []).any fun y => decide (y.length = x.l.length)) = U at *
        cases hm : minC w with
        | none =>
          rw [hm] at hmc hrm
          simp only [Option.getD_none, Option.isSome_none, List.map_nil, minR] at hmc hrm
          have hmc' : ∀ r, callL AP (.fn 9) [(cW w).v] (s.push r) = some (.tuple [.slice .nilS 0 [], I 12], s.push r) := hmc
          by_cases hE : E = 0
          · have hU := hlast hE
            subst hU
            subst hE
            simp only [if_true] at htg
            simp only [W.v, rowW, Sl.v] at hfe hcp hse hci htg hmc' hrm hre hrt
            rw [callL_go (show AP 3 = some c_l_ScheduleTogether from rfl) rfl]
            simp (maxSteps := 1000000) only [go_sem, b_l_ScheduleTogether, haw, hfe, hf, d14, hcp, hci, htg, hmc', hse, hrm, hre, hrt, ne_eq, not_true, decide_true, Bool.not_true, beq_self_eq_true, Nat.reduceEqDiff, reduceCtorEq, Nat.reduceAdd, Int.cast_ofNat_Int, ↓reduceIte]
          · simp only [hE, if_false] at htg
            simp only [W.v, rowW, Sl.v] at hfe hcp hse hci htg hmc' hrm hre hrt
            rw [callL_go (show AP 3 = some c_l_ScheduleTogether from rfl) rfl]
            simp (maxSteps := 1000000) only [go_sem, b_l_ScheduleTogether, haw, hfe, hf, d14, hcp, hci, htg, hmc', hse, hrm, hre, hE, ne_eq, not_true, not_false_iff, decide_true, Bool.not_true, Nat.reduceEqDiff, Nat.reduceAdd, Int.cast_ofNat_Int, ↓reduceIte]
        | some g =>
          rw [hm] at hmc hrm
          obtain ⟨k, hk1, hk2, hg, _⟩ := minF_mem hm
          have hgl := grps_len hg
          have hg0 : g ≠ [] := fun e => by rw [e] at hgl; simp at hgl; omega
          have hacc : accV 1 (g.map rowI) = .slice .any 1 (g.map rowI) := by cases g with | nil => exact absurd rfl hg0 | cons _ _ => rfl
          simp only [Option.getD_some, Option.isSome_some, if_true, hacc, minR] at hmc hrm
          have hii : ∀ m : Sig, callL AP (.fn 12) [.slice .any 1 (g.map rowI), (stS g.length g).v rowI] m = some (B true, m) := fun m => by
            have := b_Ints (s := m) (a := g) (b := g) (o1 := .any) (e1 := 1) (o2 := (stS g.length g).o) (e2 := 1) (.inr rfl) (.inr rfl) (by omega)
            rw [decide_eq_true rfl] at this
            exact this
          by_cases hE : E = 0
          · have hU := hlast hE
            subst hU
            subst hE
            simp only [if_true] at htg
            simp only [W.v, rowW, Sl.v] at hfe hcp hse hci htg hmc hrm hre hrt hii
            rw [callL_go (show AP 3 = some c_l_ScheduleTogether from rfl) rfl]
            simp (maxSteps := 1000000) only [go_sem, b_l_ScheduleTogether, haw, hfe, hf, d14, hcp, hci, htg, hmc, hse, hrm, hre, hrt, hii, ne_eq, not_true, decide_true, Bool.not_true, beq_self_eq_true, Nat.reduceEqDiff, reduceCtorEq, Nat.reduceAdd, ↓reduceIte]
          · simp only [hE, if_false] at htg
            simp only [W.v, rowW, Sl.v] at hfe hcp hse hci htg hmc hrm hre hrt hii
            rw [callL_go (show AP 3 = some c_l_ScheduleTogether from rfl) rfl]
            simp (maxSteps := 1000000) only [go_sem, b_l_ScheduleTogether, haw, hfe, hf, d14, hcp, hci, htg, hmc, hse, hrm, hre, hii, hE, ne_eq, not_true, not_false_iff, decide_true, Bool.not_true, Nat.reduceEqDiff, Nat.reduceAdd, ↓reduceIte]
      · simp only [h0, if_false] at hmc htg
        have hmc' : ∀ r, callL AP (.fn 9) [(cW w).v] (s.push r) = some (.tuple [.slice .nilS 0 [], I (smallE w)], s.push r) := hmc
        simp only [W.v, rowW, Sl.v] at hfe hcp hse hci htg hmc'
        rw [callL_go (show AP 3 = some c_l_ScheduleTogether from rfl) rfl]
        simp (maxSteps := 1000000) only [go_sem, b_l_ScheduleTogether, haw, hfe, hf, d14, hcp, hci, htg, hmc', hse, h0, ne_eq, not_false_iff, decide_true, Bool.not_true, Nat.reduceEqDiff, Nat.reduceAdd, Int.cast_ofNat_Int, ↓reduceIte]
    · have d14 : decide ((14 : Int) < (x.l.length : Int)) = true := by simp; omega
      simp only [W.v, rowW, Sl.v] at hfe
      rw [callL_go (show AP 3 = some c_l_ScheduleTogether from rfl) rfl]
      simp (maxSteps := 1000000) only [go_sem, b_l_ScheduleTogether, haw, hfe, hf, d14, Nat.reduceEqDiff, Nat.reduceAdd, ↓reduceIte]
end
end Go.Ax.Sx.Sc

namespace Go.Ax.Sx.Sc
open Go.Ax

section
variable {P : Program} {d : Nat}

def Flds (P : Program) (t : TypeId) (ts : List TypeId) : Prop := ∃ fs : Array Field, P.underlying t = some (.struct fs) ∧ fs.toList.map (·.type) = ts

theorem shp_flds {t : TypeId} {ts : List TypeId} {avs : List AV} (hf : Flds P t ts) (h : Shp P (d + 1) t avs) :
    ∃ ps : List (List AV), avs = ps.flatten ∧ ps.length = ts.length ∧ ∀ (i : Nat) (u : TypeId) (p : List AV), ts[i]? = some u → ps[i]? = some p → Shp P d u p := by
  obtain ⟨fs, hu, rfl⟩ := hf
  obtain ⟨ps, h1, h2, h3⟩ := shp_struct hu h
  refine ⟨ps, h1, by simp [h2], fun i u p hi hp => ?_⟩
  rw [List.getElem?_map] at hi
  obtain ⟨f, hf, rfl⟩ := Option.map_eq_some_iff.1 hi
  exact h3 i f p (by simpa using hf) hp

/-- The types of a week. -/
structure WkT (P : Program) (ti ts tg tgs tis ta tas tr trs tw : TypeId) : Prop where
  i : P.underlying ti = some (.int .i64)
  s : P.underlying ts = some .string
  g : Flds P tg [ti, ti]
  gs : P.underlying tgs = some (.slice tg)
  gc : P.cellsOf tg = 2
  is : P.underlying tis = some (.slice ti)
  ic : P.cellsOf ti = 1
  a : Flds P ta [ts, ti, tgs]
  sa : P.underlying tas = some (.slice ta)
  ac : P.cellsOf ta = 3
  r : Flds P tr [ts, tg, ti, ti, tis, ti]
  sr : P.underlying trs = some (.slice tr)
  rc : P.cellsOf tr = 7
  w : Flds P tw [ti, tas, trs]

variable {ti ts tg tgs tis ta tas tr trs tw : TypeId}

theorem maxLen_lt {n : Nat} (h : n ≤ maxLen) : (n : Int) < 9223372036854775808 := by unfold maxLen at h; omega

theorem shp_rng (T : WkT P ti ts tg tgs tis ta tas tr trs tw) {avs : List AV} (h : Shp P (d + 2) tg avs) : ∃ x : Int × Int, avs = rowG x ∧ True := by
  obtain ⟨ps, rfl, hl, hp⟩ := shp_flds T.g h
  match ps, hl, hp with
  | [p0, p1], _, hp =>
    obtain ⟨a, rfl, _⟩ := shp_int T.i (hp 0 _ p0 rfl rfl)
    obtain ⟨b, rfl, _⟩ := shp_int T.i (hp 1 _ p1 rfl rfl)
    exact ⟨(a, b), rfl, trivial⟩

theorem own_ok {o : Own} {rows : List (List AV)} (h : o = .any ∨ (o = .nilS ∧ rows = [])) : o = .any ∨ (o = .nilS ∧ rows = []) := h

theorem shp_ints (T : WkT P ti ts tg tgs tis ta tas tr trs tw) {avs : List AV} (h : Shp P (d + 2) tis avs) : ∃ x : Sl Int, avs = [x.v rowI] ∧ x.ok 1 ∧ (x.l.length : Int) < 9223372036854775808 := by
  obtain ⟨o, rows, rfl, ho, hlen, hrows⟩ := shp_slice T.is h
  obtain ⟨l, rfl, _⟩ := rows_eq (f := rowI) (g := fun _ => True) (fun r hr => by
    obtain ⟨x, hx, _⟩ := shp_int T.i (hrows r hr)
    exact ⟨x, hx, trivial⟩)
  rw [List.length_map] at hlen
  rw [T.ic]
  refine ⟨⟨o, 1, l⟩, rfl, ?_, maxLen_lt hlen⟩
  rcases ho with rfl | ⟨rfl, h⟩
  · exact ⟨.inr rfl, .inl rfl⟩
  · exact ⟨.inr rfl, .inr (.inr ⟨rfl, List.map_eq_nil_iff.1 (by assumption)⟩)⟩

theorem shp_rngs (T : WkT P ti ts tg tgs tis ta tas tr trs tw) {avs : List AV} (h : Shp P (d + 3) tgs avs) : ∃ x : Sl (Int × Int), avs = [x.v rowG] ∧ x.ok 2 ∧ (x.l.length : Int) < 9223372036854775808 := by
  obtain ⟨o, rows, rfl, ho, hlen, hrows⟩ := shp_slice T.gs h
  obtain ⟨l, rfl, _⟩ := rows_eq (f := rowG) (g := fun _ => True) (fun r hr => shp_rng T (hrows r hr))
  rw [List.length_map] at hlen
  rw [T.gc]
  refine ⟨⟨o, 2, l⟩, rfl, ?_, maxLen_lt hlen⟩
  rcases ho with rfl | ⟨rfl, h⟩
  · exact ⟨.inr rfl, .inl rfl⟩
  · exact ⟨.inr rfl, .inr (.inr ⟨rfl, List.map_eq_nil_iff.1 (by assumption)⟩)⟩

theorem shp_ant (T : WkT P ti ts tg tgs tis ta tas tr trs tw) {avs : List AV} (h : Shp P (d + 4) ta avs) :
    ∃ a : A, avs = rowA a ∧ (a.cl.ok 2 ∧ (a.name.size : Int) < 9223372036854775808 ∧ (a.cl.l.length : Int) < 9223372036854775808) := by
  obtain ⟨ps, rfl, hl, hp⟩ := shp_flds T.a h
  match ps, hl, hp with
  | [p0, p1, p2], _, hp =>
    obtain ⟨n, rfl, hn⟩ := shp_str T.s (hp 0 _ p0 rfl rfl)
    obtain ⟨b, rfl, _⟩ := shp_int T.i (hp 1 _ p1 rfl rfl)
    obtain ⟨c, rfl, hc, hcl⟩ := shp_rngs T (hp 2 _ p2 rfl rfl)
    exact ⟨⟨n, b, c⟩, rfl, hc, maxLen_lt hn, hcl⟩

theorem shp_req (T : WkT P ti ts tg tgs tis ta tas tr trs tw) {avs : List AV} (h : Shp P (d + 4) tr avs) :
    ∃ r : R, avs = rowR r ∧ (r.an.ok 1 ∧ (r.mis.size : Int) < 9223372036854775808 ∧ (r.an.l.length : Int) < 9223372036854775808) := by
  obtain ⟨ps, rfl, hl, hp⟩ := shp_flds T.r h
  match ps, hl, hp with
  | [p0, p1, p2, p3, p4, p5], _, hp =>
    obtain ⟨n, rfl, hn⟩ := shp_str T.s (hp 0 _ p0 rfl rfl)
    obtain ⟨g, rfl, _⟩ := shp_rng T (hp 1 _ p1 rfl rfl)
    obtain ⟨b, rfl, _⟩ := shp_int T.i (hp 2 _ p2 rfl rfl)
    obtain ⟨c, rfl, _⟩ := shp_int T.i (hp 3 _ p3 rfl rfl)
    obtain ⟨x, rfl, hx, hxl⟩ := shp_ints T (hp 4 _ p4 rfl rfl)
    obtain ⟨e, rfl, _⟩ := shp_int T.i (hp 5 _ p5 rfl rfl)
    exact ⟨⟨n, g.1, g.2, b, c, x, e⟩, rfl, hx, maxLen_lt hn, hxl⟩

theorem shp_week (T : WkT P ti ts tg tgs tis ta tas tr trs tw) {avs : List AV} (h : Shp P (d + 6) tw avs) : ∃ w : W, AV.agg avs = w.v ∧ w.Ok ∧ w.Big := by
  obtain ⟨ps, rfl, hl, hp⟩ := shp_flds T.w h
  match ps, hl, hp with
  | [p0, p1, p2], _, hp =>
    obtain ⟨n, rfl, _⟩ := shp_int T.i (hp 0 _ p0 rfl rfl)
    obtain ⟨o1, r1, rfl, ho1, hl1, hr1⟩ := shp_slice T.sa (hp 1 _ p1 rfl rfl)
    obtain ⟨o2, r2, rfl, ho2, hl2, hr2⟩ := shp_slice T.sr (hp 2 _ p2 rfl rfl)
    obtain ⟨as, rfl, has⟩ := rows_eq (fun r hr => shp_ant T (hr1 r hr))
    obtain ⟨rs, rfl, hrs⟩ := rows_eq (fun r hr => shp_req T (hr2 r hr))
    rw [List.length_map] at hl1 hl2
    rw [T.ac, T.rc]
    refine ⟨⟨n, ⟨o1, 3, as⟩, ⟨o2, 7, rs⟩⟩, rfl, ⟨?_, fun a ha => (has a ha).1, ?_, fun r hr => (hrs r hr).1⟩, ⟨maxLen_lt hl1, maxLen_lt hl2, fun a ha => (has a ha).2.1, fun a ha => (has a ha).2.2, fun r hr => (hrs r hr).2.1, fun r hr => (hrs r hr).2.2⟩⟩
    · rcases ho1 with rfl | ⟨rfl, h⟩
      · exact ⟨.inr rfl, .inl rfl⟩
      · exact ⟨.inr rfl, .inr (.inr ⟨rfl, List.map_eq_nil_iff.1 (by assumption)⟩)⟩
    · rcases ho2 with rfl | ⟨rfl, h⟩
      · exact ⟨.inr rfl, .inl rfl⟩
      · exact ⟨.inr rfl, .inr (.inr ⟨rfl, List.map_eq_nil_iff.1 (by assumption)⟩)⟩
end
end Go.Ax.Sx.Sc
