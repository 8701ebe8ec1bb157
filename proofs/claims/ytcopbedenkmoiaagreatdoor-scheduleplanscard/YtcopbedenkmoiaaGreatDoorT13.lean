/-
  What a week is among the values that an argument may read as.
-/
import Derived.Test.YtcopbedenkmoiaaGreatDoorT12
import Derived.Test.YtcopbedenkmoiaaGreatDoorT7
namespace Go.Ax.Sx.Sc
open Go.Ax
set_option linter.unusedSimpArgs false
set_option linter.unusedVariables false
set_option maxRecDepth 100000

/-- The sizes that the model's memory can have. -/
structure W.Big (w : W) : Prop where
  as : (w.as.l.length : Int) < 9223372036854775808
  rs : (w.rs.l.length : Int) < 9223372036854775808
  name : ∀ a ∈ w.as.l, (a.name.size : Int) < 9223372036854775808
  cl : ∀ a ∈ w.as.l, (a.cl.l.length : Int) < 9223372036854775808
  mis : ∀ r ∈ w.rs.l, (r.mis.size : Int) < 9223372036854775808
  an : ∀ r ∈ w.rs.l, (r.an.l.length : Int) < 9223372036854775808

def fewA (a : A) : Bool := decide (a.name.size ≤ 20) && decide (a.cl.l.length ≤ 8)
def fewR (r : R) : Bool := decide (r.mis.size ≤ 20) && decide (r.an.l.length ≤ 6)
def fewB (w : W) : Bool := (decide (w.as.l.length ≤ 6) && decide (w.rs.l.length ≤ 14)) && (w.as.l.all fewA && w.rs.l.all fewR)
theorem fewB_iff {w : W} (h : fewB w = true) : w.Few := by
  simp only [fewB, fewA, fewR, Bool.and_eq_true, decide_eq_true_eq, List.all_eq_true] at h
  obtain ⟨⟨h1, h2⟩, h3, h4⟩ := h
  exact ⟨h1, h2, fun a ha => (h3 a ha).1, fun a ha => (h3 a ha).2, fun r hr => (h4 r hr).1, fun r hr => (h4 r hr).2⟩
theorem all_get {α : Type} {p : α → Bool} {l : List α} {k : Nat} {x : α} (h : l[k]? = some x) : (l.drop k).all p = (p x && (l.drop (k + 1)).all p) := by
  rw [drop_get h, List.all_cons]

/-! ### The canonical week -/
def cpG (l : List (Int × Int)) : Sl (Int × Int) := ⟨copyO (l.map rowG), 2, l⟩
theorem cpG_ok {l : List (Int × Int)} : (cpG l).ok 2 := by
  refine ⟨.inr rfl, ?_⟩
  cases l
  · exact .inr (.inl rfl)
  · exact .inl rfl
def cA (a : A) : A := { a with cl := cpG a.cl.l }
def cR (r : R) : R := { r with an := cpI r.an.l }
def cW (w : W) : W := ⟨w.slots, acS 3 (w.as.l.map cA), acS 7 (w.rs.l.map cR)⟩
theorem cW_as {w : W} : (cW w).as.l = w.as.l.map cA := acS_l
theorem cW_rs {w : W} : (cW w).rs.l = w.rs.l.map cR := acS_l
theorem cW_Ok {w : W} : (cW w).Ok := by
  refine ⟨acS_ok, fun a ha => ?_, acS_ok, fun r hr => ?_⟩
  · rw [cW_as] at ha; obtain ⟨b, _, rfl⟩ := List.mem_map.1 ha; exact cpG_ok
  · rw [cW_rs] at hr; obtain ⟨b, _, rfl⟩ := List.mem_map.1 hr; exact cpI_ok
theorem cW_Few {w : W} (h : w.Few) : (cW w).Few := by
  refine ⟨by rw [cW_as, List.length_map]; exact h.as, by rw [cW_rs, List.length_map]; exact h.rs, fun a ha => ?_, fun a ha => ?_, fun r hr => ?_, fun r hr => ?_⟩
  · rw [cW_as] at ha; obtain ⟨b, hb, rfl⟩ := List.mem_map.1 ha; exact h.name b hb
  · rw [cW_as] at ha; obtain ⟨b, hb, rfl⟩ := List.mem_map.1 ha; exact h.cl b hb
  · rw [cW_rs] at hr; obtain ⟨b, hb, rfl⟩ := List.mem_map.1 hr; exact h.mis b hb
  · rw [cW_rs] at hr; obtain ⟨b, hb, rfl⟩ := List.mem_map.1 hr; exact h.an b hb

theorem firstAt_map {α β : Type} {f : Nat → β → Int} {g : α → β} : ∀ {l : List α} {k : Nat}, firstAt f k (l.map g) = firstAt (fun i x => f i (g x)) k l
  | [], _ => rfl
  | a :: r, k => by simp only [List.map_cons, firstAt, firstAt_map (l := r)]
theorem antE_c {n : Int} {as : List A} {k : Nat} {a : A} : antE n (as.map cA) k (cA a) = antE n as k a := by
  unfold antE
  have : (((as.map cA).take k).any fun b => decide (b.name = (cA a).name)) = ((as.take k).any fun b => decide (b.name = a.name)) := by
    rw [← List.map_take, List.any_map]; rfl
  rw [this]; rfl
theorem weekE_c {w : W} : weekE (cW w) = weekE w := by
  unfold weekE
  simp only [cW_as, cW_rs, List.length_map, firstAt_map, antE_c]
  rfl

section
variable {s : Sig} {w : W}

theorem r_CheckWeek {w : W} (hs : Ok s) (hw : w.Ok) (hf : w.Few) : callL AP (.fn 23) [w.v] s = some (MK (weekE w), s) := by
  obtain ⟨n, ⟨o1, e1, as⟩, ⟨o2, e2, rs⟩⟩ := w
  have h4 : decide ((4 : Int) < (as.length : Int)) = !decide (as.length ≤ 4) := dec_not (by omega)
  have h12 : decide ((12 : Int) < (rs.length : Int)) = !decide (rs.length ≤ 12) := dec_not (by omega)
  rw [callL_go (show AP 23 = some c_r_CheckWeek from rfl) rfl]
  unfold weekE
  simp only
  cases hn : wi n 1 200 with
  | false => simp (maxSteps := 1000000) only [go_sem, b_r_CheckWeek, hs, b_Within, hn, Nat.reduceEqDiff, reduceCtorEq, Nat.reduceAdd, Nat.reduceMul, Nat.reduceSub, Int.reduceLT, Int.reduceLE, Int.reduceEq, Int.reduceAdd, Int.reduceSub, Int.reduceNeg, Int.reduceToNat, Int.cast_ofNat_Int, ↓reduceIte] <;> rfl
  | true =>
    have hn' := wi_iff.1 hn
    by_cases ha4 : as.length ≤ 4
    case neg =>
      have hd : decide (as.length ≤ 4) = false := decide_eq_false ha4
      simp (maxSteps := 1000000) only [go_sem, b_r_CheckWeek, hs, b_Within, hn, h4, h12, hd, Nat.reduceEqDiff, reduceCtorEq, Nat.reduceAdd, Nat.reduceMul, Nat.reduceSub, Int.reduceLT, Int.reduceLE, Int.reduceEq, Int.reduceAdd, Int.reduceSub, Int.reduceNeg, Int.reduceToNat, Int.cast_ofNat_Int, ↓reduceIte]
      rw [if_neg (fun h => ha4 h.1)]
    by_cases hr12 : rs.length ≤ 12
    case neg =>
      have hd : decide (as.length ≤ 4) = true := decide_eq_true ha4
      have hd2 : decide (rs.length ≤ 12) = false := decide_eq_false hr12
      simp (maxSteps := 1000000) only [go_sem, b_r_CheckWeek, hs, b_Within, hn, h4, h12, hd, hd2, Nat.reduceEqDiff, reduceCtorEq, Nat.reduceAdd, Nat.reduceMul, Nat.reduceSub, Int.reduceLT, Int.reduceLE, Int.reduceEq, Int.reduceAdd, Int.reduceSub, Int.reduceNeg, Int.reduceToNat, Int.cast_ofNat_Int, ↓reduceIte]
      rw [if_neg (fun h => hr12 h.2)]
    have hd : decide (as.length ≤ 4) = true := decide_eq_true ha4
    have hd2 : decide (rs.length ≤ 12) = true := decide_eq_true hr12
    rw [if_pos rfl, if_pos ⟨ha4, hr12⟩]
    have k2 : ∀ j ρ m, j ≤ rs.length → (ρ 1 = .ptr s.acts.length 0 0 ∧ ρ 2 = .ptr s.acts.length 1 0 ∧ ρ 6 = I j ∧ m = s.push ⟨[[I n, .slice o1 e1 (as.map rowA), .slice o2 e2 (rs.map rowR)], [I 0, I 0]], []⟩) →
        go AP f_r_CheckWeek (.c (.loop b_r_CheckWeek_l0) :: k_r_CheckWeek_0) ⟨ρ, m⟩ = some (MK (match firstAt (fun _ r => reqE n as.length r) j (rs.drop j) with | some (k, e) => (2, k, e) | none => (0, 0, 0)), s) := by
      refine loop_up rs.length _ _ ?_ ?_
      · rintro j ρ m hj ⟨h1, h2, h6, rfl⟩ ih
        obtain ⟨x, hx⟩ := get_some hj
        have hxm := List.mem_of_getElem? hx
        have hec : e2 = 7 := by rcases hw.rs.1 with h | h; (simp only at h; rw [h] at hx; simp at hx); exact h
        subst hec
        have hr := ix_map (f := rowR) (o := o2) (es := 7) hx
        have m1 := hf.mis x hxm
        have m2 := hf.an x hxm
        have hq : ∀ r, callL AP (.fn 36) [.agg [I n, .slice o1 e1 (as.map rowA), .slice o2 7 (rs.map rowR)], .agg [S x.mis, I x.lo, I x.hi, I x.len, I x.val, .slice x.an.o x.an.e (x.an.l.map rowI), I x.need]] (s.push r) = some (I (reqE n as.length x), s.push r) := fun r => by
          have := r_requestErr (s := s.push r) (n := n) (as := as.map rowA) (r := x) (o1 := o1) (e1 := e1) (o2 := o2) (e2 := 7) (rs := rs.map rowR) (hs.push _) (hw.an x hxm).1 hn'.1 hn'.2 (by omega) (by rw [List.length_map]; exact ha4) (by omega)
          rw [List.length_map] at this
          exact this
        rw [firstAt_get hx]
        by_cases h0 : reqE n as.length x = 0
        · simp (maxSteps := 1000000) only [go_sem, b_r_CheckWeek_l0, b_r_CheckWeek_r0, h1, h2, h6, hs, lt_dec hj, hr, hq, h0, ne_eq, not_true, if_true, wrap_succ hj (show (rs.length : Int) < _ by omega), Nat.reduceEqDiff, reduceCtorEq, Nat.reduceAdd, Nat.reduceMul, Nat.reduceSub, Int.reduceLT, Int.reduceLE, Int.reduceEq, Int.reduceAdd, Int.reduceSub, Int.reduceNeg, Int.reduceToNat, Int.cast_ofNat_Int, ↓reduceIte]
          refine ih _ _ ?_
          exact ⟨h1, h2, rfl, rfl⟩
        · simp (maxSteps := 1000000) only [go_sem, b_r_CheckWeek_l0, b_r_CheckWeek_r0, h1, h2, h6, hs, lt_dec hj, hr, hq, h0, ne_eq, not_false_iff, if_false, Nat.reduceEqDiff, reduceCtorEq, Nat.reduceAdd, Nat.reduceMul, Nat.reduceSub, Int.reduceLT, Int.reduceLE, Int.reduceEq, Int.reduceAdd, Int.reduceSub, Int.reduceNeg, Int.reduceToNat, Int.cast_ofNat_Int, ↓reduceIte]
      · rintro ρ m ⟨h1, h2, h6, rfl⟩
        simp (maxSteps := 1000000) only [go_sem, b_r_CheckWeek_l0, b_r_CheckWeek_r0, h1, h2, h6, hs, ge_dec, Nat.reduceEqDiff, reduceCtorEq, Nat.reduceAdd, Nat.reduceMul, Nat.reduceSub, Int.reduceLT, Int.reduceLE, Int.reduceEq, Int.reduceAdd, Int.reduceSub, Int.reduceNeg, Int.reduceToNat, Int.cast_ofNat_Int, ↓reduceIte]
        rw [List.drop_length]; rfl
    have k1 : ∀ j ρ m, j ≤ as.length → (ρ 1 = .ptr s.acts.length 0 0 ∧ ρ 2 = .ptr s.acts.length 1 0 ∧ ρ 4 = I j ∧ m = s.push ⟨[[I n, .slice o1 e1 (as.map rowA), .slice o2 e2 (rs.map rowR)], [I 0, I 0]], []⟩) →
        go AP f_r_CheckWeek (.c (.loop b_r_CheckWeek_l1) :: k_r_CheckWeek_1) ⟨ρ, m⟩ = some (MK (match firstAt (antE n as) j (as.drop j) with | some (k, e) => (1, k, e) | none => match firstAt (fun _ r => reqE n as.length r) 0 rs with | some (k, e) => (2, k, e) | none => (0, 0, 0)), s) := by
      refine loop_up as.length _ _ ?_ ?_
      · rintro j ρ m hj ⟨h1, h2, h4', rfl⟩ ih
        obtain ⟨x, hx⟩ := get_some hj
        have hxm := List.mem_of_getElem? hx
        have hec : e1 = 3 := by rcases hw.as.1 with h | h; (simp only at h; rw [h] at hx; simp at hx); exact h
        subst hec
        have m1 := hf.name x hxm
        have m2 := hf.cl x hxm
        have hq : ∀ r, callL AP (.fn 35) [.agg [I n, .slice o1 3 (as.map rowA), .slice o2 e2 (rs.map rowR)], I j] (s.push r) = some (I (antE n as j x), s.push r) := fun r => r_antennaErr (hs.push _) (hw.cl x hxm).1 hn'.1 hn'.2 hx (by omega) ha4 (by omega)
        rw [firstAt_get hx]
        by_cases h0 : antE n as j x = 0
        · simp (maxSteps := 1000000) only [go_sem, b_r_CheckWeek_l1, b_r_CheckWeek_r1, h1, h2, h4', hs, lt_dec hj, hq, h0, ne_eq, not_true, if_true, wrap_succ hj (show (as.length : Int) < _ by omega), Nat.reduceEqDiff, reduceCtorEq, Nat.reduceAdd, Nat.reduceMul, Nat.reduceSub, Int.reduceLT, Int.reduceLE, Int.reduceEq, Int.reduceAdd, Int.reduceSub, Int.reduceNeg, Int.reduceToNat, Int.cast_ofNat_Int, ↓reduceIte]
          refine ih _ _ ?_
          exact ⟨h1, h2, rfl, rfl⟩
        · simp (maxSteps := 1000000) only [go_sem, b_r_CheckWeek_l1, b_r_CheckWeek_r1, h1, h2, h4', hs, lt_dec hj, hq, h0, ne_eq, not_false_iff, if_false, Nat.reduceEqDiff, reduceCtorEq, Nat.reduceAdd, Nat.reduceMul, Nat.reduceSub, Int.reduceLT, Int.reduceLE, Int.reduceEq, Int.reduceAdd, Int.reduceSub, Int.reduceNeg, Int.reduceToNat, Int.cast_ofNat_Int, ↓reduceIte]
      · rintro ρ m ⟨h1, h2, h4', rfl⟩
        simp (maxSteps := 1000000) only [go_sem, b_r_CheckWeek_l1, b_r_CheckWeek_r1, h1, h2, h4', hs, ge_dec, Nat.reduceEqDiff, reduceCtorEq, Nat.reduceAdd, Nat.reduceMul, Nat.reduceSub, Int.reduceLT, Int.reduceLE, Int.reduceEq, Int.reduceAdd, Int.reduceSub, Int.reduceNeg, Int.reduceToNat, Int.cast_ofNat_Int, ↓reduceIte]
        rw [List.drop_length]
        refine (k2 0 _ _ (Nat.zero_le _) ?_).trans rfl
        exact ⟨h1, h2, rfl, rfl⟩
    simp (maxSteps := 1000000) only [go_sem, b_r_CheckWeek, hs, b_Within, hn, h4, h12, hd, hd2, Nat.reduceEqDiff, reduceCtorEq, Nat.reduceAdd, Nat.reduceMul, Nat.reduceSub, Int.reduceLT, Int.reduceLE, Int.reduceEq, Int.reduceAdd, Int.reduceSub, Int.reduceNeg, Int.reduceToNat, Int.cast_ofNat_Int, ↓reduceIte]
    refine (k1 0 _ _ (Nat.zero_le _) ?_).trans rfl
    exact ⟨rfl, rfl, rfl, rfl⟩

theorem r_WeekErr (hs : Ok s) (hw : w.Ok) (hf : w.Few) : callL AP (.fn 11) [w.v] s = some (I (weekE w).2.2, s) := by
  have hc : ∀ r, callL AP (.fn 23) [w.v] (s.push r) = some (MK (weekE w), s.push r) := fun r => r_CheckWeek (hs.push r) hw hf
  rw [callL_go (show AP 11 = some c_r_WeekErr from rfl) rfl]
  simp only [W.v, rowW, Sl.v] at hc
  simp (maxSteps := 1000000) only [go_sem, b_r_WeekErr, hs, hc, Nat.reduceEqDiff, reduceCtorEq, Nat.reduceAdd, Nat.reduceMul, Nat.reduceSub, Int.reduceLT, Int.reduceLE, Int.reduceEq, Int.reduceAdd, Int.reduceSub, Int.reduceNeg, Int.reduceToNat, Int.cast_ofNat_Int, ↓reduceIte]

theorem l_Few (hs : Ok s) (hw : w.Ok) (hb : w.Big) : callL AP (.fn 5) [w.v] s = some (B (fewB w), s) := by
  obtain ⟨n, ⟨o1, e1, as⟩, ⟨o2, e2, rs⟩⟩ := w
  have h6 : decide ((6 : Int) < (as.length : Int)) = !decide (as.length ≤ 6) := dec_not (by omega)
  have h14 : decide ((14 : Int) < (rs.length : Int)) = !decide (rs.length ≤ 14) := dec_not (by omega)
  rw [callL_go (show AP 5 = some c_l_Few from rfl) rfl]
  unfold fewB
  simp only
  by_cases ha : as.length ≤ 6
  case neg =>
    have hd : decide (as.length ≤ 6) = false := decide_eq_false ha
    simp (maxSteps := 1000000) only [go_sem, b_l_Few, hs, h6, h14, hd, Bool.false_and, Nat.reduceEqDiff, reduceCtorEq, Nat.reduceAdd, Nat.reduceMul, Nat.reduceSub, Int.reduceLT, Int.reduceLE, Int.reduceEq, Int.reduceAdd, Int.reduceSub, Int.reduceNeg, Int.reduceToNat, Int.cast_ofNat_Int, ↓reduceIte]
  by_cases hr : rs.length ≤ 14
  case neg =>
    have hd : decide (as.length ≤ 6) = true := decide_eq_true ha
    have hd2 : decide (rs.length ≤ 14) = false := decide_eq_false hr
    simp (maxSteps := 1000000) only [go_sem, b_l_Few, hs, h6, h14, hd, hd2, Bool.false_and, Bool.and_false, Nat.reduceEqDiff, reduceCtorEq, Nat.reduceAdd, Nat.reduceMul, Nat.reduceSub, Int.reduceLT, Int.reduceLE, Int.reduceEq, Int.reduceAdd, Int.reduceSub, Int.reduceNeg, Int.reduceToNat, Int.cast_ofNat_Int, ↓reduceIte]
  have hd : decide (as.length ≤ 6) = true := decide_eq_true ha
  have hd2 : decide (rs.length ≤ 14) = true := decide_eq_true hr
  have k2 : ∀ j ρ m, j ≤ rs.length → (ρ 1 = .ptr s.acts.length 0 0 ∧ ρ 4 = I j ∧ m = s.push ⟨[[I n, .slice o1 e1 (as.map rowA), .slice o2 e2 (rs.map rowR)]], []⟩) →
      go AP f_l_Few (.c (.loop b_l_Few_l0) :: k_l_Few_0) ⟨ρ, m⟩ = some (B ((rs.drop j).all fewR), s) := by
    refine loop_up rs.length _ _ ?_ ?_
    · rintro j ρ m hj ⟨h1, h4, rfl⟩ ih
      obtain ⟨x, hx⟩ := get_some hj
      have hxm := List.mem_of_getElem? hx
      have hec : e2 = 7 := by rcases hw.rs.1 with h | h; (simp only at h; rw [h] at hx; simp at hx); exact h
      subst hec
      have hix := ix_map (f := rowR) (o := o2) (es := 7) hx
      have q1 : decide ((20 : Int) < (x.mis.size : Int)) = !decide (x.mis.size ≤ 20) := dec_not (by omega)
      have q2 : decide ((6 : Int) < (x.an.l.length : Int)) = !decide (x.an.l.length ≤ 6) := dec_not (by omega)
      have hsz : x.mis.data.size = x.mis.size := rfl
      have hwj := wrap_succ hj (show (rs.length : Int) < _ by omega)
      rw [all_get hx]
      unfold fewR
      cases c1 : decide (x.mis.size ≤ 20) with
      | false => simp (maxSteps := 1000000) only [go_sem, b_l_Few_l0, b_l_Few_r0, h1, h4, hs, lt_dec hj, hix, hsz, q1, q2, c1, Bool.false_and, Nat.reduceEqDiff, reduceCtorEq, Nat.reduceAdd, Nat.reduceMul, Nat.reduceSub, Int.reduceLT, Int.reduceLE, Int.reduceEq, Int.reduceAdd, Int.reduceSub, Int.reduceNeg, Int.reduceToNat, Int.cast_ofNat_Int, ↓reduceIte]
      | true =>
        cases c2 : decide (x.an.l.length ≤ 6) with
        | false => simp (maxSteps := 1000000) only [go_sem, b_l_Few_l0, b_l_Few_r0, h1, h4, hs, lt_dec hj, hix, hsz, q1, q2, c1, c2, Bool.false_and, Bool.and_false, Nat.reduceEqDiff, reduceCtorEq, Nat.reduceAdd, Nat.reduceMul, Nat.reduceSub, Int.reduceLT, Int.reduceLE, Int.reduceEq, Int.reduceAdd, Int.reduceSub, Int.reduceNeg, Int.reduceToNat, Int.cast_ofNat_Int, ↓reduceIte]
        | true =>
          simp (maxSteps := 1000000) only [go_sem, b_l_Few_l0, b_l_Few_r0, h1, h4, hs, lt_dec hj, hix, hsz, q1, q2, c1, c2, hwj, Nat.reduceEqDiff, reduceCtorEq, Nat.reduceAdd, Nat.reduceMul, Nat.reduceSub, Int.reduceLT, Int.reduceLE, Int.reduceEq, Int.reduceAdd, Int.reduceSub, Int.reduceNeg, Int.reduceToNat, Int.cast_ofNat_Int, ↓reduceIte]
          refine (ih _ _ ?_).trans ?_
          · exact ⟨h1, rfl, rfl⟩
          · rfl
    · rintro ρ m ⟨h1, h4, rfl⟩
      simp (maxSteps := 1000000) only [go_sem, b_l_Few_l0, b_l_Few_r0, h1, h4, hs, ge_dec, Nat.reduceEqDiff, reduceCtorEq, Nat.reduceAdd, Nat.reduceMul, Nat.reduceSub, Int.reduceLT, Int.reduceLE, Int.reduceEq, Int.reduceAdd, Int.reduceSub, Int.reduceNeg, Int.reduceToNat, Int.cast_ofNat_Int, ↓reduceIte]
      rw [List.drop_length]; rfl
  have k1 : ∀ j ρ m, j ≤ as.length → (ρ 1 = .ptr s.acts.length 0 0 ∧ ρ 3 = I j ∧ m = s.push ⟨[[I n, .slice o1 e1 (as.map rowA), .slice o2 e2 (rs.map rowR)]], []⟩) →
      go AP f_l_Few (.c (.loop b_l_Few_l1) :: k_l_Few_1) ⟨ρ, m⟩ = some (B ((as.drop j).all fewA && rs.all fewR), s) := by
    refine loop_up as.length _ _ ?_ ?_
    · rintro j ρ m hj ⟨h1, h3, rfl⟩ ih
      obtain ⟨x, hx⟩ := get_some hj
      have hxm := List.mem_of_getElem? hx
      have hec : e1 = 3 := by rcases hw.as.1 with h | h; (simp only at h; rw [h] at hx; simp at hx); exact h
      subst hec
      have hix := ix_map (f := rowA) (o := o1) (es := 3) hx
      have q1 : decide ((20 : Int) < (x.name.size : Int)) = !decide (x.name.size ≤ 20) := dec_not (by omega)
      have q2 : decide ((8 : Int) < (x.cl.l.length : Int)) = !decide (x.cl.l.length ≤ 8) := dec_not (by omega)
      have hsz : x.name.data.size = x.name.size := rfl
      have hwj := wrap_succ hj (show (as.length : Int) < _ by omega)
      rw [all_get hx]
      unfold fewA
      cases c1 : decide (x.name.size ≤ 20) with
      | false => simp (maxSteps := 1000000) only [go_sem, b_l_Few_l1, b_l_Few_r1, h1, h3, hs, lt_dec hj, hix, hsz, q1, q2, c1, Bool.false_and, Nat.reduceEqDiff, reduceCtorEq, Nat.reduceAdd, Nat.reduceMul, Nat.reduceSub, Int.reduceLT, Int.reduceLE, Int.reduceEq, Int.reduceAdd, Int.reduceSub, Int.reduceNeg, Int.reduceToNat, Int.cast_ofNat_Int, ↓reduceIte]
      | true =>
        cases c2 : decide (x.cl.l.length ≤ 8) with
        | false => simp (maxSteps := 1000000) only [go_sem, b_l_Few_l1, b_l_Few_r1, h1, h3, hs, lt_dec hj, hix, hsz, q1, q2, c1, c2, Bool.false_and, Bool.and_false, Nat.reduceEqDiff, reduceCtorEq, Nat.reduceAdd, Nat.reduceMul, Nat.reduceSub, Int.reduceLT, Int.reduceLE, Int.reduceEq, Int.reduceAdd, Int.reduceSub, Int.reduceNeg, Int.reduceToNat, Int.cast_ofNat_Int, ↓reduceIte]
        | true =>
          simp (maxSteps := 1000000) only [go_sem, b_l_Few_l1, b_l_Few_r1, h1, h3, hs, lt_dec hj, hix, hsz, q1, q2, c1, c2, hwj, Nat.reduceEqDiff, reduceCtorEq, Nat.reduceAdd, Nat.reduceMul, Nat.reduceSub, Int.reduceLT, Int.reduceLE, Int.reduceEq, Int.reduceAdd, Int.reduceSub, Int.reduceNeg, Int.reduceToNat, Int.cast_ofNat_Int, ↓reduceIte]
          refine (ih _ _ ?_).trans ?_
          · exact ⟨h1, rfl, rfl⟩
          · rfl
    · rintro ρ m ⟨h1, h3, rfl⟩
      simp (maxSteps := 1000000) only [go_sem, b_l_Few_l1, b_l_Few_r1, h1, h3, hs, ge_dec, Nat.reduceEqDiff, reduceCtorEq, Nat.reduceAdd, Nat.reduceMul, Nat.reduceSub, Int.reduceLT, Int.reduceLE, Int.reduceEq, Int.reduceAdd, Int.reduceSub, Int.reduceNeg, Int.reduceToNat, Int.cast_ofNat_Int, ↓reduceIte]
      rw [List.drop_length]
      refine (k2 0 _ _ (Nat.zero_le _) ?_).trans rfl
      exact ⟨h1, rfl, rfl⟩
  simp (maxSteps := 1000000) only [go_sem, b_l_Few, hs, h6, h14, hd, hd2, Bool.and_self, Nat.reduceEqDiff, reduceCtorEq, Nat.reduceAdd, Nat.reduceMul, Nat.reduceSub, Int.reduceLT, Int.reduceLE, Int.reduceEq, Int.reduceAdd, Int.reduceSub, Int.reduceNeg, Int.reduceToNat, Int.cast_ofNat_Int, ↓reduceIte]
  refine (k1 0 _ _ (Nat.zero_le _) ?_).trans ?_
  · exact ⟨rfl, rfl, rfl⟩
  · rfl

theorem b_CopyRanges {l : List (Int × Int)} {o : Own} {e : Nat} (hs : Ok s) (he : l = [] ∨ e = 2) (hl : l.length ≤ 4294967296) : callL AP (.fn 20) [.slice o e (l.map rowG)] s = some (.slice (copyO (l.map rowG)) 2 (l.map rowG), s) := by
  rw [callL_go (show AP 20 = some c_b_CopyRanges from rfl) rfl]
  rcases he with h | h
  · subst h
    simp (maxSteps := 1000000) only [go_sem, b_b_CopyRanges, appendOp, List.isEmpty_nil, Nat.reduceEqDiff, reduceCtorEq, Nat.reduceAdd, Nat.reduceMul, Nat.reduceSub, Int.reduceLT, Int.reduceLE, Int.reduceEq, Int.reduceAdd, Int.reduceSub, Int.reduceNeg, Int.reduceToNat, Int.cast_ofNat_Int, ↓reduceIte]
    rfl
  · subst h
    obtain ⟨x', t', h1, h2⟩ := copy_app (s := s) (r := ⟨[], []⟩) (es := 2) (x := .slice o 2 (l.map rowG)) (xs := l.map rowG) (o := o) rfl (by simpa using hl)
    simp (maxSteps := 1000000) only [go_sem, b_b_CopyRanges, h1, h2, Nat.reduceEqDiff, reduceCtorEq, Nat.reduceAdd, Nat.reduceMul, Nat.reduceSub, Int.reduceLT, Int.reduceLE, Int.reduceEq, Int.reduceAdd, Int.reduceSub, Int.reduceNeg, Int.reduceToNat, Int.cast_ofNat_Int, ↓reduceIte]

theorem Acc.ext {d es : Nat} {xs : List (List AV)} {x : AV} {og : Option Nat} {tk tk' : List (Option Nat)} (h : Acc d es xs x og tk) (hx : ∀ (g : Nat) (n : Option Nat), tk[g]? = some n → tk'[g]? = some n) : Acc d es xs x og tk' := by
  cases og with
  | none => exact h
  | some g => exact ⟨h.1, h.2.1, hx g _ h.2.2⟩

/-- a copy of numbers, to which the caller may append -/
theorem b_CopyInts {Q : Sig} {l : List Int} {o : Own} {e : Nat} {tk : List (Option Nat)} (hQ : Ok Q) (he : l = [] ∨ e = 1) (hl : l.length ≤ 4294967296) :
    ∃ oo tk', (∀ bx, callL AP (.fn 21) [.slice o e (l.map rowI)] (Q.push ⟨bx, tk⟩) = some (.slice oo 1 (l.map rowI), Q.push ⟨bx, tk'⟩)) ∧ (AV.slice oo 1 (l.map rowI)).close = some ((cpI l).v rowI) ∧ (∀ (g : Nat) (n : Option Nat), tk[g]? = some n → tk'[g]? = some n) ∧ (l = [] → oo = .full) ∧ (l ≠ [] → oo = .tok Q.acts.length tk.length ∧ tk' = tk ++ [some l.length]) := by
  cases hl0 : l with
  | nil =>
    refine ⟨.full, tk, fun bx => ?_, rfl, fun _ _ h => h, fun _ => rfl, fun h => absurd rfl h⟩
    rw [callL_go (show AP 21 = some c_b_CopyInts from rfl) rfl]
    simp (maxSteps := 1000000) only [go_sem, b_b_CopyInts, appendOp, List.isEmpty_nil, Nat.reduceEqDiff, reduceCtorEq, Nat.reduceAdd, Nat.reduceMul, Nat.reduceSub, Int.reduceLT, Int.reduceLE, Int.reduceEq, Int.reduceAdd, Int.reduceSub, Int.reduceNeg, Int.reduceToNat, Int.cast_ofNat_Int, ↓reduceIte]
    show some (_, ((Q.push ⟨bx, tk⟩).push ⟨[], []⟩).pop) = _
    rw [pop_push]
  | cons a q =>
    rw [← hl0]
    have hn : l ≠ [] := by rw [hl0]; simp
    have he' : e = 1 := by rcases he with h | h; exact absurd h hn; exact h
    subst he'
    refine ⟨.tok Q.acts.length tk.length, tk ++ [some l.length], fun bx => ?_, by rw [hl0]; rfl, fun g n h => ?_, fun h => absurd h hn, fun _ => ⟨rfl, rfl⟩⟩
    · have hlen : (Q.push ⟨bx, tk⟩).acts.length = Q.acts.length + 1 := by simp [Sig.push]
      have ha : appendOp ((Q.push ⟨bx, tk⟩).push ⟨[], []⟩) 1 (.slice .full 1 []) (.slice o 1 (l.map rowI)) = some (.slice (.tok (Q.acts.length + 1) 0) 1 (l.map rowI), (Q.push ⟨bx, tk⟩).push ⟨[], [some l.length]⟩) := by
        have h3 := ntok_push (Q.push ⟨bx, tk⟩) ⟨[], []⟩
        have h4 := addTok_push (Q.push ⟨bx, tk⟩) ⟨[], []⟩ l.length
        rw [hlen] at h3 h4
        have h5 : ((Q.push ⟨bx, tk⟩).push ⟨[], []⟩).cur = Q.acts.length + 1 := by rw [cur_push, hlen]
        simp [appendOp, Own.isNil, most, hl, hn, h3, h4, h5]
      have hown := own_push (Q := Q) (R := ⟨bx, tk⟩) (r0 := ⟨[], [some l.length]⟩) (g := 0) (es := 1) (xs := l.map rowI) hQ (by simp)
      rw [callL_go (show AP 21 = some c_b_CopyInts from rfl) rfl]
      simp (maxSteps := 1000000) only [go_sem, b_b_CopyInts, ha, Nat.reduceEqDiff, reduceCtorEq, Nat.reduceAdd, Nat.reduceMul, Nat.reduceSub, Int.reduceLT, Int.reduceLE, Int.reduceEq, Int.reduceAdd, Int.reduceSub, Int.reduceNeg, Int.reduceToNat, Int.cast_ofNat_Int, ↓reduceIte]
      exact hown.trans (by rw [List.length_map])
    · have := (List.getElem?_eq_some_iff.1 h).1
      rw [List.getElem?_append_left this]; exact h

theorem r_CopyWeek (hs : Ok s) (hw : w.Ok) (hf : w.Few) : callL AP (.fn 8) [w.v] s = some ((cW w).v, s) := by
  obtain ⟨n, ⟨o1, e1, as⟩, ⟨o2, e2, rs⟩⟩ := w
  have hfa : as.length ≤ 6 := hf.as
  have hfr : rs.length ≤ 14 := hf.rs
  have kr : ∀ (j : Nat) ρ m, j ≤ rs.length → (ρ 1 = .ptr s.acts.length 0 0 ∧ ρ 2 = .ptr s.acts.length 1 0 ∧ ρ 3 = .ptr s.acts.length 2 0 ∧ ρ 6 = I j ∧
      ∃ xa oga xr ogr tk bx, Acc s.acts.length 3 ((as.map cA).map rowA) xa oga tk ∧ Acc s.acts.length 7 (((rs.take j).map cR).map rowR) xr ogr tk ∧ (ogr ≠ oga ∨ ogr = none) ∧ m = s.push ⟨[I n, .slice o1 e1 (as.map rowA), .slice o2 e2 (rs.map rowR)] :: [I 0, .slice .nilS 0 [], .slice .nilS 0 []] :: [I n, xa, xr] :: bx, tk⟩) →
      go AP f_r_CopyWeek (.c (.loop b_r_CopyWeek_l0) :: k_r_CopyWeek_0) ⟨ρ, m⟩ = some ((cW ⟨n, ⟨o1, e1, as⟩, ⟨o2, e2, rs⟩⟩).v, s) := by
    refine loop_up rs.length _ _ ?_ ?_
    · rintro j ρ m hj ⟨h1, h2, h3, h6, xa, oga, xr, ogr, tk, bx, hA, hR, hne, rfl⟩ ih
      obtain ⟨x, hx⟩ := get_some hj
      have hxm := List.mem_of_getElem? hx
      have hec : e2 = 7 := by rcases hw.rs.1 with h | h; (simp only at h; rw [h] at hx; simp at hx); exact h
      subst hec
      have hix := ix_map (f := rowR) (o := o2) (es := 7) hx
      have m2 := hf.an x hxm
      obtain ⟨oo, tk1, hc1, hc2, hc3, _, _⟩ := b_CopyInts (Q := s) (l := x.an.l) (o := x.an.o) (e := x.an.e) (tk := tk) hs (hw.an x hxm).1 (by omega)
      have hA1 := Acc.ext hA hc3
      have hR1 := Acc.ext hR hc3
      have hlr : (rs.take j).length ≤ 14 := by rw [List.length_take]; omega
      obtain ⟨xr', ogr', tk2, ha1, ha2, ha3, ha4⟩ := hR1.append hs .full (ys := [rowR (cR x)]) (by simp) (by simp; omega)
      have hoth := ha4 _ _ _ _ hA1 (by rcases hne with h | h; exact .inl fun e => h e.symm; (cases oga with | none => exact .inr rfl | some g => exact .inl (by rw [h]; simp)))
      obtain ⟨oa', ea', ra', rfl⟩ := Acc.sl hA
      obtain ⟨or', er', rr', rfl⟩ := Acc.sl hR
      obtain ⟨os', es', rs', rfl⟩ := Acc.sl ha2
      have hcl : closeAll [S x.mis, I x.lo, I x.hi, I x.len, I x.val, .slice oo 1 (x.an.l.map rowI), I x.need] = some (rowR (cR x)) := by
        simp only [closeAll_cons, closeAll_nil, close_int, close_str, hc2]; rfl
      have hwj := wrap_succ hj (show (rs.length : Int) < _ by omega)
      simp only [rowR, Sl.v, cR] at ha1 hcl
      simp (maxSteps := 1000000) only [go_sem, b_r_CopyWeek_l0, b_r_CopyWeek_r0, h1, h2, h3, h6, hs, lt_dec hj, hix, hc1, hcl, ha1, hwj, Nat.reduceEqDiff, reduceCtorEq, Nat.reduceAdd, Nat.reduceMul, Nat.reduceSub, Int.reduceLT, Int.reduceLE, Int.reduceEq, Int.reduceAdd, Int.reduceSub, Int.reduceNeg, Int.reduceToNat, Int.cast_ofNat_Int, ↓reduceIte]
      refine ih _ _ ?_
      refine ⟨h1, h2, h3, rfl, _, oga, _, ogr', tk2, _, hoth.1, ?_, .inl fun e => hoth.2 e.symm, rfl⟩
      rw [take_get hx, List.map_append, List.map_append]; exact ha2
    · rintro ρ m ⟨h1, h2, h3, h6, xa, oga, xr, ogr, tk, bx, hA, hR, hne, rfl⟩
      rw [List.take_length] at hR
      have l1 := fun q : Sig => hA.leavec q
      have l2 := fun q : Sig => hR.leavec q
      obtain ⟨oa', ea', ra', rfl⟩ := Acc.sl hA
      obtain ⟨or', er', rr', rfl⟩ := Acc.sl hR
      simp (maxSteps := 1000000) only [go_sem, b_r_CopyWeek_l0, b_r_CopyWeek_r0, h1, h2, h3, h6, hs, ge_dec, l1, l2, Nat.reduceEqDiff, reduceCtorEq, Nat.reduceAdd, Nat.reduceMul, Nat.reduceSub, Int.reduceLT, Int.reduceLE, Int.reduceEq, Int.reduceAdd, Int.reduceSub, Int.reduceNeg, Int.reduceToNat, Int.cast_ofNat_Int, ↓reduceIte]
      rw [acS_v, acS_v]; rfl
  have ka : ∀ (j : Nat) ρ m, j ≤ as.length → (ρ 1 = .ptr s.acts.length 0 0 ∧ ρ 2 = .ptr s.acts.length 1 0 ∧ ρ 3 = .ptr s.acts.length 2 0 ∧ ρ 4 = I j ∧
      ∃ xa oga tk bx, Acc s.acts.length 3 (((as.take j).map cA).map rowA) xa oga tk ∧ m = s.push ⟨[I n, .slice o1 e1 (as.map rowA), .slice o2 e2 (rs.map rowR)] :: [I 0, .slice .nilS 0 [], .slice .nilS 0 []] :: [I n, xa, .slice .nilS 0 []] :: bx, tk⟩) →
      go AP f_r_CopyWeek (.c (.loop b_r_CopyWeek_l1) :: k_r_CopyWeek_1) ⟨ρ, m⟩ = some ((cW ⟨n, ⟨o1, e1, as⟩, ⟨o2, e2, rs⟩⟩).v, s) := by
    refine loop_up as.length _ _ ?_ ?_
    · rintro j ρ m hj ⟨h1, h2, h3, h4, xa, oga, tk, bx, hA, rfl⟩ ih
      obtain ⟨x, hx⟩ := get_some hj
      have hxm := List.mem_of_getElem? hx
      have hec : e1 = 3 := by rcases hw.as.1 with h | h; (simp only at h; rw [h] at hx; simp at hx); exact h
      subst hec
      have hix := ix_map (f := rowA) (o := o1) (es := 3) hx
      have m2 := hf.cl x hxm
      have hcr : ∀ r, callL AP (.fn 20) [.slice x.cl.o x.cl.e (x.cl.l.map rowG)] (s.push r) = some (.slice (copyO (x.cl.l.map rowG)) 2 (x.cl.l.map rowG), s.push r) := fun r => b_CopyRanges (hs.push r) (hw.cl x hxm).1 (by omega)
      have hla : (as.take j).length ≤ 6 := by rw [List.length_take]; omega
      obtain ⟨xa', oga', tk2, ha1, ha2, ha3, ha4⟩ := hA.append hs .full (ys := [rowA (cA x)]) (by simp) (by simp; omega)
      obtain ⟨oa', ea', ra', rfl⟩ := Acc.sl hA
      obtain ⟨os', es', rs', rfl⟩ := Acc.sl ha2
      have hcc : (AV.slice (copyO (x.cl.l.map rowG)) 2 (x.cl.l.map rowG)).close = some (.slice (copyO (x.cl.l.map rowG)) 2 (x.cl.l.map rowG)) := Sl.close (f := rowG) (cpG_ok (l := x.cl.l))
      have hwj := wrap_succ hj (show (as.length : Int) < _ by omega)
      simp only [rowA, Sl.v, cA, cpG] at ha1
      simp (maxSteps := 1000000) only [go_sem, b_r_CopyWeek_l1, b_r_CopyWeek_r1, h1, h2, h3, h4, hs, lt_dec hj, hix, hcr, hcc, ha1, hwj, Nat.reduceEqDiff, reduceCtorEq, Nat.reduceAdd, Nat.reduceMul, Nat.reduceSub, Int.reduceLT, Int.reduceLE, Int.reduceEq, Int.reduceAdd, Int.reduceSub, Int.reduceNeg, Int.reduceToNat, Int.cast_ofNat_Int, ↓reduceIte]
      refine ih _ _ ?_
      refine ⟨h1, h2, h3, rfl, _, oga', tk2, _, ?_, rfl⟩
      rw [take_get hx, List.map_append, List.map_append]; exact ha2
    · rintro ρ m ⟨h1, h2, h3, h4, xa, oga, tk, bx, hA, rfl⟩
      rw [List.take_length] at hA
      obtain ⟨oa', ea', ra', rfl⟩ := Acc.sl hA
      simp (maxSteps := 1000000) only [go_sem, b_r_CopyWeek_l1, b_r_CopyWeek_r1, h1, h2, h3, h4, hs, ge_dec, Nat.reduceEqDiff, reduceCtorEq, Nat.reduceAdd, Nat.reduceMul, Nat.reduceSub, Int.reduceLT, Int.reduceLE, Int.reduceEq, Int.reduceAdd, Int.reduceSub, Int.reduceNeg, Int.reduceToNat, Int.cast_ofNat_Int, ↓reduceIte]
      refine kr 0 _ _ (Nat.zero_le _) ?_
      exact ⟨h1, h2, h3, rfl, _, oga, .slice .nilS 0 [], none, tk, bx, hA, Acc.start, .inr rfl, rfl⟩
  rw [callL_go (show AP 8 = some c_r_CopyWeek from rfl) rfl]
  simp (maxSteps := 1000000) only [go_sem, b_r_CopyWeek, hs, Nat.reduceEqDiff, reduceCtorEq, Nat.reduceAdd, Nat.reduceMul, Nat.reduceSub, Int.reduceLT, Int.reduceLE, Int.reduceEq, Int.reduceAdd, Int.reduceSub, Int.reduceNeg, Int.reduceToNat, Int.cast_ofNat_Int, ↓reduceIte]
  refine ka 0 _ _ (Nat.zero_le _) ?_
  exact ⟨rfl, rfl, rfl, rfl, _, none, [], [], Acc.start, rfl⟩

end
end Go.Ax.Sx.Sc

namespace Go.Ax.Sx.Sc
open Go.Ax
set_option linter.unusedSimpArgs false
set_option linter.unusedVariables false
set_option maxRecDepth 100000

section
variable {s : Sig} {w : W}

theorem loadr_ptr {r : Rec} {q : Nat} {g : Bool} {n b off : Nat} : loadrOp (s.push r) q g n (.ptr s.acts.length b off) = if r.boxes.length ≤ b + q then none else (s.push r).load g n (.ptr s.acts.length b off) := by
  unfold loadrOp
  simp only [cur_push, nbox_push, true_and]
theorem loadr_eptr {m : Sig} {q : Nat} {g : Bool} {n off : Nat} {cs : List AV} : loadrOp m q g n (.eptr cs off) = m.load g n (.eptr cs off) := rfl
theorem fill_ptr {r : Rec} {k n b off : Nat} {y : AV} : fillOp (s.push r) k n (.ptr s.acts.length b off) y = if b = r.boxes.length - k ∧ 0 < k then (s.push r).store n (.ptr s.acts.length b off) y else none := by
  unfold fillOp
  simp only [cur_push, nbox_push, true_and]
attribute [go_sem] loadr_ptr loadr_eptr fill_ptr
theorem onBool_undef {β : Type} {f : Bool → β} {d : β} : onBool AV.undef f d = d := rfl
attribute [go_sem] onBool_undef
theorem rep2 : List.replicate 2 ([] : List AV) = [[], []] := rfl
theorem slot52 {a b c r : List AV} {z : AV} : slotL [a, b, c, [], []] 2 (z :: r) = some (3, [a, b, c, z :: r, []]) := rfl
theorem slot51 {a b c x r : List AV} {z : AV} : slotL [a, b, c, x, []] 1 (z :: r) = some (4, [a, b, c, x, z :: r]) := rfl

theorem b_Has {l : List Int} {o : Own} {e : Nat} {n : Int} (he : l = [] ∨ e = 1) (hl : (l.length : Int) < 9223372036854775808) :
    callL AP (.fn 37) [.slice o e (l.map rowI), I n] s = some (B (l.any fun m => decide (m = n)), s) := by
  have key : ∀ (k : Nat) ρ m, k ≤ l.length → (ρ 0 = .slice o e (l.map rowI) ∧ ρ 1 = I n ∧ ρ 5 = I k ∧ m = s.push ⟨[], []⟩) → go AP f_b_Has (.c (.loop b_b_Has_l0) :: k_b_Has_0) ⟨ρ, m⟩ = some (B ((l.drop k).any fun m => decide (m = n)), s) := by
    refine loop_up l.length _ _ ?_ ?_
    · rintro k ρ m hk ⟨h0, h1, h5, rfl⟩ ih
      obtain ⟨a, ha⟩ := get_some hk
      have he : e = 1 := by rcases he with h | h; (rw [h] at ha; simp at ha); exact h
      subst he
      have hr := ix_map (o := o) (es := 1) (f := rowI) ha
      rw [drop_get ha, List.any_cons]
      cases hd : decide (a = n) with
      | true => simp (maxSteps := 1000000) only [go_sem, b_b_Has_l0, b_b_Has_r0, h0, h1, h5, lt_dec hk, hr, hd, Nat.reduceEqDiff, reduceCtorEq, Nat.reduceAdd, Nat.reduceMul, Nat.reduceSub, Int.reduceLT, Int.reduceLE, Int.reduceEq, Int.reduceAdd, Int.reduceSub, Int.reduceNeg, Int.reduceToNat, Int.cast_ofNat_Int, ↓reduceIte]; rfl
      | false =>
        simp (maxSteps := 1000000) only [go_sem, b_b_Has_l0, b_b_Has_r0, h0, h1, h5, lt_dec hk, hr, hd, wrap_succ hk hl, Nat.reduceEqDiff, reduceCtorEq, Nat.reduceAdd, Nat.reduceMul, Nat.reduceSub, Int.reduceLT, Int.reduceLE, Int.reduceEq, Int.reduceAdd, Int.reduceSub, Int.reduceNeg, Int.reduceToNat, Int.cast_ofNat_Int, ↓reduceIte]
        rw [Bool.false_or]; exact ih _ _ ⟨h0, h1, rfl, rfl⟩
    · rintro ρ m ⟨h0, h1, h5, rfl⟩
      simp (maxSteps := 1000000) only [go_sem, b_b_Has_l0, b_b_Has_r0, h0, h1, h5, ge_dec, Nat.reduceEqDiff, reduceCtorEq, Nat.reduceAdd, Nat.reduceMul, Nat.reduceSub, Int.reduceLT, Int.reduceLE, Int.reduceEq, Int.reduceAdd, Int.reduceSub, Int.reduceNeg, Int.reduceToNat, Int.cast_ofNat_Int, ↓reduceIte]
      rw [List.drop_length]; rfl
  rw [callL_go (show AP 37 = some c_b_Has from rfl) rfl]
  simp (maxSteps := 1000000) only [go_sem, b_b_Has, Nat.reduceEqDiff, reduceCtorEq, Nat.reduceAdd, Nat.reduceMul, Nat.reduceSub, Int.reduceLT, Int.reduceLE, Int.reduceEq, Int.reduceAdd, Int.reduceSub, Int.reduceNeg, Int.reduceToNat, Int.cast_ofNat_Int, ↓reduceIte]
  exact key 0 _ _ (Nat.zero_le _) ⟨rfl, rfl, rfl, rfl⟩

theorem r_closed {a : A} {t : Int} (hs : Ok s) (he : a.cl.l = [] ∨ a.cl.e = 2) (hl : (a.cl.l.length : Int) < 9223372036854775808) :
    callL AP (.fn 59) [.agg (rowA a), I t] s = some (B (isClosed a t), s) := by
  obtain ⟨name, setup, ⟨o, e, l⟩⟩ := a
  simp only at he hl
  have key : ∀ (k : Nat) ρ m, k ≤ l.length → (ρ 1 = I t ∧ ρ 2 = .ptr s.acts.length 0 0 ∧ ρ 5 = I k ∧ m = s.push ⟨[[S name, I setup, .slice o e (l.map rowG)]], []⟩) → go AP f_r_closed (.c (.loop b_r_closed_l0) :: k_r_closed_0) ⟨ρ, m⟩ = some (B ((l.drop k).any fun p => wi t p.1 p.2), s) := by
    refine loop_up l.length _ _ ?_ ?_
    · rintro k ρ m hk ⟨h1, h2, h5, rfl⟩ ih
      obtain ⟨a, ha⟩ := get_some hk
      have he : e = 2 := by rcases he with h | h; (rw [h] at ha; simp at ha); exact h
      subst he
      have hr := ix_map (o := o) (es := 2) (f := rowG) ha
      rw [drop_get ha, List.any_cons]
      cases hd : wi t a.1 a.2 with
      | true => simp (maxSteps := 1000000) only [go_sem, b_r_closed_l0, b_r_closed_r0, h1, h2, h5, hs, lt_dec hk, hr, b_Within, hd, Nat.reduceEqDiff, reduceCtorEq, Nat.reduceAdd, Nat.reduceMul, Nat.reduceSub, Int.reduceLT, Int.reduceLE, Int.reduceEq, Int.reduceAdd, Int.reduceSub, Int.reduceNeg, Int.reduceToNat, Int.cast_ofNat_Int, ↓reduceIte]; rfl
      | false =>
        simp (maxSteps := 1000000) only [go_sem, b_r_closed_l0, b_r_closed_r0, h1, h2, h5, hs, lt_dec hk, hr, b_Within, hd, wrap_succ hk hl, Nat.reduceEqDiff, reduceCtorEq, Nat.reduceAdd, Nat.reduceMul, Nat.reduceSub, Int.reduceLT, Int.reduceLE, Int.reduceEq, Int.reduceAdd, Int.reduceSub, Int.reduceNeg, Int.reduceToNat, Int.cast_ofNat_Int, ↓reduceIte]
        rw [Bool.false_or]; exact ih _ _ ⟨h1, h2, rfl, rfl⟩
    · rintro ρ m ⟨h1, h2, h5, rfl⟩
      simp (maxSteps := 1000000) only [go_sem, b_r_closed_l0, b_r_closed_r0, h1, h2, h5, hs, ge_dec, Nat.reduceEqDiff, reduceCtorEq, Nat.reduceAdd, Nat.reduceMul, Nat.reduceSub, Int.reduceLT, Int.reduceLE, Int.reduceEq, Int.reduceAdd, Int.reduceSub, Int.reduceNeg, Int.reduceToNat, Int.cast_ofNat_Int, ↓reduceIte]
      rw [List.drop_length]; rfl
  rw [callL_go (show AP 59 = some c_r_closed from rfl) rfl]
  simp (maxSteps := 1000000) only [go_sem, b_r_closed, hs, Nat.reduceEqDiff, reduceCtorEq, Nat.reduceAdd, Nat.reduceMul, Nat.reduceSub, Int.reduceLT, Int.reduceLE, Int.reduceEq, Int.reduceAdd, Int.reduceSub, Int.reduceNeg, Int.reduceToNat, Int.cast_ofNat_Int, ↓reduceIte]
  exact key 0 _ _ (Nat.zero_le _) ⟨rfl, rfl, rfl, rfl⟩

theorem any_range {f : Nat → Bool} {k m : Nat} (h : k < m) : ((List.range m).drop k).any f = (f k || ((List.range m).drop (k + 1)).any f) := by
  rw [drop_get (x := k) (by simp [h]), List.any_cons]

theorem r_shut {p : P} (hs : Ok s) (hw : Wk w) (hp : PIn w p) : callL AP (.fn 38) [w.v, .agg (rowP p)] s = some (B (p.an.l.any fun a => !openB w a p.start (w.rq p.req).len), s) := by
  have hlen := hw.len hp.r0 hp.r1
  have hs0 := hp.s0
  have hs1 := hp.s1
  have hrs := ix_rs hw hp.r0 hp.r1
  have hpl := hp.len
  have hpe := hp.ok.1
  have hpan := hp.an
  generalize hq : w.rq p.req = q at *
  obtain ⟨req, st, ⟨o, e, l⟩⟩ := p
  simp only at hlen hs0 hs1 hrs hpl hpe hpan
  have hm : ((q.len.toNat : Nat) : Int) = q.len := by omega
  have key : ∀ (k : Nat) ρ m, k ≤ l.length → (ρ 2 = .ptr s.acts.length 0 0 ∧ ρ 3 = .ptr s.acts.length 1 0 ∧ ρ 5 = I k ∧ m = s.push ⟨[rowW w, [I req, I st, .slice o e (l.map rowI)]], []⟩) →
      go AP f_r_shut (.c (.loop b_r_shut_l0) :: k_r_shut_0) ⟨ρ, m⟩ = some (B ((l.drop k).any fun a => !openB w a st q.len), s) := by
    refine loop_up l.length _ _ ?_ ?_
    · rintro k ρ m hk ⟨h2, h3, h5, rfl⟩ ih
      obtain ⟨a, ha⟩ := get_some hk
      have he : e = 1 := by rcases hpe with h | h; (rw [h] at ha; simp at ha); exact h
      subst he
      have hr := ix_map (o := o) (es := 1) (f := rowI) ha
      obtain ⟨ha0, ha1⟩ := hpan a (List.mem_of_getElem? ha)
      obtain ⟨x, hx, _, hix⟩ := ix_as hw ha0 ha1
      have hxm := List.mem_of_getElem? hx
      have hcl : ∀ r t, callL AP (.fn 59) [.agg (rowA x), I t] (s.push r) = some (B (isClosed x t), s.push r) := fun r t => r_closed (hs.push r) (hw.ok.cl x hxm).1 (by have := (hw.v.a x hxm).cll; omega)
      have hop : (!openB w a st q.len) = (List.range q.len.toNat).any fun t => isClosed x (st + t) := by
        unfold openB; rw [hx]; simp
      have inner : ∀ (j : Nat) ρ m, j ≤ q.len.toNat → (ρ 2 = .ptr s.acts.length 0 0 ∧ ρ 3 = .ptr s.acts.length 1 0 ∧ ρ 5 = I k ∧ ρ 6 = I j ∧ m = s.push ⟨[rowW w, [I req, I st, .slice o 1 (l.map rowI)]], []⟩) →
          go AP f_r_shut (.c (.loop b_r_shut_l1) :: k_r_shut_1) ⟨ρ, m⟩ = some (B ((((List.range q.len.toNat).drop j).any fun t => isClosed x (st + t)) || ((l.drop (k + 1)).any fun a => !openB w a st q.len)), s) := by
        refine loop_up q.len.toNat _ _ ?_ ?_
        · rintro j ρ m hj ⟨g2, g3, g5, g6, rfl⟩ ih2
          have hj' : decide ((j : Int) < q.len) = true := by simp; omega
          rw [any_range hj]
          have hwr : IntKind.i64.wrap (st + (j : Int)) = st + j := wrap_id (by omega) (by omega)
          simp only [rowA, Sl.v] at hcl hix
          simp only [rowR, Sl.v] at hrs
          cases hd : isClosed x (st + j) with
          | true => simp (maxSteps := 1000000) only [go_sem, b_r_shut_l1, b_r_shut_r1, g2, g3, g5, g6, hs, hrs, hj', hr, hix, hcl, hwr, hd, Nat.reduceEqDiff, reduceCtorEq, Nat.reduceAdd, Nat.reduceMul, Nat.reduceSub, Int.reduceLT, Int.reduceLE, Int.reduceEq, Int.reduceAdd, Int.reduceSub, Int.reduceNeg, Int.reduceToNat, Int.cast_ofNat_Int, ↓reduceIte]; rfl
          | false =>
            simp (maxSteps := 1000000) only [go_sem, b_r_shut_l1, b_r_shut_r1, g2, g3, g5, g6, hs, hrs, hj', hr, hix, hcl, hwr, hd, wrap_succ hj (show ((q.len.toNat : Nat) : Int) < _ by omega), Nat.reduceEqDiff, reduceCtorEq, Nat.reduceAdd, Nat.reduceMul, Nat.reduceSub, Int.reduceLT, Int.reduceLE, Int.reduceEq, Int.reduceAdd, Int.reduceSub, Int.reduceNeg, Int.reduceToNat, Int.cast_ofNat_Int, ↓reduceIte]
            rw [Bool.false_or]
            exact ih2 _ _ ⟨g2, g3, g5, rfl, rfl⟩
        · rintro ρ m ⟨g2, g3, g5, g6, rfl⟩
          have hj' : decide (((q.len.toNat : Nat) : Int) < q.len) = false := by simp; omega
          simp only [rowR, Sl.v] at hrs
          simp (maxSteps := 1000000) only [go_sem, b_r_shut_l1, b_r_shut_r1, g2, g3, g5, g6, hs, hrs, hj', wrap_succ hk hpl, Nat.reduceEqDiff, reduceCtorEq, Nat.reduceAdd, Nat.reduceMul, Nat.reduceSub, Int.reduceLT, Int.reduceLE, Int.reduceEq, Int.reduceAdd, Int.reduceSub, Int.reduceNeg, Int.reduceToNat, Int.cast_ofNat_Int, ↓reduceIte]
          rw [List.drop_of_length_le (by simp), List.any_nil, Bool.false_or]
          exact ih _ _ ⟨g2, g3, rfl, rfl⟩
      rw [drop_get ha, List.any_cons, hop]
      simp (maxSteps := 1000000) only [go_sem, b_r_shut_l0, b_r_shut_r0, h2, h3, h5, hs, lt_dec hk, Nat.reduceEqDiff, reduceCtorEq, Nat.reduceAdd, Nat.reduceMul, Nat.reduceSub, Int.reduceLT, Int.reduceLE, Int.reduceEq, Int.reduceAdd, Int.reduceSub, Int.reduceNeg, Int.reduceToNat, Int.cast_ofNat_Int, ↓reduceIte]
      refine Eq.trans (inner 0 _ _ (Nat.zero_le _) ?_) ?_
      · exact ⟨h2, h3, h5, rfl, rfl⟩
      · rw [List.drop_zero]
    · rintro ρ m ⟨h2, h3, h5, rfl⟩
      simp (maxSteps := 1000000) only [go_sem, b_r_shut_l0, b_r_shut_r0, h2, h3, h5, hs, ge_dec, Nat.reduceEqDiff, reduceCtorEq, Nat.reduceAdd, Nat.reduceMul, Nat.reduceSub, Int.reduceLT, Int.reduceLE, Int.reduceEq, Int.reduceAdd, Int.reduceSub, Int.reduceNeg, Int.reduceToNat, Int.cast_ofNat_Int, ↓reduceIte]
      rw [List.drop_length]; rfl
  rw [callL_go (show AP 38 = some c_r_shut from rfl) rfl]
  simp (maxSteps := 1000000) only [go_sem, b_r_shut, hs, Nat.reduceEqDiff, reduceCtorEq, Nat.reduceAdd, Nat.reduceMul, Nat.reduceSub, Int.reduceLT, Int.reduceLE, Int.reduceEq, Int.reduceAdd, Int.reduceSub, Int.reduceNeg, Int.reduceToNat, Int.cast_ofNat_Int, ↓reduceIte]
  exact key 0 _ _ (Nat.zero_le _) ⟨rfl, rfl, rfl, rfl⟩

theorem r_Conflict {a b : P} (hs : Ok s) (hw : Wk w) (ha : PIn w a) (hb : PIn w b) : callL AP (.fn 39) [w.v, .agg (rowP a), .agg (rowP b)] s = some (B (conf w a b), s) := by
  have hend : ∀ {a b : P}, PIn w a → PIn w b → IntKind.i64.wrap (IntKind.i64.wrap (b.start - a.start) - (w.rq a.req).len) = b.start - endP w a := by
    intro a b ha hb
    have hl := hw.len ha.r0 ha.r1
    have h3 := hb.s0
    have h4 := hb.s1
    have h5 := ha.s0
    have h6 := ha.s1
    unfold endP
    rw [wrap_id (x := b.start - a.start) (by omega) (by omega), wrap_id (by omega) (by omega)]; omega
  have key : ∀ (a b : P), PIn w a → PIn w b → ∀ (k : Nat) ρ m, k ≤ a.an.l.length → (ρ 3 = .ptr s.acts.length 0 0 ∧ ρ 4 = .ptr s.acts.length 1 0 ∧ ρ 5 = .ptr s.acts.length 2 0 ∧ ρ 7 = .ptr s.acts.length 3 0 ∧ ρ 8 = .ptr s.acts.length 4 0 ∧ ρ 9 = I (b.start - endP w a) ∧ ρ 10 = I k ∧ m = s.push ⟨[rowW w, rowP a, rowP b, rowR (w.rq a.req), rowR (w.rq b.req)], []⟩) →
      go AP f_r_Conflict (.c (.loop b_r_Conflict_l0) :: k_r_Conflict_0) ⟨ρ, m⟩ = some (B ((a.an.l.drop k).any fun n => (b.an.l.any fun m => decide (n = m)) && decide (b.start - endP w a < (if (w.rq a.req).mis = (w.rq b.req).mis then 0 else w.stp n))), s) := by
    intro a b ha hb
    refine loop_up a.an.l.length _ _ ?_ ?_
    · rintro k ρ m hk ⟨h3, h4, h5, h7, h8, h9, h10, rfl⟩ ih
      obtain ⟨n, hn⟩ := get_some hk
      obtain ⟨hn0, hn1⟩ := ha.an n (List.mem_of_getElem? hn)
      obtain ⟨x, hx, hst, hix⟩ := ix_as hw hn0 hn1
      have hsp := hw.stp hn0 hn1
      have hr := Sl.ix (f := rowI) ha.ok hn
      have hh : ∀ r, callL AP (.fn 37) [.slice b.an.o b.an.e (b.an.l.map rowI), I n] (s.push r) = some (B (b.an.l.any fun m => decide (m = n)), s.push r) := fun r => b_Has hb.ok.1 hb.len
      have hsym : (b.an.l.any fun m => decide (n = m)) = b.an.l.any fun m => decide (m = n) := by
        congr 1; funext m; exact dec_iff eq_comm
      rw [drop_get hn, List.any_cons, hsym]
      simp only [rowA, Sl.v] at hix
      generalize ((a.an.l.drop (k + 1)).any fun n => (b.an.l.any fun m => decide (n = m)) && decide (b.start - endP w a < (if (w.rq a.req).mis = (w.rq b.req).mis then 0 else w.stp n))) = R at *
      generalize b.start - endP w a = t at *
      generalize (b.an.l.any fun m => decide (m = n)) = has at *
      rw [hst] at hsp ⊢
      cases has with
      | false =>
        simp (maxSteps := 1000000) only [go_sem, b_r_Conflict_l0, b_r_Conflict_r0, h3, h4, h5, h7, h8, h9, h10, hs, lt_dec hk, hr, hh, hix, wrap_succ hk ha.len, Nat.reduceEqDiff, reduceCtorEq, Nat.reduceAdd, Nat.reduceMul, Nat.reduceSub, Int.reduceLT, Int.reduceLE, Int.reduceEq, Int.reduceAdd, Int.reduceSub, Int.reduceNeg, Int.reduceToNat, Int.cast_ofNat_Int, ↓reduceIte]
        rw [Bool.false_and, Bool.false_or]
        refine ih _ _ ?_
        exact ⟨h3, h4, h5, h7, h8, h9, rfl, rfl⟩
      | true =>
        rw [Bool.true_and]
        by_cases ht : t < 0
        · have : decide (t < (if (w.rq a.req).mis = (w.rq b.req).mis then 0 else x.setup)) = true := decide_eq_true (by split <;> omega)
          rw [this, Bool.true_or]
          simp (maxSteps := 1000000) only [go_sem, b_r_Conflict_l0, b_r_Conflict_r0, h3, h4, h5, h7, h8, h9, h10, hs, lt_dec hk, hr, hh, hix, wrap_succ hk ha.len, ht, Nat.reduceEqDiff, reduceCtorEq, Nat.reduceAdd, Nat.reduceMul, Nat.reduceSub, Int.reduceLT, Int.reduceLE, Int.reduceEq, Int.reduceAdd, Int.reduceSub, Int.reduceNeg, Int.reduceToNat, Int.cast_ofNat_Int, ↓reduceIte]
        · by_cases hm : (w.rq a.req).mis = (w.rq b.req).mis
          · rw [if_pos hm, decide_eq_false ht, Bool.false_or]
            have hm1 : decide (¬ (w.rq a.req).mis = (w.rq b.req).mis) = false := by simp [hm]
            simp (maxSteps := 1000000) only [go_sem, b_r_Conflict_l0, b_r_Conflict_r0, h3, h4, h5, h7, h8, h9, h10, hs, lt_dec hk, hr, hh, hix, wrap_succ hk ha.len, ht, hm1, ne_eq, Nat.reduceEqDiff, reduceCtorEq, Nat.reduceAdd, Nat.reduceMul, Nat.reduceSub, Int.reduceLT, Int.reduceLE, Int.reduceEq, Int.reduceAdd, Int.reduceSub, Int.reduceNeg, Int.reduceToNat, Int.cast_ofNat_Int, ↓reduceIte]
            refine ih _ _ ?_
            exact ⟨h3, h4, h5, h7, h8, h9, rfl, rfl⟩
          · rw [if_neg hm]
            have hm1 : decide (¬ (w.rq a.req).mis = (w.rq b.req).mis) = true := by simp [hm]
            by_cases h11 : t < x.setup
            · rw [decide_eq_true h11, Bool.true_or]
              simp (maxSteps := 1000000) only [go_sem, b_r_Conflict_l0, b_r_Conflict_r0, h3, h4, h5, h7, h8, h9, h10, hs, lt_dec hk, hr, hh, hix, wrap_succ hk ha.len, ht, hm1, h11, ne_eq, Nat.reduceEqDiff, reduceCtorEq, Nat.reduceAdd, Nat.reduceMul, Nat.reduceSub, Int.reduceLT, Int.reduceLE, Int.reduceEq, Int.reduceAdd, Int.reduceSub, Int.reduceNeg, Int.reduceToNat, Int.cast_ofNat_Int, ↓reduceIte]
            · rw [decide_eq_false h11, Bool.false_or]
              simp (maxSteps := 1000000) only [go_sem, b_r_Conflict_l0, b_r_Conflict_r0, h3, h4, h5, h7, h8, h9, h10, hs, lt_dec hk, hr, hh, hix, wrap_succ hk ha.len, ht, hm1, h11, ne_eq, Nat.reduceEqDiff, reduceCtorEq, Nat.reduceAdd, Nat.reduceMul, Nat.reduceSub, Int.reduceLT, Int.reduceLE, Int.reduceEq, Int.reduceAdd, Int.reduceSub, Int.reduceNeg, Int.reduceToNat, Int.cast_ofNat_Int, ↓reduceIte]
              refine ih _ _ ?_
              exact ⟨h3, h4, h5, h7, h8, h9, rfl, rfl⟩
    · rintro ρ m ⟨h3, h4, h5, h7, h8, h9, h10, rfl⟩
      simp (maxSteps := 1000000) only [go_sem, b_r_Conflict_l0, b_r_Conflict_r0, h3, h4, h5, h7, h8, h9, h10, hs, ge_dec, Nat.reduceEqDiff, reduceCtorEq, Nat.reduceAdd, Nat.reduceMul, Nat.reduceSub, Int.reduceLT, Int.reduceLE, Int.reduceEq, Int.reduceAdd, Int.reduceSub, Int.reduceNeg, Int.reduceToNat, Int.cast_ofNat_Int, ↓reduceIte]
      rw [List.drop_length]; rfl
  rw [callL_go (show AP 39 = some c_r_Conflict from rfl) rfl]
  unfold conf clash
  have ra := ix_rs hw ha.r0 ha.r1
  have rb := ix_rs hw hb.r0 hb.r1
  simp only [rowR, Sl.v] at ra rb
  by_cases h1 : a.req = b.req
  · simp (maxSteps := 1000000) only [go_sem, b_r_Conflict, hs, ra, rb, h1, Nat.reduceEqDiff, reduceCtorEq, Nat.reduceAdd, Nat.reduceMul, Nat.reduceSub, Int.reduceLT, Int.reduceLE, Int.reduceEq, Int.reduceAdd, Int.reduceSub, Int.reduceNeg, Int.reduceToNat, Int.cast_ofNat_Int, ↓reduceIte]
  · rw [if_neg h1]
    by_cases h2 : b.start < a.start
    · rw [if_pos h2]
      simp (maxSteps := 1000000) only [go_sem, b_r_Conflict, hs, ra, rb, h1, h2, rep2, slot52, slot51, List.length_cons, List.length_nil, Nat.reduceLeDiff, and_self, Nat.lt_add_one, Nat.reduceLT, Nat.reduceEqDiff, hend hb ha, Nat.reduceEqDiff, reduceCtorEq, Nat.reduceAdd, Nat.reduceMul, Nat.reduceSub, Int.reduceLT, Int.reduceLE, Int.reduceEq, Int.reduceAdd, Int.reduceSub, Int.reduceNeg, Int.reduceToNat, Int.cast_ofNat_Int, ↓reduceIte]
      refine key b a hb ha 0 _ _ (Nat.zero_le _) ?_
      exact ⟨rfl, rfl, rfl, rfl, rfl, rfl, rfl, rfl⟩
    · rw [if_neg h2]
      simp (maxSteps := 1000000) only [go_sem, b_r_Conflict, hs, ra, rb, h1, h2, rep2, slot52, slot51, List.length_cons, List.length_nil, Nat.reduceLeDiff, and_self, Nat.lt_add_one, Nat.reduceLT, Nat.reduceEqDiff, hend ha hb, Nat.reduceEqDiff, reduceCtorEq, Nat.reduceAdd, Nat.reduceMul, Nat.reduceSub, Int.reduceLT, Int.reduceLE, Int.reduceEq, Int.reduceAdd, Int.reduceSub, Int.reduceNeg, Int.reduceToNat, Int.cast_ofNat_Int, ↓reduceIte]
      refine key a b ha hb 0 _ _ (Nat.zero_le _) ?_
      exact ⟨rfl, rfl, rfl, rfl, rfl, rfl, rfl, rfl⟩
end
end Go.Ax.Sx.Sc

namespace Go.Ax.Sx.Sc
open Go.Ax
set_option linter.unusedSimpArgs false
set_option linter.unusedVariables false
set_option maxRecDepth 100000

section
variable {s : Sig} {w : W}

theorem any_comm2 {l r : List Int} : (l.any fun n => r.any fun m => decide (n = m)) = r.any fun n => l.any fun m => decide (n = m) := by
  rw [Bool.eq_iff_iff]
  simp only [List.any_eq_true, decide_eq_true_eq]
  constructor
  · rintro ⟨x, hx, y, hy, rfl⟩; exact ⟨x, hy, x, hx, rfl⟩
  · rintro ⟨x, hx, y, hy, rfl⟩; exact ⟨x, hy, x, hx, rfl⟩

theorem clash_eq (hw : Wk w) {a b : P} (ha : PIn w a) (h : a.start = b.start) : clash w a b = a.an.l.any fun n => b.an.l.any fun m => decide (n = m) := by
  have hl := hw.len ha.r0 ha.r1
  unfold clash
  rw [Bool.eq_iff_iff]
  simp only [List.any_eq_true, Bool.and_eq_true, decide_eq_true_eq]
  constructor
  · rintro ⟨x, hx, h1, _⟩; exact ⟨x, hx, h1⟩
  · rintro ⟨x, hx, h1⟩
    refine ⟨x, hx, h1, ?_⟩
    have := hw.stp (ha.an x hx).1 (ha.an x hx).2
    unfold endP
    split <;> omega

theorem conf_symm (hw : Wk w) {a b : P} (ha : PIn w a) (hb : PIn w b) : conf w a b = conf w b a := by
  unfold conf
  by_cases h1 : a.req = b.req
  · rw [if_pos h1, if_pos (Eq.symm h1)]
  · rw [if_neg h1, if_neg (show ¬ b.req = a.req from fun e => h1 (Eq.symm e))]
    by_cases h2 : b.start < a.start
    · rw [if_pos h2, if_neg (by omega)]
    · rw [if_neg h2]
      by_cases h3 : a.start < b.start
      · rw [if_pos h3]
      · rw [if_neg h3, clash_eq hw ha (by omega), clash_eq hw hb (by omega), any_comm2]

theorem any_flip {l : List Int} {a : Int} : (l.any fun m => decide (m = a)) = l.any fun b => decide (a = b) := by
  congr 1; funext m; exact dec_iff eq_comm
def prevA (l : List Int) : Nat → Int
  | 0 => -1
  | k + 1 => l.getD k 0

theorem lastR_take {l : List P} {i : Nat} {x : P} (h : l[i]? = some x) : lastR (l.take (i + 1)) = x.req := by
  rw [take_get h]; unfold lastR; simp

theorem r_passErr {l : List P} {o : Own} {e i : Nat} {p : P} (hs : Ok s) (hw : Wk w) (he : l = [] ∨ e = 3) (hn : (l.length : Int) < 1000000) (hi : l[i]? = some p) (hpo : p.an.ok 1) (hpl : (p.an.l.length : Int) < 1000000) (hl : ∀ x ∈ l.take i, PIn w x) :
    callL AP (.fn 24) [w.v, .slice o e (l.map rowP), I i] s = some (I (passE w p (l.take i)), s) := by
  have hil : i < l.length := (List.getElem?_eq_some_iff.1 hi).1
  have he : e = 3 := by rcases he with h | h; (rw [h] at hi; simp at hi); exact h
  subst he
  have hix := ix_map (f := rowP) (o := o) (es := 3) hi
  have hrl := hw.v.rl
  have hn2 := hw.v.n2
  rw [callL_go (show AP 24 = some c_r_passErr from rfl) rfl]
  unfold passE
  have hwr1 : IntKind.i64.wrap ((w.rs.l.length : Int) - 1) = (w.rs.l.length : Int) - 1 := wrap_id (by omega) (by omega)
  cases h1 : wi p.req 0 (w.rs.l.length - 1) with
  | false => simp (maxSteps := 1000000) only [go_sem, b_r_passErr, hs, hix, b_Within, hwr1, h1, Bool.false_eq_true, Nat.reduceEqDiff, reduceCtorEq, Nat.reduceAdd, Nat.reduceMul, Nat.reduceSub, Int.reduceLT, Int.reduceLE, Int.reduceEq, Int.reduceAdd, Int.reduceSub, Int.reduceNeg, Int.reduceToNat, Int.cast_ofNat_Int, ↓reduceIte]
  | true =>
    rw [if_pos rfl]
    obtain ⟨hr0, hr1⟩ := wi_iff.1 h1
    have hr1' : p.req < w.rs.l.length := by omega
    have hq := hw.rq hr0 hr1'
    have hrs := ix_rs hw hr0 hr1'
    have hlen := hw.len hr0 hr1'
    have hlo0 := hq.lo0
    have hhin := hq.hin
    have hlohi := hq.lohi
    have hlenhi := hq.lenhi
    generalize hqq : w.rq p.req = q at *
    have hwr2 : IntKind.i64.wrap (q.hi - q.len) = q.hi - q.len := wrap_id (by omega) (by omega)
    have hwr3 : IntKind.i64.wrap (q.hi - q.len + 1) = q.hi + 1 - q.len := by rw [wrap_id (by omega) (by omega)]; omega
    -- the conflicts
    have kc : PIn w p → ∀ (k : Nat) ρ m, k ≤ i → (ρ 1 = .slice o 3 (l.map rowP) ∧ ρ 2 = I i ∧ ρ 3 = .ptr s.acts.length 0 0 ∧ ρ 7 = .ptr s.acts.length 1 0 ∧ ρ 10 = I k ∧ m = s.push ⟨[rowW w, rowP p, rowR q], []⟩) →
        go AP f_r_passErr (.c (.loop b_r_passErr_l0) :: k_r_passErr_0) ⟨ρ, m⟩ = some (I (if (((l.take i).drop k).any fun x => conf w x p) = true then 13 else 0), s) := by
      intro hp
      refine loop_up i _ _ ?_ ?_
      · rintro k ρ m hk ⟨g1, g2, g3, g7, g10, rfl⟩ ih
        obtain ⟨x, hx⟩ := get_some (l := l) (k := k) (by omega)
        have hxt : (l.take i)[k]? = some x := by rw [List.getElem?_take, if_pos hk]; exact hx
        have hxin := hl x (List.mem_of_getElem? hxt)
        have hr := ix_map (f := rowP) (o := o) (es := 3) hx
        have hcf : ∀ r, callL AP (.fn 39) [w.v, .agg (rowP p), .agg (rowP x)] (s.push r) = some (B (conf w x p), s.push r) := fun r => by
          rw [r_Conflict (hs.push r) hw hp hxin, conf_symm hw hp hxin]
        simp only [W.v, rowW, rowP, Sl.v] at hcf
        rw [drop_get hxt, List.any_cons]
        cases hd : conf w x p with
        | true => simp (maxSteps := 1000000) only [go_sem, b_r_passErr_l0, g1, g2, g3, g7, g10, hs, lt_dec hk, hr, hcf, hd, Bool.true_or, Nat.reduceEqDiff, reduceCtorEq, Nat.reduceAdd, Nat.reduceMul, Nat.reduceSub, Int.reduceLT, Int.reduceLE, Int.reduceEq, Int.reduceAdd, Int.reduceSub, Int.reduceNeg, Int.reduceToNat, Int.cast_ofNat_Int, ↓reduceIte]
        | false =>
          simp (maxSteps := 1000000) only [go_sem, b_r_passErr_l0, g1, g2, g3, g7, g10, hs, lt_dec hk, hr, hcf, hd, wrap_succ hk (show (i : Int) < _ by omega), Nat.reduceEqDiff, reduceCtorEq, Nat.reduceAdd, Nat.reduceMul, Nat.reduceSub, Int.reduceLT, Int.reduceLE, Int.reduceEq, Int.reduceAdd, Int.reduceSub, Int.reduceNeg, Int.reduceToNat, Int.cast_ofNat_Int, ↓reduceIte]
          rw [Bool.false_or]
          refine ih _ _ ?_
          exact ⟨g1, g2, g3, g7, rfl, rfl⟩
      · rintro ρ m ⟨g1, g2, g3, g7, g10, rfl⟩
        simp (maxSteps := 1000000) only [go_sem, b_r_passErr_l0, b_r_passErr_r0, g1, g2, g3, g7, g10, hs, ge_dec, Nat.reduceEqDiff, reduceCtorEq, Nat.reduceAdd, Nat.reduceMul, Nat.reduceSub, Int.reduceLT, Int.reduceLE, Int.reduceEq, Int.reduceAdd, Int.reduceSub, Int.reduceNeg, Int.reduceToNat, Int.cast_ofNat_Int, ↓reduceIte]
        rw [List.drop_of_length_le (by rw [List.length_take]; omega)]; rfl
    -- the antennas
    have ka : (q.lo ≤ p.start ∧ p.start ≤ q.hi + 1 - q.len) → ∀ (k : Nat) ρ m, k ≤ p.an.l.length → (ρ 1 = .slice o 3 (l.map rowP) ∧ ρ 2 = I i ∧ ρ 3 = .ptr s.acts.length 0 0 ∧ ρ 7 = .ptr s.acts.length 1 0 ∧ ρ 8 = .ptr s.acts.length 2 0 ∧ ρ 9 = I k ∧ (∀ a ∈ p.an.l.take k, 0 ≤ a ∧ a < w.as.l.length) ∧ m = s.push ⟨[rowW w, rowP p, rowR q], []⟩) →
        go AP f_r_passErr (.c (.loop b_r_passErr_l1) :: k_r_passErr_1) ⟨ρ, m⟩ = some (I (if anE q (prevA p.an.l k) (p.an.l.drop k) = 0 then (if (p.an.l.any fun a => !openB w a p.start q.len) = true then 21 else if confs w p (l.take i) = true then 13 else 0) else anE q (prevA p.an.l k) (p.an.l.drop k)), s) := by
      intro hst
      refine loop_up p.an.l.length _ _ ?_ ?_
      · rintro k ρ m hk ⟨g1, g2, g3, g7, g8, g9, hin, rfl⟩ ih
        obtain ⟨a, ha⟩ := get_some hk
        have hr := Sl.ix (f := rowI) hpo ha
        have hh : ∀ r, callL AP (.fn 37) [.slice q.an.o q.an.e (q.an.l.map rowI), I a] (s.push r) = some (B (q.an.l.any fun b => decide (a = b)), s.push r) := fun r => by
          have hqm := W.rq_mem hr0 hr1'
          rw [hqq] at hqm
          rw [b_Has (hw.ok.an q hqm).1 (by have := hw.few.an q hqm; omega)]
          rw [any_flip]
        rw [drop_get ha, anE]
        cases hc : (q.an.l.any fun b => decide (a = b)) with
        | false =>
          simp (maxSteps := 1000000) only [go_sem, b_r_passErr_l1, g1, g2, g3, g7, g8, g9, hs, lt_dec hk, hr, hh, hc, Bool.false_eq_true, Nat.reduceEqDiff, reduceCtorEq, Nat.reduceAdd, Nat.reduceMul, Nat.reduceSub, Int.reduceLT, Int.reduceLE, Int.reduceEq, Int.reduceAdd, Int.reduceSub, Int.reduceNeg, Int.reduceToNat, Int.cast_ofNat_Int, ↓reduceIte]
        | true =>
          have ha2 : 0 ≤ a ∧ a < w.as.l.length := by
            obtain ⟨b, hb, he⟩ := List.any_eq_true.1 hc
            rw [of_decide_eq_true he]; exact hq.anin b hb
          rw [if_pos rfl]
          have hin' : ∀ x ∈ p.an.l.take (k + 1), 0 ≤ x ∧ x < w.as.l.length := by
            intro x hx
            rw [take_get ha, List.mem_append] at hx
            rcases hx with hx | hx
            · exact hin x hx
            · rw [List.mem_singleton] at hx; rw [hx]; exact ha2
          have hpv : prevA p.an.l (k + 1) = a := by show p.an.l.getD k 0 = a; rw [List.getD, ha]; rfl
          rcases Nat.eq_zero_or_pos k with hk0 | hk0
          · have hlt : prevA p.an.l k < a := by rw [hk0, show prevA p.an.l 0 = -1 from rfl]; omega
            rw [if_pos hlt]
            have h0 : decide ((0 : Int) < (k : Int)) = false := by simp; omega
            simp (maxSteps := 1000000) only [go_sem, b_r_passErr_l1, g1, g2, g3, g7, g8, g9, hs, lt_dec hk, hr, hh, hc, h0, wrap_succ hk (show (p.an.l.length : Int) < _ by omega), Nat.reduceEqDiff, reduceCtorEq, Nat.reduceAdd, Nat.reduceMul, Nat.reduceSub, Int.reduceLT, Int.reduceLE, Int.reduceEq, Int.reduceAdd, Int.reduceSub, Int.reduceNeg, Int.reduceToNat, Int.cast_ofNat_Int, ↓reduceIte]
            refine Eq.trans (ih _ _ ?_) ?_
            · exact ⟨g1, g2, g3, g7, g8, rfl, hin', rfl⟩
            · rw [hpv]
          · obtain ⟨b, hb⟩ := get_some (l := p.an.l) (k := k - 1) (by omega)
            have hr2 := Sl.ix (f := rowI) hpo hb
            have h0 : decide ((0 : Int) < (k : Int)) = true := by simp; omega
            have hsub : IntKind.i64.wrap ((k : Int) - 1) = ((k - 1 : Nat) : Int) := by rw [wrap_id (by omega) (by omega)]; omega
            have hpb : prevA p.an.l k = b := by
              obtain ⟨j, rfl⟩ : ∃ j, k = j + 1 := ⟨k - 1, by omega⟩
              show p.an.l.getD j 0 = b
              rw [List.getD, show p.an.l[j]? = some b from hb]; rfl
            rw [hpb]
            by_cases hab : b < a
            · rw [if_pos hab]
              have hd : decide (a ≤ b) = false := by simp; omega
              simp (maxSteps := 1000000) only [go_sem, b_r_passErr_l1, g1, g2, g3, g7, g8, g9, hs, lt_dec hk, hr, hh, hc, h0, hsub, hr2, hd, wrap_succ hk (show (p.an.l.length : Int) < _ by omega), Nat.reduceEqDiff, reduceCtorEq, Nat.reduceAdd, Nat.reduceMul, Nat.reduceSub, Int.reduceLT, Int.reduceLE, Int.reduceEq, Int.reduceAdd, Int.reduceSub, Int.reduceNeg, Int.reduceToNat, Int.cast_ofNat_Int, ↓reduceIte]
              refine Eq.trans (ih _ _ ?_) ?_
              · exact ⟨g1, g2, g3, g7, g8, rfl, hin', rfl⟩
              · rw [hpv]
            · rw [if_neg hab]
              have hd : decide (a ≤ b) = true := by simp; omega
              simp (maxSteps := 1000000) only [go_sem, b_r_passErr_l1, g1, g2, g3, g7, g8, g9, hs, lt_dec hk, hr, hh, hc, h0, hsub, hr2, hd, Nat.reduceEqDiff, reduceCtorEq, Nat.reduceAdd, Nat.reduceMul, Nat.reduceSub, Int.reduceLT, Int.reduceLE, Int.reduceEq, Int.reduceAdd, Int.reduceSub, Int.reduceNeg, Int.reduceToNat, Int.cast_ofNat_Int, ↓reduceIte]
      · rintro ρ m ⟨g1, g2, g3, g7, g8, g9, hin, rfl⟩
        rw [List.take_length] at hin
        have hp : PIn w p := ⟨hr0, hr1', by omega, by omega, hin, hpo, by omega⟩
        have hsh : ∀ r, callL AP (.fn 38) [w.v, .agg (rowP p)] (s.push r) = some (B (p.an.l.any fun a => !openB w a p.start q.len), s.push r) := fun r => by
          rw [r_shut (hs.push r) hw hp, hqq]
        have kc' := kc hp 0
        simp only [W.v, rowW, rowP, Sl.v] at hsh
        rw [List.drop_length, anE, if_pos rfl]
        cases hc : (p.an.l.any fun a => !openB w a p.start q.len) with
        | true => simp (maxSteps := 1000000) only [go_sem, b_r_passErr_l1, b_r_passErr_r1, g1, g2, g3, g7, g8, g9, hs, ge_dec, hsh, hc, Nat.reduceEqDiff, reduceCtorEq, Nat.reduceAdd, Nat.reduceMul, Nat.reduceSub, Int.reduceLT, Int.reduceLE, Int.reduceEq, Int.reduceAdd, Int.reduceSub, Int.reduceNeg, Int.reduceToNat, Int.cast_ofNat_Int, ↓reduceIte]
        | false =>
          rw [if_neg (by simp)]
          simp (maxSteps := 1000000) only [go_sem, b_r_passErr_l1, b_r_passErr_r1, g1, g2, g3, g7, g8, g9, hs, ge_dec, hsh, hc, Nat.reduceEqDiff, reduceCtorEq, Nat.reduceAdd, Nat.reduceMul, Nat.reduceSub, Int.reduceLT, Int.reduceLE, Int.reduceEq, Int.reduceAdd, Int.reduceSub, Int.reduceNeg, Int.reduceToNat, Int.cast_ofNat_Int, ↓reduceIte]
          refine Eq.trans (kc' _ _ (Nat.zero_le _) ?_) ?_
          · exact ⟨g1, g2, g3, g7, rfl, rfl⟩
          · rw [List.drop_zero]; rfl
    simp only [rowR, rowP, Sl.v] at hrs hix
    -- behind the order
    have tail : (if wi p.start q.lo (q.hi + 1 - q.len) = true then (if (p.an.l.length : Int) = q.need then (if anE q (-1) p.an.l = 0 then (if (p.an.l.any fun a => !openB w a p.start q.len) = true then 21 else if confs w p (l.take i) = true then 13 else 0) else anE q (-1) p.an.l) else 10) else 2) = (if wi p.start q.lo (q.hi + 1 - q.len) = true then (if (p.an.l.length : Int) = q.need then (if anE q (-1) p.an.l = 0 then (if (p.an.l.any fun a => !openB w a p.start q.len) = true then 21 else if confs w p (l.take i) = true then 13 else 0) else anE q (-1) p.an.l) else 10) else 2) := rfl
    rcases Nat.eq_zero_or_pos i with hi0 | hi0
    · have hlt : lastR (l.take i) < p.req := by rw [hi0, show lastR (l.take 0) = -1 from rfl]; omega
      rw [if_pos hlt]
      have h0 : decide ((0 : Int) < (i : Int)) = false := by simp; omega
      cases h2 : wi p.start q.lo (q.hi + 1 - q.len) with
      | false => simp (maxSteps := 1000000) only [go_sem, b_r_passErr, hs, hix, b_Within, hwr1, h1, h0, hrs, hwr2, hwr3, h2, Bool.false_eq_true, Nat.reduceEqDiff, reduceCtorEq, Nat.reduceAdd, Nat.reduceMul, Nat.reduceSub, Int.reduceLT, Int.reduceLE, Int.reduceEq, Int.reduceAdd, Int.reduceSub, Int.reduceNeg, Int.reduceToNat, Int.cast_ofNat_Int, ↓reduceIte]
      | true =>
        rw [if_pos rfl]
        by_cases h3 : (p.an.l.length : Int) = q.need
        · rw [if_pos h3]
          have hd : decide (¬ (p.an.l.length : Int) = q.need) = false := by simp [h3]
          simp (maxSteps := 1000000) only [go_sem, b_r_passErr, hs, hix, b_Within, hwr1, h1, h0, hrs, hwr2, hwr3, h2, hd, ne_eq, Nat.reduceEqDiff, reduceCtorEq, Nat.reduceAdd, Nat.reduceMul, Nat.reduceSub, Int.reduceLT, Int.reduceLE, Int.reduceEq, Int.reduceAdd, Int.reduceSub, Int.reduceNeg, Int.reduceToNat, Int.cast_ofNat_Int, ↓reduceIte]
          refine Eq.trans (ka (wi_iff.1 h2) 0 _ _ (Nat.zero_le _) ?_) ?_
          · exact ⟨rfl, rfl, rfl, rfl, rfl, rfl, fun a h => absurd h (by simp), rfl⟩
          · rw [List.drop_zero]; rfl
        · rw [if_neg h3]
          have hd : decide (¬ (p.an.l.length : Int) = q.need) = true := by simp [h3]
          simp (maxSteps := 1000000) only [go_sem, b_r_passErr, hs, hix, b_Within, hwr1, h1, h0, hrs, hwr2, hwr3, h2, hd, ne_eq, Nat.reduceEqDiff, reduceCtorEq, Nat.reduceAdd, Nat.reduceMul, Nat.reduceSub, Int.reduceLT, Int.reduceLE, Int.reduceEq, Int.reduceAdd, Int.reduceSub, Int.reduceNeg, Int.reduceToNat, Int.cast_ofNat_Int, ↓reduceIte]
    · obtain ⟨x, hx⟩ := get_some (l := l) (k := i - 1) (by omega)
      have hr2 := ix_map (f := rowP) (o := o) (es := 3) hx
      have h0 : decide ((0 : Int) < (i : Int)) = true := by simp; omega
      have hsub : IntKind.i64.wrap ((i : Int) - 1) = ((i - 1 : Nat) : Int) := by rw [wrap_id (by omega) (by omega)]; omega
      have hla : lastR (l.take i) = x.req := by
        obtain ⟨j, rfl⟩ : ∃ j, i = j + 1 := ⟨i - 1, by omega⟩
        exact lastR_take hx
      rw [hla]
      simp only [rowP, Sl.v] at hr2
      by_cases hlt : x.req < p.req
      · rw [if_pos hlt]
        have hd0 : decide (p.req ≤ x.req) = false := by simp; omega
        cases h2 : wi p.start q.lo (q.hi + 1 - q.len) with
        | false => simp (maxSteps := 1000000) only [go_sem, b_r_passErr, hs, hix, b_Within, hwr1, h1, h0, hsub, hr2, hd0, hrs, hwr2, hwr3, h2, Bool.false_eq_true, Nat.reduceEqDiff, reduceCtorEq, Nat.reduceAdd, Nat.reduceMul, Nat.reduceSub, Int.reduceLT, Int.reduceLE, Int.reduceEq, Int.reduceAdd, Int.reduceSub, Int.reduceNeg, Int.reduceToNat, Int.cast_ofNat_Int, ↓reduceIte]
        | true =>
          rw [if_pos rfl]
          by_cases h3 : (p.an.l.length : Int) = q.need
          · rw [if_pos h3]
            have hd : decide (¬ (p.an.l.length : Int) = q.need) = false := by simp [h3]
            simp (maxSteps := 1000000) only [go_sem, b_r_passErr, hs, hix, b_Within, hwr1, h1, h0, hsub, hr2, hd0, hrs, hwr2, hwr3, h2, hd, ne_eq, Nat.reduceEqDiff, reduceCtorEq, Nat.reduceAdd, Nat.reduceMul, Nat.reduceSub, Int.reduceLT, Int.reduceLE, Int.reduceEq, Int.reduceAdd, Int.reduceSub, Int.reduceNeg, Int.reduceToNat, Int.cast_ofNat_Int, ↓reduceIte]
            refine Eq.trans (ka (wi_iff.1 h2) 0 _ _ (Nat.zero_le _) ?_) ?_
            · exact ⟨rfl, rfl, rfl, rfl, rfl, rfl, fun a h => absurd h (by simp), rfl⟩
            · rw [List.drop_zero]; rfl
          · rw [if_neg h3]
            have hd : decide (¬ (p.an.l.length : Int) = q.need) = true := by simp [h3]
            simp (maxSteps := 1000000) only [go_sem, b_r_passErr, hs, hix, b_Within, hwr1, h1, h0, hsub, hr2, hd0, hrs, hwr2, hwr3, h2, hd, ne_eq, Nat.reduceEqDiff, reduceCtorEq, Nat.reduceAdd, Nat.reduceMul, Nat.reduceSub, Int.reduceLT, Int.reduceLE, Int.reduceEq, Int.reduceAdd, Int.reduceSub, Int.reduceNeg, Int.reduceToNat, Int.cast_ofNat_Int, ↓reduceIte]
      · rw [if_neg hlt]
        have hd0 : decide (p.req ≤ x.req) = true := by simp; omega
        simp (maxSteps := 1000000) only [go_sem, b_r_passErr, hs, hix, b_Within, hwr1, h1, h0, hsub, hr2, hd0, Nat.reduceEqDiff, reduceCtorEq, Nat.reduceAdd, Nat.reduceMul, Nat.reduceSub, Int.reduceLT, Int.reduceLE, Int.reduceEq, Int.reduceAdd, Int.reduceSub, Int.reduceNeg, Int.reduceToNat, Int.cast_ofNat_Int, ↓reduceIte]

theorem r_CheckPlan {l : List P} {o : Own} {e : Nat} (hs : Ok s) (hw : Wk w) (hl : PlOk l) (he : l = [] ∨ e = 3) : callL AP (.fn 12) [w.v, .slice o e (l.map rowP)] s = some (.tuple [I (chkE w l).1, I (chkE w l).2], s) := by
  have hlen := hl.len
  have key : ∀ (j : Nat) ρ x, j ≤ l.length → (ρ 1 = .slice o e (l.map rowP) ∧ ρ 2 = .ptr s.acts.length 0 0 ∧ ρ 6 = I j ∧ (∀ y ∈ l.take j, PIn w y) ∧ x = s.push ⟨[rowW w], []⟩) →
      go AP f_r_CheckPlan (.c (.loop b_r_CheckPlan_l0) :: k_r_CheckPlan_0) ⟨ρ, x⟩ = some (match firstAt (fun i x => passE w x (l.take i)) j (l.drop j) with | some (k, e) => .tuple [I k, I e] | none => .tuple [I 0, I 0], s) := by
    refine loop_up l.length _ _ ?_ ?_
    · rintro j ρ x hj ⟨h1, h2, h6, hin, rfl⟩ ih
      obtain ⟨p, hp⟩ := get_some hj
      have hpo := hl.ok p (List.mem_of_getElem? hp)
      have hpe : ∀ r, callL AP (.fn 24) [w.v, .slice o e (l.map rowP), I j] (s.push r) = some (I (passE w p (l.take j)), s.push r) := fun r => r_passErr (hs.push r) hw he (by omega) hp hpo.1 (by omega) hin
      simp only [W.v, rowW, Sl.v] at hpe
      rw [firstAt_get hp]
      by_cases h0 : passE w p (l.take j) = 0
      · rw [if_pos h0]
        have hpin := (passE_in hw hpo.1 (by omega) h0).1
        simp (maxSteps := 1000000) only [go_sem, b_r_CheckPlan_l0, b_r_CheckPlan_r0, h1, h2, h6, hs, lt_dec hj, hpe, h0, ne_eq, not_true, wrap_succ hj (show (l.length : Int) < _ by omega), Nat.reduceEqDiff, reduceCtorEq, Nat.reduceAdd, Nat.reduceMul, Nat.reduceSub, Int.reduceLT, Int.reduceLE, Int.reduceEq, Int.reduceAdd, Int.reduceSub, Int.reduceNeg, Int.reduceToNat, Int.cast_ofNat_Int, ↓reduceIte]
        refine ih _ _ ?_
        refine ⟨h1, h2, rfl, ?_, rfl⟩
        intro y hy
        rw [take_get hp, List.mem_append] at hy
        rcases hy with hy | hy
        · exact hin y hy
        · rw [List.mem_singleton] at hy; rw [hy]; exact hpin
      · rw [if_neg h0]
        simp (maxSteps := 1000000) only [go_sem, b_r_CheckPlan_l0, b_r_CheckPlan_r0, h1, h2, h6, hs, lt_dec hj, hpe, h0, ne_eq, not_false_iff, Nat.reduceEqDiff, reduceCtorEq, Nat.reduceAdd, Nat.reduceMul, Nat.reduceSub, Int.reduceLT, Int.reduceLE, Int.reduceEq, Int.reduceAdd, Int.reduceSub, Int.reduceNeg, Int.reduceToNat, Int.cast_ofNat_Int, ↓reduceIte]
    · rintro ρ x ⟨h1, h2, h6, hin, rfl⟩
      simp (maxSteps := 1000000) only [go_sem, b_r_CheckPlan_l0, b_r_CheckPlan_r0, h1, h2, h6, hs, ge_dec, Nat.reduceEqDiff, reduceCtorEq, Nat.reduceAdd, Nat.reduceMul, Nat.reduceSub, Int.reduceLT, Int.reduceLE, Int.reduceEq, Int.reduceAdd, Int.reduceSub, Int.reduceNeg, Int.reduceToNat, Int.cast_ofNat_Int, ↓reduceIte]
      rw [List.drop_length]; rfl
  rw [callL_go (show AP 12 = some c_r_CheckPlan from rfl) rfl]
  simp (maxSteps := 1000000) only [go_sem, b_r_CheckPlan, hs, Nat.reduceEqDiff, reduceCtorEq, Nat.reduceAdd, Nat.reduceMul, Nat.reduceSub, Int.reduceLT, Int.reduceLE, Int.reduceEq, Int.reduceAdd, Int.reduceSub, Int.reduceNeg, Int.reduceToNat, Int.cast_ofNat_Int, ↓reduceIte]
  refine Eq.trans (key 0 _ _ (Nat.zero_le _) ?_) ?_
  · exact ⟨rfl, rfl, rfl, fun y hy => absurd hy (by simp), rfl⟩
  · rw [List.drop_zero]; unfold chkE
    cases firstAt (fun i x => passE w x (l.take i)) 0 l with
    | none => rfl
    | some q => rfl
end
end Go.Ax.Sx.Sc

namespace Go.Ax.Sx.Sc
open Go.Ax
set_option linter.unusedSimpArgs false
set_option linter.unusedVariables false
set_option maxRecDepth 100000

section
variable {s : Sig} {w : W}

theorem b_CopyInts_ro {m : Sig} {l : List Int} {o : Own} {e : Nat} (he : l = [] ∨ e = 1) (hl : l.length ≤ 4294967296) :
    callL AP (.fn 21) [.slice o e (l.map rowI)] (roS m) = some ((cpI l).v rowI, roS m) := by
  cases hl0 : l with
  | nil =>
    rw [callL_go (show AP 21 = some c_b_CopyInts from rfl) rfl]
    simp (maxSteps := 1000000) only [go_sem, b_b_CopyInts, appendOp, List.isEmpty_nil, Nat.reduceEqDiff, reduceCtorEq, Nat.reduceAdd, Nat.reduceMul, Nat.reduceSub, Int.reduceLT, Int.reduceLE, Int.reduceEq, Int.reduceAdd, Int.reduceSub, Int.reduceNeg, Int.reduceToNat, Int.cast_ofNat_Int, ↓reduceIte]
    show some (_, ((roS m).push ⟨[], []⟩).pop) = _
    rw [pop_push]; rfl
  | cons a q =>
    rw [← hl0]
    have hn : l ≠ [] := by rw [hl0]; simp
    have he' : e = 1 := by rcases he with h | h; exact absurd h hn; exact h
    subst he'
    have hlen : (roS m).acts.length = m.acts.length := rfl
    have ha : appendOp ((roS m).push ⟨[], []⟩) 1 (.slice .full 1 []) (.slice o 1 (l.map rowI)) = some (.slice (.tok m.acts.length 0) 1 (l.map rowI), (roS m).push ⟨[], [some l.length]⟩) := by
      have h3 := ntok_push (roS m) ⟨[], []⟩
      have h4 := addTok_push (roS m) ⟨[], []⟩ l.length
      rw [hlen] at h3 h4
      have h5 : ((roS m).push ⟨[], []⟩).cur = m.acts.length := by rw [cur_push, hlen]
      simp [appendOp, Own.isNil, most, hl, hn, h3, h4, h5]
    rw [callL_go (show AP 21 = some c_b_CopyInts from rfl) rfl]
    simp (maxSteps := 1000000) only [go_sem, b_b_CopyInts, ha, Nat.reduceEqDiff, reduceCtorEq, Nat.reduceAdd, Nat.reduceMul, Nat.reduceSub, Int.reduceLT, Int.reduceLE, Int.reduceEq, Int.reduceAdd, Int.reduceSub, Int.reduceNeg, Int.reduceToNat, Int.cast_ofNat_Int, ↓reduceIte]
    rw [hl0]; rfl

def cP (p : P) : P := ⟨p.req, p.start, cpI p.an.l⟩
/-- a plan that was copied -/
def cPl (l : List P) : Sl P := acS 3 (l.map cP)

theorem cPl_l {l : List P} : (cPl l).l = l.map cP := by unfold cPl; cases l <;> rfl

/-- a copy of a plan, to which the caller may append -/
theorem r_Copy {l : List P} {o : Own} {e : Nat} {Q : Sig} {tk : List (Option Nat)} (hQ : Ok Q) (hl : PlOk l) (he : l = [] ∨ e = 3) :
    ∃ x og tk', (∀ bx, callL AP (.fn 9) [.slice o e (l.map rowP)] (Q.push ⟨bx, tk⟩) = some (x, Q.push ⟨bx, tk'⟩)) ∧ Acc Q.acts.length 3 ((l.map cP).map rowP) x og tk' ∧ (tk' = tk ∨ tk' = tk ++ [some l.length]) := by
  have hlen := hl.len
  have hs : ∀ bx, Ok (Q.push ⟨bx, tk⟩) := fun bx => hQ.push _
  have hal : ∀ bx, (Q.push ⟨bx, tk⟩).acts.length = Q.acts.length + 1 := fun bx => by simp [Sig.push]
  have loop : ∀ bx, ∀ (k : Nat) ρ m, k ≤ l.length → (ρ 0 = .slice o e (l.map rowP) ∧ ρ 4 = I k ∧ ∃ x og tks, Acc (Q.push ⟨bx, tk⟩).acts.length 3 (((l.take k).map cP).map rowP) x og tks ∧ ρ 3 = x ∧ m = (Q.push ⟨bx, tk⟩).push ⟨[], tks⟩) →
      go AP f_r_Copy (.c (.loop b_r_Copy_l0) :: k_r_Copy_0) ⟨ρ, m⟩ = some (if l = [] then .slice .nilS 0 [] else .slice (.tok Q.acts.length tk.length) 3 ((l.map cP).map rowP), if l = [] then Q.push ⟨bx, tk⟩ else Q.push ⟨bx, tk ++ [some l.length]⟩) := by
    intro bx
    refine loop_up l.length _ _ ?_ ?_
    · rintro k ρ m hk ⟨h0, h4, x, og, tks, hA, h3, rfl⟩ ih
      obtain ⟨p, hp⟩ := get_some hk
      have hec : e = 3 := by rcases he with h | h; (rw [h] at hp; simp at hp); exact h
      subst hec
      have hpo := hl.ok p (List.mem_of_getElem? hp)
      have hix := ix_map (f := rowP) (o := o) (es := 3) hp
      have hcp : ∀ m : Sig, callL AP (.fn 21) [.slice p.an.o p.an.e (p.an.l.map rowI)] (roS m) = some ((cpI p.an.l).v rowI, roS m) := fun m => b_CopyInts_ro hpo.1.1 (by omega)
      have hll : (l.take k).length ≤ 14 := by rw [List.length_take]; omega
      obtain ⟨x', og', tk2, ha1, ha2, ha3, ha4⟩ := hA.append (hs bx) .full (ys := [rowP (cP p)]) (by simp) (by simp; omega)
      obtain ⟨oa', ea', ra', rfl⟩ := Acc.sl hA
      obtain ⟨os', es', rs', rfl⟩ := Acc.sl ha2
      have hcl : closeAll [I p.req, I p.start, (cpI p.an.l).v rowI] = some (rowP (cP p)) := by
        simp only [closeAll_cons, closeAll_nil, close_int, Sl.close (f := rowI) (cpI_ok (l := p.an.l))]; rfl
      simp only [rowP, Sl.v, cP] at ha1 hcl hcp
      simp (maxSteps := 1000000) only [go_sem, b_r_Copy_l0, b_r_Copy_r0, h0, h3, h4, hs, lt_dec hk, hix, hcp, hcl, ha1, wrap_succ hk (show (l.length : Int) < _ by omega), Nat.reduceEqDiff, reduceCtorEq, Nat.reduceAdd, Nat.reduceMul, Nat.reduceSub, Int.reduceLT, Int.reduceLE, Int.reduceEq, Int.reduceAdd, Int.reduceSub, Int.reduceNeg, Int.reduceToNat, Int.cast_ofNat_Int, ↓reduceIte]
      refine ih _ _ ?_
      refine ⟨h0, rfl, _, og', tk2, ?_, rfl, rfl⟩
      rw [take_get hp, List.map_append, List.map_append]; exact ha2
    · rintro ρ m ⟨h0, h4, x, og, tks, hA, h3, rfl⟩
      rw [List.take_length] at hA
      cases og with
      | none =>
        obtain ⟨hA1, rfl⟩ := hA
        have hl0 : l = [] := by simpa using hA1
        rw [if_pos hl0, if_pos hl0]
        simp (maxSteps := 1000000) only [go_sem, b_r_Copy_l0, b_r_Copy_r0, h0, h3, h4, hs, ge_dec, Nat.reduceEqDiff, reduceCtorEq, Nat.reduceAdd, Nat.reduceMul, Nat.reduceSub, Int.reduceLT, Int.reduceLE, Int.reduceEq, Int.reduceAdd, Int.reduceSub, Int.reduceNeg, Int.reduceToNat, Int.cast_ofNat_Int, ↓reduceIte]
      | some g =>
        obtain ⟨hA1, rfl, hA3⟩ := hA
        have hl0 : ¬ l = [] := by intro h; apply hA1; rw [h]; rfl
        rw [if_neg hl0, if_neg hl0]
        have hown := own_push (Q := Q) (R := ⟨bx, tk⟩) (r0 := ⟨[], tks⟩) (g := g) (es := 3) (xs := (l.map cP).map rowP) hQ hA3
        rw [hal] at h3
        simp (maxSteps := 1000000) only [go_sem, b_r_Copy_l0, b_r_Copy_r0, h0, h3, h4, hs, ge_dec, Nat.reduceEqDiff, reduceCtorEq, Nat.reduceAdd, Nat.reduceMul, Nat.reduceSub, Int.reduceLT, Int.reduceLE, Int.reduceEq, Int.reduceAdd, Int.reduceSub, Int.reduceNeg, Int.reduceToNat, Int.cast_ofNat_Int, ↓reduceIte]
        refine hown.trans ?_
        rw [List.length_map, List.length_map]
  have run : ∀ bx, callL AP (.fn 9) [.slice o e (l.map rowP)] (Q.push ⟨bx, tk⟩) = some (if l = [] then .slice .nilS 0 [] else .slice (.tok Q.acts.length tk.length) 3 ((l.map cP).map rowP), if l = [] then Q.push ⟨bx, tk⟩ else Q.push ⟨bx, tk ++ [some l.length]⟩) := by
    intro bx
    rw [callL_go (show AP 9 = some c_r_Copy from rfl) rfl]
    simp (maxSteps := 1000000) only [go_sem, b_r_Copy, hs, Nat.reduceEqDiff, reduceCtorEq, Nat.reduceAdd, Nat.reduceMul, Nat.reduceSub, Int.reduceLT, Int.reduceLE, Int.reduceEq, Int.reduceAdd, Int.reduceSub, Int.reduceNeg, Int.reduceToNat, Int.cast_ofNat_Int, ↓reduceIte]
    refine loop bx 0 _ _ (Nat.zero_le _) ?_
    exact ⟨rfl, rfl, _, none, [], Acc.start, rfl, rfl⟩
  by_cases hl0 : l = []
  · refine ⟨.slice .nilS 0 [], none, tk, fun bx => ?_, ⟨by rw [hl0]; rfl, rfl⟩, .inl rfl⟩
    rw [run bx, if_pos hl0, if_pos hl0]
  · refine ⟨.slice (.tok Q.acts.length tk.length) 3 ((l.map cP).map rowP), some tk.length, tk ++ [some l.length], fun bx => ?_, ⟨by simpa using hl0, rfl, by simp⟩, .inr rfl⟩
    rw [run bx, if_neg hl0, if_neg hl0]

theorem acc_val {d es : Nat} {xs : List (List AV)} {x : AV} {og : Option Nat} {tk : List (Option Nat)} (h : Acc d es xs x og tk) : ∃ o e, x = .slice o e xs ∧ (xs = [] ∨ e = es) := by
  cases og with
  | none => obtain ⟨h1, h2⟩ := h; subst h1; exact ⟨_, _, h2, .inl rfl⟩
  | some g => exact ⟨_, _, h.2.1, .inr rfl⟩

theorem r_ValueOf {l : List P} {o : Own} {e : Nat} (hs : Ok s) (hw : Wk w) (hl : l.length ≤ 14) (hin : ∀ p ∈ l, PIn w p) (he : l = [] ∨ e = 3) : callL AP (.fn 13) [w.v, .slice o e (l.map rowP)] s = some (I (valP w l), s) := by
  have key : ∀ (k : Nat) ρ m, k ≤ l.length → (ρ 1 = .slice o e (l.map rowP) ∧ ρ 2 = .ptr s.acts.length 0 0 ∧ ρ 5 = I (valP w (l.take k)) ∧ ρ 6 = I k ∧ m = s.push ⟨[rowW w], []⟩) →
      go AP f_r_ValueOf (.c (.loop b_r_ValueOf_l0) :: k_r_ValueOf_0) ⟨ρ, m⟩ = some (I (valP w l), s) := by
    refine loop_up l.length _ _ ?_ ?_
    · rintro k ρ m hk ⟨h1, h2, h5, h6, rfl⟩ ih
      obtain ⟨p, hp⟩ := get_some hk
      have hec : e = 3 := by rcases he with h | h; (rw [h] at hp; simp at hp); exact h
      subst hec
      have hpi := hin p (List.mem_of_getElem? hp)
      have hix := ix_map (f := rowP) (o := o) (es := 3) hp
      have hrs := ix_rs hw hpi.r0 hpi.r1
      have hb := valP_bd hw (l := l.take k) fun x hx => hin x (List.mem_of_mem_take hx)
      have hq := hw.rq hpi.r0 hpi.r1
      have hq1 := hq.val0
      have hq2 := hq.val1
      have hll : (l.take k).length ≤ 14 := by rw [List.length_take]; omega
      have hnx : valP w (l.take (k + 1)) = valP w (l.take k) + (w.rq p.req).val := by rw [take_get hp, valP_app]; simp [valP]
      have hwr : IntKind.i64.wrap (valP w (l.take k) + (w.rq p.req).val) = valP w (l.take (k + 1)) := by rw [hnx, wrap_id (by omega) (by omega)]
      simp only [rowR, rowP, Sl.v] at hrs hix
      simp (maxSteps := 1000000) only [go_sem, b_r_ValueOf_l0, b_r_ValueOf_r0, h1, h2, h5, h6, hs, lt_dec hk, hix, hrs, hwr, wrap_succ hk (show (l.length : Int) < _ by omega), Nat.reduceEqDiff, reduceCtorEq, Nat.reduceAdd, Nat.reduceMul, Nat.reduceSub, Int.reduceLT, Int.reduceLE, Int.reduceEq, Int.reduceAdd, Int.reduceSub, Int.reduceNeg, Int.reduceToNat, Int.cast_ofNat_Int, ↓reduceIte]
      refine ih _ _ ?_
      exact ⟨h1, h2, rfl, rfl, rfl⟩
    · rintro ρ m ⟨h1, h2, h5, h6, rfl⟩
      rw [List.take_length] at h5
      simp (maxSteps := 1000000) only [go_sem, b_r_ValueOf_l0, b_r_ValueOf_r0, h1, h2, h5, h6, hs, ge_dec, Nat.reduceEqDiff, reduceCtorEq, Nat.reduceAdd, Nat.reduceMul, Nat.reduceSub, Int.reduceLT, Int.reduceLE, Int.reduceEq, Int.reduceAdd, Int.reduceSub, Int.reduceNeg, Int.reduceToNat, Int.cast_ofNat_Int, ↓reduceIte]
  rw [callL_go (show AP 13 = some c_r_ValueOf from rfl) rfl]
  simp (maxSteps := 1000000) only [go_sem, b_r_ValueOf, hs, Nat.reduceEqDiff, reduceCtorEq, Nat.reduceAdd, Nat.reduceMul, Nat.reduceSub, Int.reduceLT, Int.reduceLE, Int.reduceEq, Int.reduceAdd, Int.reduceSub, Int.reduceNeg, Int.reduceToNat, Int.cast_ofNat_Int, ↓reduceIte]
  refine key 0 _ _ (Nat.zero_le _) ?_
  exact ⟨rfl, rfl, rfl, rfl, rfl⟩

def shortB (l : List P) : Bool := decide (l.length ≤ 14) && l.all fun p => decide (p.an.l.length ≤ 6)
/-- What a plan's slices are before short was asked. -/
structure PBig (l : List P) : Prop where
  len : (l.length : Int) < 9223372036854775808
  ok : ∀ p ∈ l, p.an.ok 1
  an : ∀ p ∈ l, (p.an.l.length : Int) < 9223372036854775808
theorem shortB_ok {l : List P} (hb : PBig l) (h : shortB l = true) : PlOk l := by
  simp only [shortB, Bool.and_eq_true, decide_eq_true_eq, List.all_eq_true] at h
  exact ⟨h.1, fun p hp => ⟨hb.ok p hp, h.2 p hp⟩⟩

theorem l_short {l : List P} {o : Own} {e : Nat} (hb : PBig l) (he : l = [] ∨ e = 3) : callL AP (.fn 6) [.slice o e (l.map rowP)] s = some (B (shortB l), s) := by
  have h14 : decide ((14 : Int) < (l.length : Int)) = !decide (l.length ≤ 14) := dec_not (by omega)
  have key : ∀ (k : Nat) ρ m, k ≤ l.length → (ρ 0 = .slice o e (l.map rowP) ∧ ρ 3 = I k ∧ m = s.push ⟨[], []⟩) →
      go AP f_l_short (.c (.loop b_l_short_l0) :: k_l_short_0) ⟨ρ, m⟩ = some (B ((l.drop k).all fun p => decide (p.an.l.length ≤ 6)), s) := by
    refine loop_up l.length _ _ ?_ ?_
    · rintro k ρ m hk ⟨h0, h3, rfl⟩ ih
      obtain ⟨p, hp⟩ := get_some hk
      have hec : e = 3 := by rcases he with h | h; (rw [h] at hp; simp at hp); exact h
      subst hec
      have hix := ix_map (f := rowP) (o := o) (es := 3) hp
      have hpb := hb.an p (List.mem_of_getElem? hp)
      have h6 : decide ((6 : Int) < (p.an.l.length : Int)) = !decide (p.an.l.length ≤ 6) := dec_not (by omega)
      simp only [rowP, Sl.v] at hix
      rw [all_get hp]
      cases hd : decide (p.an.l.length ≤ 6) with
      | false => simp (maxSteps := 1000000) only [go_sem, b_l_short_l0, b_l_short_r0, h0, h3, lt_dec hk, hix, h6, hd, Bool.not_false, Bool.false_and, Nat.reduceEqDiff, reduceCtorEq, Nat.reduceAdd, Nat.reduceMul, Nat.reduceSub, Int.reduceLT, Int.reduceLE, Int.reduceEq, Int.reduceAdd, Int.reduceSub, Int.reduceNeg, Int.reduceToNat, Int.cast_ofNat_Int, ↓reduceIte]
      | true =>
        simp (maxSteps := 1000000) only [go_sem, b_l_short_l0, b_l_short_r0, h0, h3, lt_dec hk, hix, h6, hd, Bool.not_true, wrap_succ hk hb.len, Nat.reduceEqDiff, reduceCtorEq, Nat.reduceAdd, Nat.reduceMul, Nat.reduceSub, Int.reduceLT, Int.reduceLE, Int.reduceEq, Int.reduceAdd, Int.reduceSub, Int.reduceNeg, Int.reduceToNat, Int.cast_ofNat_Int, ↓reduceIte]
        exact ih _ _ ⟨h0, rfl, rfl⟩
    · rintro ρ m ⟨h0, h3, rfl⟩
      simp (maxSteps := 1000000) only [go_sem, b_l_short_l0, b_l_short_r0, h0, h3, ge_dec, Nat.reduceEqDiff, reduceCtorEq, Nat.reduceAdd, Nat.reduceMul, Nat.reduceSub, Int.reduceLT, Int.reduceLE, Int.reduceEq, Int.reduceAdd, Int.reduceSub, Int.reduceNeg, Int.reduceToNat, Int.cast_ofNat_Int, ↓reduceIte]
      rw [List.drop_length]; rfl
  rw [callL_go (show AP 6 = some c_l_short from rfl) rfl]
  unfold shortB
  cases hd : decide (l.length ≤ 14) with
  | false => simp (maxSteps := 1000000) only [go_sem, b_l_short, h14, hd, Bool.not_false, Bool.false_and, Nat.reduceEqDiff, reduceCtorEq, Nat.reduceAdd, Nat.reduceMul, Nat.reduceSub, Int.reduceLT, Int.reduceLE, Int.reduceEq, Int.reduceAdd, Int.reduceSub, Int.reduceNeg, Int.reduceToNat, Int.cast_ofNat_Int, ↓reduceIte]
  | true =>
    simp (maxSteps := 1000000) only [go_sem, b_l_short, h14, hd, Bool.not_true, Nat.reduceEqDiff, reduceCtorEq, Nat.reduceAdd, Nat.reduceMul, Nat.reduceSub, Int.reduceLT, Int.reduceLE, Int.reduceEq, Int.reduceAdd, Int.reduceSub, Int.reduceNeg, Int.reduceToNat, Int.cast_ofNat_Int, ↓reduceIte]
    exact key 0 _ _ (Nat.zero_le _) ⟨rfl, rfl, rfl⟩
end
end Go.Ax.Sx.Sc

namespace Go.Ax.Sx.Sc
open Go.Ax
set_option linter.unusedSimpArgs false
set_option linter.unusedVariables false
set_option maxRecDepth 100000

/-! What the words say of a week and a plan does not hang on where their slices lie. -/
section
variable {w : W}

theorem cW_slots : (cW w).slots = w.slots := rfl
theorem cW_len : (cW w).rs.l.length = w.rs.l.length := by rw [cW_rs, List.length_map]
theorem cW_rq {i : Int} (h0 : 0 ≤ i) (h1 : i < w.rs.l.length) : (cW w).rq i = cR (w.rq i) := by
  unfold W.rq
  rw [cW_rs, List.getElem?_map]
  obtain ⟨x, hx⟩ := get_some (l := w.rs.l) (k := i.toNat) (by omega)
  rw [hx]; rfl
theorem cW_stp {a : Int} : (cW w).stp a = w.stp a := by
  unfold W.stp
  rw [cW_as, List.getElem?_map]
  cases w.as.l[a.toNat]? <;> rfl
theorem openB_c {a st n : Int} : openB (cW w) a st n = openB w a st n := by
  unfold openB
  rw [cW_as, List.getElem?_map]
  cases w.as.l[a.toNat]? <;> rfl
theorem endP_c {p : P} (h0 : 0 ≤ p.req) (h1 : p.req < w.rs.l.length) : endP (cW w) (cP p) = endP w p := by
  unfold endP
  rw [show (cP p).req = p.req from rfl, cW_rq h0 h1]; rfl
theorem clash_c {a b : P} (ha0 : 0 ≤ a.req) (ha1 : a.req < w.rs.l.length) (hb0 : 0 ≤ b.req) (hb1 : b.req < w.rs.l.length) : clash (cW w) (cP a) (cP b) = clash w a b := by
  unfold clash
  simp only [endP_c ha0 ha1, show (cP a).req = a.req from rfl, show (cP b).req = b.req from rfl, cW_rq ha0 ha1, cW_rq hb0 hb1, cW_stp]
  rfl
theorem conf_c {a b : P} (ha0 : 0 ≤ a.req) (ha1 : a.req < w.rs.l.length) (hb0 : 0 ≤ b.req) (hb1 : b.req < w.rs.l.length) : conf (cW w) (cP a) (cP b) = conf w a b := by
  unfold conf
  rw [clash_c ha0 ha1 hb0 hb1, clash_c hb0 hb1 ha0 ha1]
  rfl
theorem confs_c {p : P} {l : List P} (ha0 : 0 ≤ p.req) (ha1 : p.req < w.rs.l.length) (hl : ∀ x ∈ l, 0 ≤ x.req ∧ x.req < w.rs.l.length) : confs (cW w) (cP p) (l.map cP) = confs w p l := by
  unfold confs
  rw [List.any_map]
  rw [Bool.eq_iff_iff]
  simp only [List.any_eq_true, Function.comp]
  constructor
  · rintro ⟨x, hx, h⟩; exact ⟨x, hx, by rwa [conf_c (hl x hx).1 (hl x hx).2 ha0 ha1] at h⟩
  · rintro ⟨x, hx, h⟩; exact ⟨x, hx, by rwa [conf_c (hl x hx).1 (hl x hx).2 ha0 ha1]⟩
theorem lastR_c {l : List P} : lastR (l.map cP) = lastR l := by
  unfold lastR
  rw [List.getLast?_map]
  cases l.getLast? <;> rfl
theorem anE_c {r : R} : ∀ {l : List Int} {k : Int}, anE (cR r) k l = anE r k l
  | [], _ => rfl
  | a :: t, k => by simp only [anE, anE_c (l := t)]; rfl
theorem passE_c {p : P} {l : List P} (hl : ∀ x ∈ l, 0 ≤ x.req ∧ x.req < w.rs.l.length) : passE (cW w) (cP p) (l.map cP) = passE w p l := by
  unfold passE
  rw [lastR_c, cW_len, show (cP p).req = p.req from rfl, show (cP p).start = p.start from rfl, show (cP p).an.l = p.an.l from rfl]
  by_cases h1 : wi p.req 0 (w.rs.l.length - 1) = true
  · obtain ⟨h0, h2⟩ := wi_iff.1 h1
    rw [confs_c h0 (by omega) hl, cW_rq h0 (by omega)]
    simp only [anE_c, openB_c]
    rfl
  · rw [if_neg h1, if_neg h1]

theorem passE_r {p : P} {l : List P} (h : passE w p l = 0) : 0 ≤ p.req ∧ p.req < w.rs.l.length := by
  unfold passE at h
  by_cases h1 : wi p.req 0 (w.rs.l.length - 1) = true
  · obtain ⟨h0, h2⟩ := wi_iff.1 h1
    exact ⟨h0, by omega⟩
  · rw [if_neg h1] at h; exact absurd h (by decide)

theorem first_c {l : List P} : ∀ (n k : Nat), n + k = l.length → (∀ x ∈ l.take k, 0 ≤ x.req ∧ x.req < w.rs.l.length) →
    firstAt (fun i x => passE (cW w) x ((l.map cP).take i)) k ((l.map cP).drop k) = firstAt (fun i x => passE w x (l.take i)) k (l.drop k)
  | 0, k, h, _ => by
    have h1 : l.drop k = [] := List.drop_of_length_le (by omega)
    have h2 : (l.map cP).drop k = [] := List.drop_of_length_le (by rw [List.length_map]; omega)
    rw [h1, h2]; rfl
  | n + 1, k, h, hl => by
    obtain ⟨p, hp⟩ := get_some (l := l) (k := k) (by omega)
    have hp2 : (l.map cP)[k]? = some (cP p) := by rw [List.getElem?_map, hp]; rfl
    rw [firstAt_get hp, firstAt_get hp2]
    simp only [← List.map_take]
    rw [passE_c hl]
    by_cases h0 : passE w p (l.take k) = 0
    · rw [if_pos h0, if_pos h0]
      have := first_c (l := l) n (k + 1) (by omega) (fun x hx => by
        rw [take_get hp, List.mem_append] at hx
        rcases hx with hx | hx
        · exact hl x hx
        · rw [List.mem_singleton] at hx; rw [hx]; exact passE_r h0)
      simp only [← List.map_take] at this
      exact this
    · rw [if_neg h0, if_neg h0]

theorem chkE_c {l : List P} : chkE (cW w) (l.map cP) = chkE w l := by
  unfold chkE
  have := first_c (w := w) (l := l) l.length 0 (by omega) (fun x hx => absurd hx (by simp))
  rw [List.drop_zero, List.drop_zero] at this
  rw [this]
theorem planE_c {l : List P} : planE (cW w) (l.map cP) = planE w l := by
  unfold planE; rw [weekE_c, chkE_c]
theorem valP_c : ∀ {l : List P}, (∀ x ∈ l, 0 ≤ x.req ∧ x.req < w.rs.l.length) → valP (cW w) (l.map cP) = valP w l
  | [], _ => rfl
  | p :: r, h => by
    have hp := h p (by simp)
    simp only [List.map_cons, valP]
    rw [valP_c fun x hx => h x (List.mem_cons_of_mem _ hx), show (cP p).req = p.req from rfl, cW_rq hp.1 hp.2]; rfl
theorem cP_ok {l : List P} (hl : PlOk l) : PlOk (l.map cP) := by
  refine ⟨by rw [List.length_map]; exact hl.len, fun p hp => ?_⟩
  obtain ⟨q, hq, rfl⟩ := List.mem_map.1 hp
  exact ⟨cpI_ok, (hl.ok q hq).2⟩
end
end Go.Ax.Sx.Sc

namespace Go.Ax.Sx.Sc
open Go.Ax
set_option linter.unusedSimpArgs false
set_option linter.unusedVariables false
set_option maxRecDepth 100000
section
variable {s : Sig} {w : W}

theorem l_SchedulePlans {l : List P} {o : Own} {e : Nat} (hs : Ok s) (hw : w.Ok) (hb : w.Big) (hl : PBig l) (he : l = [] ∨ e = 3) : callL AP (.fn 3) [w.v, .slice o e (l.map rowP)] s = some (B true, s) := by
  have haw : ∀ r, callL AP (.fn 4) [] (s.push r) = some (B true, s.push r) := fun r => l_awake (hs.push r)
  have hfe : ∀ r, callL AP (.fn 5) [w.v] (s.push r) = some (B (fewB w), s.push r) := fun r => l_Few (hs.push r) hw hb
  have hsh : ∀ m : Sig, callL AP (.fn 6) [.slice o e (l.map rowP)] m = some (B (shortB l), m) := fun m => l_short hl he
  by_cases hf : fewB w = true
  · by_cases hf2 : shortB l = true
    · have hF := fewB_iff hf
      have hP := shortB_ok hl hf2
      have hcp : ∀ r, callL AP (.fn 8) [w.v] (s.push r) = some ((cW w).v, s.push r) := fun r => r_CopyWeek (hs.push r) hw hF
      -- the two copies
      obtain ⟨x1, g1, tk1, hc1, hA1, _⟩ := r_Copy (o := o) (Q := s) (tk := []) hs hP he
      obtain ⟨x2, g2, tk2, hc2, hA2, _⟩ := r_Copy (o := o) (Q := s) (tk := tk1) hs hP he
      obtain ⟨o1, e1, rfl, he1⟩ := acc_val hA1
      obtain ⟨o2, e2, rfl, he2⟩ := acc_val hA2
      have he1' : l.map cP = [] ∨ e1 = 3 := by rcases he1 with h | h; exact .inl (by simpa using h); exact .inr h
      have he2' : l.map cP = [] ∨ e2 = 3 := by rcases he2 with h | h; exact .inl (by simpa using h); exact .inr h
      have hck : ∀ r, callL AP (.fn 7) [(cW w).v, .slice o1 e1 ((l.map cP).map rowP)] (s.push r) = some (.tuple [I (planE w l).1, I (planE w l).2], s.push r) := fun r => by
        rw [s_CheckPlan (hs.push r) cW_Ok (cW_Few hF) (cP_ok hP) he1', planE_c]
      have hvo : ∀ r, callL AP (.fn 10) [(cW w).v, .slice o2 e2 ((l.map cP).map rowP)] (s.push r) = some (.tuple [I (if (planE w l).2 = 0 then valP (cW w) (l.map cP) else 0), I (planE w l).2], s.push r) := fun r => by
        rw [s_ValueOf (hs.push r) cW_Ok (cW_Few hF) (cP_ok hP) he2', planE_c]
      have hwe : ∀ r, callL AP (.fn 11) [w.v] (s.push r) = some (I (weekE w).2.2, s.push r) := fun r => r_WeekErr (hs.push r) hw hF
      simp only [W.v, rowW, Sl.v] at hfe hcp hck hvo hwe
      by_cases h0 : (weekE w).2.2 = 0
      · have hwk : Wk w := ⟨hw, hF, weekE_ok h0⟩
        have hrc : ∀ r, callL AP (.fn 12) [w.v, .slice o e (l.map rowP)] (s.push r) = some (.tuple [I (chkE w l).1, I (chkE w l).2], s.push r) := fun r => r_CheckPlan (hs.push r) hwk hP he
        have hpe : planE w l = chkE w l := by unfold planE; rw [if_pos h0]
        rw [hpe] at hck hvo
        simp only [W.v, rowW, Sl.v] at hrc
        by_cases h1 : (chkE w l).2 = 0
        · have hin := chk_pin hwk hP h1
          have hrv : ∀ r, callL AP (.fn 13) [w.v, .slice o e (l.map rowP)] (s.push r) = some (I (valP w l), s.push r) := fun r => r_ValueOf (hs.push r) hwk hP.len hin he
          have hve : valP (cW w) (l.map cP) = valP w l := valP_c fun x hx => ⟨(hin x hx).r0, (hin x hx).r1⟩
          rw [if_pos h1, hve, h1] at hvo
          rw [h1] at hrc hck
          simp only [W.v, rowW, Sl.v] at hrv
          rw [callL_go (show AP 3 = some c_l_SchedulePlans from rfl) rfl]
          simp (maxSteps := 1000000) only [go_sem, b_l_SchedulePlans, hs, haw, hfe, hf, hsh, hf2, hcp, hc1, hc2, hck, hvo, hwe, h0, hrc, hrv, W.v, rowW, Sl.v, ne_eq, not_true, decide_true, decide_not, Bool.not_true, Nat.reduceEqDiff, reduceCtorEq, Nat.reduceAdd, Nat.reduceMul, Nat.reduceSub, Int.reduceLT, Int.reduceLE, Int.reduceEq, Int.reduceAdd, Int.reduceSub, Int.reduceNeg, Int.reduceToNat, Int.cast_ofNat_Int, ↓reduceIte]
        · rw [if_neg h1] at hvo
          rw [callL_go (show AP 3 = some c_l_SchedulePlans from rfl) rfl]
          simp (maxSteps := 1000000) only [go_sem, b_l_SchedulePlans, hs, haw, hfe, hf, hsh, hf2, hcp, hc1, hc2, hck, hvo, hwe, h0, hrc, h1, W.v, rowW, Sl.v, ne_eq, not_true, not_false_iff, decide_true, decide_not, Bool.not_true, Nat.reduceEqDiff, reduceCtorEq, Nat.reduceAdd, Nat.reduceMul, Nat.reduceSub, Int.reduceLT, Int.reduceLE, Int.reduceEq, Int.reduceAdd, Int.reduceSub, Int.reduceNeg, Int.reduceToNat, Int.cast_ofNat_Int, ↓reduceIte]
      · have hpe : planE w l = (0, (weekE w).2.2) := by unfold planE; rw [if_neg h0]
        rw [hpe, if_neg h0] at hvo
        rw [hpe] at hck
        rw [callL_go (show AP 3 = some c_l_SchedulePlans from rfl) rfl]
        simp (maxSteps := 1000000) only [go_sem, b_l_SchedulePlans, hs, haw, hfe, hf, hsh, hf2, hcp, hc1, hc2, hck, hvo, hwe, h0, W.v, rowW, Sl.v, ne_eq, not_true, not_false_iff, decide_true, decide_not, Bool.not_true, Nat.reduceEqDiff, reduceCtorEq, Nat.reduceAdd, Nat.reduceMul, Nat.reduceSub, Int.reduceLT, Int.reduceLE, Int.reduceEq, Int.reduceAdd, Int.reduceSub, Int.reduceNeg, Int.reduceToNat, Int.cast_ofNat_Int, ↓reduceIte]
    · have hf2 : shortB l = false := by simpa using hf2
      rw [callL_go (show AP 3 = some c_l_SchedulePlans from rfl) rfl]
      simp only [W.v, rowW, Sl.v] at hfe
      simp (maxSteps := 1000000) only [go_sem, b_l_SchedulePlans, hs, haw, hfe, hf, hsh, hf2, W.v, rowW, Sl.v, Nat.reduceEqDiff, reduceCtorEq, Nat.reduceAdd, Nat.reduceMul, Nat.reduceSub, Int.reduceLT, Int.reduceLE, Int.reduceEq, Int.reduceAdd, Int.reduceSub, Int.reduceNeg, Int.reduceToNat, Int.cast_ofNat_Int, ↓reduceIte]
  · have hf : fewB w = false := by simpa using hf
    rw [callL_go (show AP 3 = some c_l_SchedulePlans from rfl) rfl]
    simp only [W.v, rowW, Sl.v] at hfe
    simp (maxSteps := 1000000) only [go_sem, b_l_SchedulePlans, hs, haw, hfe, hf, W.v, rowW, Sl.v, Nat.reduceEqDiff, reduceCtorEq, Nat.reduceAdd, Nat.reduceMul, Nat.reduceSub, Int.reduceLT, Int.reduceLE, Int.reduceEq, Int.reduceAdd, Int.reduceSub, Int.reduceNeg, Int.reduceToNat, Int.cast_ofNat_Int, ↓reduceIte]
end
end Go.Ax.Sx.Sc

namespace Go.Ax.Sx.Sc
open Go.Ax

section
variable {P : Program} {d : Nat}

def Flds (P : Program) (t : TypeId) (ts : List TypeId) : Prop := ∃ fs : Array Field, P.underlying t = some (.struct fs) ∧ fs.toList.map (·.type) = ts

theorem shp_flds {t : TypeId} {ts : List TypeId} {avs : List AV} (hf : Flds P t ts) (h : Shp P (d + 1) t avs) :
    ∃ ps : List (List AV), avs = ps.flatten ∧ ps.length = ts.length ∧ ∀ (i : Nat) (u : TypeId) (p : List AV), ts[i]? = some u → ps[i]? = some p → Shp P d u p := by
  obtain ⟨fs, hu, rfl⟩ := hf
  obtain ⟨ps, h1, h2, h3⟩ := shp_struct hu h
  refine ⟨ps, h1, by simp [h2], fun i u p hi hp => ?_⟩
  rw [List.getElem?_map] at hi
  obtain ⟨f, hf, rfl⟩ := Option.map_eq_some_iff.1 hi
  exact h3 i f p (by simpa using hf) hp

/-- The types of a week. -/
structure WkT (P : Program) (ti ts tg tgs tis ta tas tr trs tw : TypeId) : Prop where
  i : P.underlying ti = some (.int .i64)
  s : P.underlying ts = some .string
  g : Flds P tg [ti, ti]
  gs : P.underlying tgs = some (.slice tg)
  gc : P.cellsOf tg = 2
  is : P.underlying tis = some (.slice ti)
  ic : P.cellsOf ti = 1
  a : Flds P ta [ts, ti, tgs]
  sa : P.underlying tas = some (.slice ta)
  ac : P.cellsOf ta = 3
  r : Flds P tr [ts, tg, ti, ti, tis, ti]
  sr : P.underlying trs = some (.slice tr)
  rc : P.cellsOf tr = 7
  w : Flds P tw [ti, tas, trs]

variable {ti ts tg tgs tis ta tas tr trs tw : TypeId}

theorem maxLen_lt {n : Nat} (h : n ≤ maxLen) : (n : Int) < 9223372036854775808 := by unfold maxLen at h; omega

theorem shp_rng (T : WkT P ti ts tg tgs tis ta tas tr trs tw) {avs : List AV} (h : Shp P (d + 2) tg avs) : ∃ x : Int × Int, avs = rowG x ∧ True := by
  obtain ⟨ps, rfl, hl, hp⟩ := shp_flds T.g h
  match ps, hl, hp with
  | [p0, p1], _, hp =>
    obtain ⟨a, rfl, _⟩ := shp_int T.i (hp 0 _ p0 rfl rfl)
    obtain ⟨b, rfl, _⟩ := shp_int T.i (hp 1 _ p1 rfl rfl)
    exact ⟨(a, b), rfl, trivial⟩

theorem own_ok {o : Own} {rows : List (List AV)} (h : o = .any ∨ (o = .nilS ∧ rows = [])) : o = .any ∨ (o = .nilS ∧ rows = []) := h

theorem shp_ints (T : WkT P ti ts tg tgs tis ta tas tr trs tw) {avs : List AV} (h : Shp P (d + 2) tis avs) : ∃ x : Sl Int, avs = [x.v rowI] ∧ x.ok 1 ∧ (x.l.length : Int) < 9223372036854775808 := by
  obtain ⟨o, rows, rfl, ho, hlen, hrows⟩ := shp_slice T.is h
  obtain ⟨l, rfl, _⟩ := rows_eq (f := rowI) (g := fun _ => True) (fun r hr => by
    obtain ⟨x, hx, _⟩ := shp_int T.i (hrows r hr)
    exact ⟨x, hx, trivial⟩)
  rw [List.length_map] at hlen
  rw [T.ic]
  refine ⟨⟨o, 1, l⟩, rfl, ?_, maxLen_lt hlen⟩
  rcases ho with rfl | ⟨rfl, h⟩
  · exact ⟨.inr rfl, .inl rfl⟩
  · exact ⟨.inr rfl, .inr (.inr ⟨rfl, List.map_eq_nil_iff.1 (by assumption)⟩)⟩

theorem shp_rngs (T : WkT P ti ts tg tgs tis ta tas tr trs tw) {avs : List AV} (h : Shp P (d + 3) tgs avs) : ∃ x : Sl (Int × Int), avs = [x.v rowG] ∧ x.ok 2 ∧ (x.l.length : Int) < 9223372036854775808 := by
  obtain ⟨o, rows, rfl, ho, hlen, hrows⟩ := shp_slice T.gs h
  obtain ⟨l, rfl, _⟩ := rows_eq (f := rowG) (g := fun _ => True) (fun r hr => shp_rng T (hrows r hr))
  rw [List.length_map] at hlen
  rw [T.gc]
  refine ⟨⟨o, 2, l⟩, rfl, ?_, maxLen_lt hlen⟩
  rcases ho with rfl | ⟨rfl, h⟩
  · exact ⟨.inr rfl, .inl rfl⟩
  · exact ⟨.inr rfl, .inr (.inr ⟨rfl, List.map_eq_nil_iff.1 (by assumption)⟩)⟩

theorem shp_ant (T : WkT P ti ts tg tgs tis ta tas tr trs tw) {avs : List AV} (h : Shp P (d + 4) ta avs) :
    ∃ a : A, avs = rowA a ∧ (a.cl.ok 2 ∧ (a.name.size : Int) < 9223372036854775808 ∧ (a.cl.l.length : Int) < 9223372036854775808) := by
  obtain ⟨ps, rfl, hl, hp⟩ := shp_flds T.a h
  match ps, hl, hp with
  | [p0, p1, p2], _, hp =>
    obtain ⟨n, rfl, hn⟩ := shp_str T.s (hp 0 _ p0 rfl rfl)
    obtain ⟨b, rfl, _⟩ := shp_int T.i (hp 1 _ p1 rfl rfl)
    obtain ⟨c, rfl, hc, hcl⟩ := shp_rngs T (hp 2 _ p2 rfl rfl)
    exact ⟨⟨n, b, c⟩, rfl, hc, maxLen_lt hn, hcl⟩

theorem shp_req (T : WkT P ti ts tg tgs tis ta tas tr trs tw) {avs : List AV} (h : Shp P (d + 4) tr avs) :
    ∃ r : R, avs = rowR r ∧ (r.an.ok 1 ∧ (r.mis.size : Int) < 9223372036854775808 ∧ (r.an.l.length : Int) < 9223372036854775808) := by
  obtain ⟨ps, rfl, hl, hp⟩ := shp_flds T.r h
  match ps, hl, hp with
  | [p0, p1, p2, p3, p4, p5], _, hp =>
    obtain ⟨n, rfl, hn⟩ := shp_str T.s (hp 0 _ p0 rfl rfl)
    obtain ⟨g, rfl, _⟩ := shp_rng T (hp 1 _ p1 rfl rfl)
    obtain ⟨b, rfl, _⟩ := shp_int T.i (hp 2 _ p2 rfl rfl)
    obtain ⟨c, rfl, _⟩ := shp_int T.i (hp 3 _ p3 rfl rfl)
    obtain ⟨x, rfl, hx, hxl⟩ := shp_ints T (hp 4 _ p4 rfl rfl)
    obtain ⟨e, rfl, _⟩ := shp_int T.i (hp 5 _ p5 rfl rfl)
    exact ⟨⟨n, g.1, g.2, b, c, x, e⟩, rfl, hx, maxLen_lt hn, hxl⟩

theorem shp_week (T : WkT P ti ts tg tgs tis ta tas tr trs tw) {avs : List AV} (h : Shp P (d + 6) tw avs) : ∃ w : W, AV.agg avs = w.v ∧ w.Ok ∧ w.Big := by
  obtain ⟨ps, rfl, hl, hp⟩ := shp_flds T.w h
  match ps, hl, hp with
  | [p0, p1, p2], _, hp =>
    obtain ⟨n, rfl, _⟩ := shp_int T.i (hp 0 _ p0 rfl rfl)
    obtain ⟨o1, r1, rfl, ho1, hl1, hr1⟩ := shp_slice T.sa (hp 1 _ p1 rfl rfl)
    obtain ⟨o2, r2, rfl, ho2, hl2, hr2⟩ := shp_slice T.sr (hp 2 _ p2 rfl rfl)
    obtain ⟨as, rfl, has⟩ := rows_eq (fun r hr => shp_ant T (hr1 r hr))
    obtain ⟨rs, rfl, hrs⟩ := rows_eq (fun r hr => shp_req T (hr2 r hr))
    rw [List.length_map] at hl1 hl2
    rw [T.ac, T.rc]
    refine ⟨⟨n, ⟨o1, 3, as⟩, ⟨o2, 7, rs⟩⟩, rfl, ⟨?_, fun a ha => (has a ha).1, ?_, fun r hr => (hrs r hr).1⟩, ⟨maxLen_lt hl1, maxLen_lt hl2, fun a ha => (has a ha).2.1, fun a ha => (has a ha).2.2, fun r hr => (hrs r hr).2.1, fun r hr => (hrs r hr).2.2⟩⟩
    · rcases ho1 with rfl | ⟨rfl, h⟩
      · exact ⟨.inr rfl, .inl rfl⟩
      · exact ⟨.inr rfl, .inr (.inr ⟨rfl, List.map_eq_nil_iff.1 (by assumption)⟩)⟩
    · rcases ho2 with rfl | ⟨rfl, h⟩
      · exact ⟨.inr rfl, .inl rfl⟩
      · exact ⟨.inr rfl, .inr (.inr ⟨rfl, List.map_eq_nil_iff.1 (by assumption)⟩)⟩
end
end Go.Ax.Sx.Sc

/-
  What a plan is among the values that an argument may read as.
-/
namespace Go.Ax.Sx.Sc
open Go.Ax

section
variable {P : Program} {d : Nat} {ti tis tp tps : TypeId}

/-- The types of a plan. -/
structure PlT (P : Program) (ti tis tp tps : TypeId) : Prop where
  i : P.underlying ti = some (.int .i64)
  ic : P.cellsOf ti = 1
  is : P.underlying tis = some (.slice ti)
  p : Flds P tp [ti, ti, tis]
  ps : P.underlying tps = some (.slice tp)
  pc : P.cellsOf tp = 3

theorem shp_ints2 (T : PlT P ti tis tp tps) {avs : List AV} (h : Shp P (d + 2) tis avs) : ∃ x : Sl Int, avs = [x.v rowI] ∧ x.ok 1 ∧ (x.l.length : Int) < 9223372036854775808 := by
  obtain ⟨o, rows, rfl, ho, hlen, hrows⟩ := shp_slice T.is h
  obtain ⟨l, rfl, _⟩ := rows_eq (f := rowI) (g := fun _ => True) (fun r hr => by
    obtain ⟨x, hx, _⟩ := shp_int T.i (hrows r hr)
    exact ⟨x, hx, trivial⟩)
  rw [List.length_map] at hlen
  rw [T.ic]
  refine ⟨⟨o, 1, l⟩, rfl, ?_, maxLen_lt hlen⟩
  rcases ho with rfl | ⟨rfl, h⟩
  · exact ⟨.inr rfl, .inl rfl⟩
  · exact ⟨.inr rfl, .inr (.inr ⟨rfl, List.map_eq_nil_iff.1 (by assumption)⟩)⟩

theorem shp_pass (T : PlT P ti tis tp tps) {avs : List AV} (h : Shp P (d + 4) tp avs) : ∃ p : Sc.P, avs = rowP p ∧ (p.an.ok 1 ∧ (p.an.l.length : Int) < 9223372036854775808) := by
  obtain ⟨ps, rfl, hl, hp⟩ := shp_flds T.p h
  match ps, hl, hp with
  | [p0, p1, p2], _, hp =>
    obtain ⟨a, rfl, _⟩ := shp_int T.i (hp 0 _ p0 rfl rfl)
    obtain ⟨b, rfl, _⟩ := shp_int T.i (hp 1 _ p1 rfl rfl)
    obtain ⟨x, rfl, hx, hxl⟩ := shp_ints2 T (hp 2 _ p2 rfl rfl)
    exact ⟨⟨a, b, x⟩, rfl, hx, hxl⟩

theorem shp_plan (T : PlT P ti tis tp tps) {avs : List AV} (h : Shp P (d + 5) tps avs) : ∃ (l : List Sc.P) (o : Own) (e : Nat), avs = [.slice o e (l.map rowP)] ∧ (l = [] ∨ e = 3) ∧ PBig l := by
  obtain ⟨o, rows, rfl, ho, hlen, hrows⟩ := shp_slice T.ps h
  obtain ⟨l, rfl, hr⟩ := rows_eq (fun r hr => shp_pass T (hrows r hr))
  rw [List.length_map] at hlen
  rw [T.pc]
  exact ⟨l, o, 3, rfl, .inr rfl, ⟨maxLen_lt hlen, fun p hp => (hr p hp).1, fun p hp => (hr p hp).2⟩⟩
end
end Go.Ax.Sx.Sc
