/- A part of the proof. -/
import Derived.Test.YthbdbiapgipikaaGreatDoorT11
import Derived.Test.YthbdbiapgipikaaGreatDoorT10
namespace Go.Ax.Sx.Sc
open Go.Ax
set_option linter.unusedSimpArgs false
set_option linter.unusedVariables false
set_option maxRecDepth 100000
structure W.Big (w : W) : Prop where
 as : (w.as.l.length : Int) < 9223372036854775808
 rs : (w.rs.l.length : Int) < 9223372036854775808
 name : ∀ a ∈ w.as.l, (a.name.size : Int) < 9223372036854775808
 cl : ∀ a ∈ w.as.l, (a.cl.l.length : Int) < 9223372036854775808
 mis : ∀ r ∈ w.rs.l, (r.mis.size : Int) < 9223372036854775808
 an : ∀ r ∈ w.rs.l, (r.an.l.length : Int) < 9223372036854775808
def fewA (a : A) : Bool := decide (a.name.size ≤ 20) && decide (a.cl.l.length ≤ 8)
def fewR (r : R) : Bool := decide (r.mis.size ≤ 20) && decide (r.an.l.length ≤ 6)
def fewB (w : W) : Bool := (decide (w.as.l.length ≤ 6) && decide (w.rs.l.length ≤ 14)) && (w.as.l.all fewA && w.rs.l.all fewR)
theorem fewB_iff {w : W} (h : fewB w = true) : w.Few := by
 simp only [fewB, fewA, fewR, Bool.and_eq_true, decide_eq_true_eq, List.all_eq_true] at h
 obtain ⟨⟨h1, h2⟩, h3, h4⟩ := h
 exact ⟨h1, h2, fun a ha => (h3 a ha).1, fun a ha => (h3 a ha).2, fun r hr => (h4 r hr).1, fun r hr => (h4 r hr).2⟩
theorem all_get {α : Type} {p : α → Bool} {l : List α} {k : Nat} {x : α} (h : l[k]? = some x) : (l.drop k).all p = (p x && (l.drop (k + 1)).all p) := by
 rw [drop_get h, List.all_cons]
def cpG (l : List (Int × Int)) : Sl (Int × Int) := ⟨copyO (l.map rowG), 2, l⟩
theorem cpG_ok {l : List (Int × Int)} : (cpG l).ok 2 := by
 refine ⟨.inr rfl, ?_⟩
 cases l
 ·exact .inr (.inl rfl)
 ·exact .inl rfl
def cA (a : A) : A := { a with cl := cpG a.cl.l }
def cR (r : R) : R := { r with an := cpI r.an.l }
def cW (w : W) : W := ⟨w.slots, acS 3 (w.as.l.map cA), acS 7 (w.rs.l.map cR)⟩
theorem cW_as {w : W} : (cW w).as.l = w.as.l.map cA := acS_l
theorem cW_rs {w : W} : (cW w).rs.l = w.rs.l.map cR := acS_l
theorem cW_Ok {w : W} : (cW w).Ok := by
 refine ⟨acS_ok, fun a ha => ?_, acS_ok, fun r hr => ?_⟩
 ·rw [cW_as] at ha; obtain ⟨b, _, rfl⟩ := List.mem_map.1 ha; exact cpG_ok
 ·rw [cW_rs] at hr; obtain ⟨b, _, rfl⟩ := List.mem_map.1 hr; exact cpI_ok
theorem cW_Few {w : W} (h : w.Few) : (cW w).Few := by
 refine ⟨by rw [cW_as, List.length_map]; exact h.as, by rw [cW_rs, List.length_map]; exact h.rs, fun a ha => ?_, fun a ha => ?_, fun r hr => ?_, fun r hr => ?_⟩
 ·rw [cW_as] at ha; obtain ⟨b, hb, rfl⟩ := List.mem_map.1 ha; exact h.name b hb
 ·rw [cW_as] at ha; obtain ⟨b, hb, rfl⟩ := List.mem_map.1 ha; exact h.cl b hb
 ·rw [cW_rs] at hr; obtain ⟨b, hb, rfl⟩ := List.mem_map.1 hr; exact h.mis b hb
 ·rw [cW_rs] at hr; obtain ⟨b, hb, rfl⟩ := List.mem_map.1 hr; exact h.an b hb
theorem firstAt_map {α β : Type} {f : Nat → β → Int} {g : α → β} : ∀ {l : List α} {k : Nat}, firstAt f k (l.map g) = firstAt (fun i x => f i (g x)) k l
 | [], _ => rfl
 | a :: r, k => by simp only [List.map_cons, firstAt, firstAt_map (l := r)]
theorem antE_c {n : Int} {as : List A} {k : Nat} {a : A} : antE n (as.map cA) k (cA a) = antE n as k a := by
 unfold antE
 have : (((as.map cA).take k).any fun b => decide (b.name = (cA a).name)) = ((as.take k).any fun b => decide (b.name = a.name)) := by
  rw [← List.map_take, List.any_map]; rfl
 rw [this]; rfl
theorem weekE_c {w : W} : weekE (cW w) = weekE w := by
 unfold weekE
 simp only [cW_as, cW_rs, List.length_map, firstAt_map, antE_c]
 rfl
section
variable {s : Sig} {w : W}
theorem r_CheckWeek {w : W} (hs : Ok s) (hw : w.Ok) (hf : w.Few) : callL AP (.fn 33) [w.v] s = some (MK (weekE w), s) := by
 obtain ⟨n, ⟨o1, e1, as⟩, ⟨o2, e2, rs⟩⟩ := w
 have h4 : decide ((4 : Int) < (as.length : Int)) = !decide (as.length ≤ 4) := dec_not (by omega)
 have h12 : decide ((12 : Int) < (rs.length : Int)) = !decide (rs.length ≤ 12) := dec_not (by omega)
 rw [callL_go (show AP 33 = some c_r_CheckWeek from rfl) rfl]
 unfold weekE
 simp only
 cases hn : wi n 1 200 with
 | false => simp (maxSteps := 1000000) only [go_sem, b_r_CheckWeek, hs, b_Within, hn, Nat.reduceEqDiff, reduceCtorEq, Nat.reduceAdd, ↓reduceIte] <;> rfl
 | true =>
  have hn' := wi_iff.1 hn
  by_cases ha4 : as.length ≤ 4
  case neg =>
   have hd : decide (as.length ≤ 4) = false := decide_eq_false ha4
   simp (maxSteps := 1000000) only [go_sem, b_r_CheckWeek, hs, b_Within, hn, h4, hd, Nat.reduceEqDiff, Nat.reduceAdd, ↓reduceIte]
   rw [if_neg (fun h => ha4 h.1)]
  by_cases hr12 : rs.length ≤ 12
  case neg =>
   have hd : decide (as.length ≤ 4) = true := decide_eq_true ha4
   have hd2 : decide (rs.length ≤ 12) = false := decide_eq_false hr12
   simp (maxSteps := 1000000) only [go_sem, b_r_CheckWeek, hs, b_Within, hn, h4, h12, hd, hd2, Nat.reduceEqDiff, Nat.reduceAdd, ↓reduceIte]
   rw [if_neg (fun h => hr12 h.2)]
  have hd : decide (as.length ≤ 4) = true := decide_eq_true ha4
  have hd2 : decide (rs.length ≤ 12) = true := decide_eq_true hr12
  rw [if_pos rfl, if_pos ⟨ha4, hr12⟩]
  have k2 : ∀ j ρ m, j ≤ rs.length → (ρ 1 = .ptr s.acts.length 0 0 ∧ ρ 2 = .ptr s.acts.length 1 0 ∧ ρ 6 = I j ∧ m = s.push ⟨[[I n, .slice o1 e1 (as.map rowA), .slice o2 e2 (rs.map rowR)], [I 0, I 0]], []⟩) →
    go AP f_r_CheckWeek (.c (.loop b_r_CheckWeek_l0) :: k_r_CheckWeek_0) ⟨ρ, m⟩ = some (MK (match firstAt (fun _ r => reqE n as.length r) j (rs.drop j) with | some (k, e) => (2, k, e) | none => (0, 0, 0)), s) := by
   refine loop_up rs.length _ _ ?_ ?_
   ·rintro j ρ m hj ⟨h1, h2, h6, rfl⟩ ih
    obtain ⟨x, hx⟩ := get_some hj
    have hxm := List.mem_of_getElem? hx
    have hec : e2 = 7 := by rcases hw.rs.1 with h | h; (simp only at h; rw [h] at hx; simp at hx); exact h
    subst hec
    have hr := ix_map (f := rowR) (o := o2) (es := 7) hx
    have m1 := hf.mis x hxm
    have m2 := hf.an x hxm
    have hq : ∀ r, callL AP (.fn 55) [.agg [I n, .slice o1 e1 (as.map rowA), .slice o2 7 (rs.map rowR)], .agg [S x.mis, I x.lo, I x.hi, I x.len, I x.val, .slice x.an.o x.an.e (x.an.l.map rowI), I x.need]] (s.push r) = some (I (reqE n as.length x), s.push r) := fun r => by
     have := r_requestErr (s := s.push r) (n := n) (as := as.map rowA) (r := x) (o1 := o1) (e1 := e1) (o2 := o2) (e2 := 7) (rs := rs.map rowR) (hs.push _) (hw.an x hxm).1 hn'.1 hn'.2 (by omega) (by rw [List.length_map]; exact ha4) (by omega)
     rw [List.length_map] at this
     exact this
    rw [firstAt_get hx]
    by_cases h0 : reqE n as.length x = 0
    ·simp (maxSteps := 1000000) only [go_sem, b_r_CheckWeek_l0, h1, h6, lt_dec hj, hr, hq, h0, ne_eq, not_true, wrap_succ hj (show (rs.length : Int) < _ by omega), Nat.reduceEqDiff, Nat.reduceAdd, ↓reduceIte]
     refine ih _ _ ?_
     exact ⟨h1, h2, rfl, rfl⟩
    ·simp (maxSteps := 1000000) only [go_sem, b_r_CheckWeek_l0, h1, h2, h6, hs, lt_dec hj, hr, hq, h0, ne_eq, not_false_iff, Nat.reduceEqDiff, Nat.reduceAdd, ↓reduceIte]
   ·rintro ρ m ⟨h1, h2, h6, rfl⟩
    simp (maxSteps := 1000000) only [go_sem, b_r_CheckWeek_l0, b_r_CheckWeek_r0, h1, h2, h6, hs, ge_dec, Nat.reduceEqDiff, Nat.reduceAdd, ↓reduceIte]
    rw [List.drop_length]; rfl
  have k1 : ∀ j ρ m, j ≤ as.length → (ρ 1 = .ptr s.acts.length 0 0 ∧ ρ 2 = .ptr s.acts.length 1 0 ∧ ρ 4 = I j ∧ m = s.push ⟨[[I n, .slice o1 e1 (as.map rowA), .slice o2 e2 (rs.map rowR)], [I 0, I 0]], []⟩) →
    go AP f_r_CheckWeek (.c (.loop b_r_CheckWeek_l1) :: k_r_CheckWeek_1) ⟨ρ, m⟩ = some (MK (match firstAt (antE n as) j (as.drop j) with | some (k, e) => (1, k, e) | none => match firstAt (fun _ r => reqE n as.length r) 0 rs with | some (k, e) => (2, k, e) | none => (0, 0, 0)), s) := by
   refine loop_up as.length _ _ ?_ ?_
   ·rintro j ρ m hj ⟨h1, h2, h4', rfl⟩ ih
    obtain ⟨x, hx⟩ := get_some hj
    have hxm := List.mem_of_getElem? hx
    have hec : e1 = 3 := by rcases hw.as.1 with h | h; (simp only at h; rw [h] at hx; simp at hx); exact h
    subst hec
    have m1 := hf.name x hxm
    have m2 := hf.cl x hxm
    have hq : ∀ r, callL AP (.fn 54) [.agg [I n, .slice o1 3 (as.map rowA), .slice o2 e2 (rs.map rowR)], I j] (s.push r) = some (I (antE n as j x), s.push r) := fun r => r_antennaErr (hs.push _) (hw.cl x hxm).1 hn'.1 hn'.2 hx (by omega) ha4 (by omega)
    rw [firstAt_get hx]
    by_cases h0 : antE n as j x = 0
    ·simp (maxSteps := 1000000) only [go_sem, b_r_CheckWeek_l1, h1, h4', lt_dec hj, hq, h0, ne_eq, not_true, wrap_succ hj (show (as.length : Int) < _ by omega), Nat.reduceEqDiff, Nat.reduceAdd, ↓reduceIte]
     refine ih _ _ ?_
     exact ⟨h1, h2, rfl, rfl⟩
    ·simp (maxSteps := 1000000) only [go_sem, b_r_CheckWeek_l1, h1, h2, h4', hs, lt_dec hj, hq, h0, ne_eq, not_false_iff, Nat.reduceEqDiff, Nat.reduceAdd, ↓reduceIte]
   ·rintro ρ m ⟨h1, h2, h4', rfl⟩
    simp (maxSteps := 1000000) only [go_sem, b_r_CheckWeek_l1, b_r_CheckWeek_r1, h1, h4', ge_dec, Nat.reduceEqDiff, Nat.reduceAdd, ↓reduceIte]
    rw [List.drop_length]
    refine (k2 0 _ _ (Nat.zero_le _) ?_).trans rfl
    exact ⟨h1, h2, rfl, rfl⟩
  simp (maxSteps := 1000000) only [go_sem, b_r_CheckWeek, b_Within, hn, h4, h12, hd, hd2, Nat.reduceEqDiff, Nat.reduceAdd, ↓reduceIte]
  refine (k1 0 _ _ (Nat.zero_le _) ?_).trans rfl
  exact ⟨rfl, rfl, rfl, rfl⟩
theorem r_WeekErr (hs : Ok s) (hw : w.Ok) (hf : w.Few) : callL AP (.fn 11) [w.v] s = some (I (weekE w).2.2, s) := by
 have hc : ∀ r, callL AP (.fn 33) [w.v] (s.push r) = some (MK (weekE w), s.push r) := fun r => r_CheckWeek (hs.push r) hw hf
 rw [callL_go (show AP 11 = some c_r_WeekErr from rfl) rfl]
 simp only [W.v, rowW, Sl.v] at hc
 simp (maxSteps := 1000000) only [go_sem, b_r_WeekErr, hs, hc, Nat.reduceEqDiff, Nat.reduceAdd, ↓reduceIte]
theorem l_Few (hs : Ok s) (hw : w.Ok) (hb : w.Big) : callL AP (.fn 5) [w.v] s = some (B (fewB w), s) := by
 obtain ⟨n, ⟨o1, e1, as⟩, ⟨o2, e2, rs⟩⟩ := w
 have h6 : decide ((6 : Int) < (as.length : Int)) = !decide (as.length ≤ 6) := dec_not (by omega)
 have h14 : decide ((14 : Int) < (rs.length : Int)) = !decide (rs.length ≤ 14) := dec_not (by omega)
 rw [callL_go (show AP 5 = some c_l_Few from rfl) rfl]
 unfold fewB
 simp only
 by_cases ha : as.length ≤ 6
 case neg =>
  have hd : decide (as.length ≤ 6) = false := decide_eq_false ha
  simp (maxSteps := 1000000) only [go_sem, b_l_Few, h6, hd, Bool.false_and, Nat.reduceEqDiff, Nat.reduceAdd, ↓reduceIte]
 by_cases hr : rs.length ≤ 14
 case neg =>
  have hd : decide (as.length ≤ 6) = true := decide_eq_true ha
  have hd2 : decide (rs.length ≤ 14) = false := decide_eq_false hr
  simp (maxSteps := 1000000) only [go_sem, b_l_Few, h6, h14, hd, hd2, Bool.false_and, Bool.and_false, Nat.reduceEqDiff, Nat.reduceAdd, ↓reduceIte]
 have hd : decide (as.length ≤ 6) = true := decide_eq_true ha
 have hd2 : decide (rs.length ≤ 14) = true := decide_eq_true hr
 have k2 : ∀ j ρ m, j ≤ rs.length → (ρ 1 = .ptr s.acts.length 0 0 ∧ ρ 4 = I j ∧ m = s.push ⟨[[I n, .slice o1 e1 (as.map rowA), .slice o2 e2 (rs.map rowR)]], []⟩) →
   go AP f_l_Few (.c (.loop b_l_Few_l0) :: k_l_Few_0) ⟨ρ, m⟩ = some (B ((rs.drop j).all fewR), s) := by
  refine loop_up rs.length _ _ ?_ ?_
  ·rintro j ρ m hj ⟨h1, h4, rfl⟩ ih
   obtain ⟨x, hx⟩ := get_some hj
   have hxm := List.mem_of_getElem? hx
   have hec : e2 = 7 := by rcases hw.rs.1 with h | h; (simp only at h; rw [h] at hx; simp at hx); exact h
   subst hec
   have hix := ix_map (f := rowR) (o := o2) (es := 7) hx
   have q1 : decide ((20 : Int) < (x.mis.size : Int)) = !decide (x.mis.size ≤ 20) := dec_not (by omega)
   have q2 : decide ((6 : Int) < (x.an.l.length : Int)) = !decide (x.an.l.length ≤ 6) := dec_not (by omega)
   have hsz : x.mis.data.size = x.mis.size := rfl
   have hwj := wrap_succ hj (show (rs.length : Int) < _ by omega)
   rw [all_get hx]
   unfold fewR
   cases c1 : decide (x.mis.size ≤ 20) with
   | false => simp (maxSteps := 1000000) only [go_sem, b_l_Few_l0, h1, h4, lt_dec hj, hix, q1, c1, Bool.false_and, Nat.reduceEqDiff, Nat.reduceAdd, ↓reduceIte]
   | true =>
    cases c2 : decide (x.an.l.length ≤ 6) with
    | false => simp (maxSteps := 1000000) only [go_sem, b_l_Few_l0, h1, h4, lt_dec hj, hix, q1, q2, c1, c2, Bool.false_and, Bool.and_false, Nat.reduceEqDiff, Nat.reduceAdd, ↓reduceIte]
    | true =>
     simp (maxSteps := 1000000) only [go_sem, b_l_Few_l0, h1, h4, lt_dec hj, hix, q1, q2, c1, c2, hwj, Nat.reduceEqDiff, Nat.reduceAdd, ↓reduceIte]
     refine (ih _ _ ?_).trans ?_
     ·exact ⟨h1, rfl, rfl⟩
     ·rfl
  ·rintro ρ m ⟨h1, h4, rfl⟩
   simp (maxSteps := 1000000) only [go_sem, b_l_Few_l0, b_l_Few_r0, h1, h4, ge_dec, Nat.reduceEqDiff, Nat.reduceAdd, ↓reduceIte]
   rw [List.drop_length]; rfl
 have k1 : ∀ j ρ m, j ≤ as.length → (ρ 1 = .ptr s.acts.length 0 0 ∧ ρ 3 = I j ∧ m = s.push ⟨[[I n, .slice o1 e1 (as.map rowA), .slice o2 e2 (rs.map rowR)]], []⟩) →
   go AP f_l_Few (.c (.loop b_l_Few_l1) :: k_l_Few_1) ⟨ρ, m⟩ = some (B ((as.drop j).all fewA && rs.all fewR), s) := by
  refine loop_up as.length _ _ ?_ ?_
  ·rintro j ρ m hj ⟨h1, h3, rfl⟩ ih
   obtain ⟨x, hx⟩ := get_some hj
   have hxm := List.mem_of_getElem? hx
   have hec : e1 = 3 := by rcases hw.as.1 with h | h; (simp only at h; rw [h] at hx; simp at hx); exact h
   subst hec
   have hix := ix_map (f := rowA) (o := o1) (es := 3) hx
   have q1 : decide ((20 : Int) < (x.name.size : Int)) = !decide (x.name.size ≤ 20) := dec_not (by omega)
   have q2 : decide ((8 : Int) < (x.cl.l.length : Int)) = !decide (x.cl.l.length ≤ 8) := dec_not (by omega)
   have hsz : x.name.data.size = x.name.size := rfl
   have hwj := wrap_succ hj (show (as.length : Int) < _ by omega)
   rw [all_get hx]
   unfold fewA
   cases c1 : decide (x.name.size ≤ 20) with
   | false => simp (maxSteps := 1000000) only [go_sem, b_l_Few_l1, h1, h3, lt_dec hj, hix, q1, c1, Bool.false_and, Nat.reduceEqDiff, Nat.reduceAdd, ↓reduceIte]
   | true =>
    cases c2 : decide (x.cl.l.length ≤ 8) with
    | false => simp (maxSteps := 1000000) only [go_sem, b_l_Few_l1, h1, h3, lt_dec hj, hix, q1, q2, c1, c2, Bool.false_and, Bool.and_false, Nat.reduceEqDiff, Nat.reduceAdd, ↓reduceIte]
    | true =>
     simp (maxSteps := 1000000) only [go_sem, b_l_Few_l1, h1, h3, lt_dec hj, hix, q1, q2, c1, c2, hwj, Nat.reduceEqDiff, Nat.reduceAdd, ↓reduceIte]
     refine (ih _ _ ?_).trans ?_
     ·exact ⟨h1, rfl, rfl⟩
     ·rfl
  ·rintro ρ m ⟨h1, h3, rfl⟩
   simp (maxSteps := 1000000) only [go_sem, b_l_Few_l1, b_l_Few_r1, h1, h3, ge_dec, Nat.reduceEqDiff, Nat.reduceAdd, ↓reduceIte]
   rw [List.drop_length]
   refine (k2 0 _ _ (Nat.zero_le _) ?_).trans rfl
   exact ⟨h1, rfl, rfl⟩
 simp (maxSteps := 1000000) only [go_sem, b_l_Few, h6, h14, hd, hd2, Bool.and_self, Nat.reduceEqDiff, Nat.reduceAdd, ↓reduceIte]
 refine (k1 0 _ _ (Nat.zero_le _) ?_).trans ?_
 ·exact ⟨rfl, rfl, rfl⟩
 ·rfl
theorem b_CopyRanges {l : List (Int × Int)} {o : Own} {e : Nat} (hs : Ok s) (he : l = [] ∨ e = 2) (hl : l.length ≤ 4294967296) : callL AP (.fn 28) [.slice o e (l.map rowG)] s = some (.slice (copyO (l.map rowG)) 2 (l.map rowG), s) := by
 rw [callL_go (show AP 28 = some c_b_CopyRanges from rfl) rfl]
 rcases he with h | h
 ·subst h
  simp (maxSteps := 1000000) only [go_sem, b_b_CopyRanges, appendOp, List.isEmpty_nil, Nat.reduceEqDiff, reduceCtorEq, ↓reduceIte]
  rfl
 ·subst h
  obtain ⟨x', t', h1, h2⟩ := copy_app (s := s) (r := ⟨[], []⟩) (es := 2) (x := .slice o 2 (l.map rowG)) (xs := l.map rowG) (o := o) rfl (by simpa using hl)
  simp (maxSteps := 1000000) only [go_sem, b_b_CopyRanges, h1, h2, Nat.reduceEqDiff, reduceCtorEq, ↓reduceIte]
theorem Acc.ext {d es : Nat} {xs : List (List AV)} {x : AV} {og : Option Nat} {tk tk' : List (Option Nat)} (h : Acc d es xs x og tk) (hx : ∀ (g : Nat) (n : Option Nat), tk[g]? = some n → tk'[g]? = some n) : Acc d es xs x og tk' := by
 cases og with
 | none => exact h
 | some g => exact ⟨h.1, h.2.1, hx g _ h.2.2⟩
theorem b_CopyInts {Q : Sig} {l : List Int} {o : Own} {e : Nat} {tk : List (Option Nat)} (hQ : Ok Q) (he : l = [] ∨ e = 1) (hl : l.length ≤ 4294967296) :
  ∃ oo tk', (∀ bx, callL AP (.fn 29) [.slice o e (l.map rowI)] (Q.push ⟨bx, tk⟩) = some (.slice oo 1 (l.map rowI), Q.push ⟨bx, tk'⟩)) ∧ (AV.slice oo 1 (l.map rowI)).close = some ((cpI l).v rowI) ∧ (∀ (g : Nat) (n : Option Nat), tk[g]? = some n → tk'[g]? = some n) ∧ (l = [] → oo = .full) ∧ (l ≠ [] → oo = .tok Q.acts.length tk.length ∧ tk' = tk ++ [some l.length]) := by
 cases hl0 : l with
 | nil =>
  refine ⟨.full, tk, fun bx => ?_, rfl, fun _ _ h => h, fun _ => rfl, fun h => absurd rfl h⟩
  rw [callL_go (show AP 29 = some c_b_CopyInts from rfl) rfl]
  simp (maxSteps := 1000000) only [go_sem, b_b_CopyInts, appendOp, List.isEmpty_nil, Nat.reduceEqDiff, reduceCtorEq, ↓reduceIte]
  show some (_, ((Q.push ⟨bx, tk⟩).push ⟨[], []⟩).pop) = _
  rw [pop_push]
 | cons a q =>
  rw [← hl0]
  have hn : l ≠ [] := by rw [hl0]; simp
  have he' : e = 1 := by rcases he with h | h; exact absurd h hn; exact h
  subst he'
  refine ⟨.tok Q.acts.length tk.length, tk ++ [some l.length], fun bx => ?_, by rw [hl0]; rfl, fun g n h => ?_, fun h => absurd h hn, fun _ => ⟨rfl, rfl⟩⟩
  ·have hlen : (Q.push ⟨bx, tk⟩).acts.length = Q.acts.length + 1 := by simp [Sig.push]
   have ha : appendOp ((Q.push ⟨bx, tk⟩).push ⟨[], []⟩) 1 (.slice .full 1 []) (.slice o 1 (l.map rowI)) = some (.slice (.tok (Q.acts.length + 1) 0) 1 (l.map rowI), (Q.push ⟨bx, tk⟩).push ⟨[], [some l.length]⟩) := by
    have h3 := ntok_push (Q.push ⟨bx, tk⟩) ⟨[], []⟩
    have h4 := addTok_push (Q.push ⟨bx, tk⟩) ⟨[], []⟩ l.length
    rw [hlen] at h3 h4
    have h5 : ((Q.push ⟨bx, tk⟩).push ⟨[], []⟩).cur = Q.acts.length + 1 := by rw [cur_push, hlen]
    simp [appendOp, Own.isNil, most, hl, hn, h3, h4, h5]
   have hown := own_push (Q := Q) (R := ⟨bx, tk⟩) (r0 := ⟨[], [some l.length]⟩) (g := 0) (es := 1) (xs := l.map rowI) hQ (by simp)
   rw [callL_go (show AP 29 = some c_b_CopyInts from rfl) rfl]
   simp (maxSteps := 1000000) only [go_sem, b_b_CopyInts, ha, Nat.reduceEqDiff, reduceCtorEq, ↓reduceIte]
   exact hown.trans (by rw [List.length_map])
  ·have := (List.getElem?_eq_some_iff.1 h).1
   rw [List.getElem?_append_left this]; exact h
theorem r_CopyWeek (hs : Ok s) (hw : w.Ok) (hf : w.Few) : callL AP (.fn 8) [w.v] s = some ((cW w).v, s) := by
 obtain ⟨n, ⟨o1, e1, as⟩, ⟨o2, e2, rs⟩⟩ := w
 have hfa : as.length ≤ 6 := hf.as
 have hfr : rs.length ≤ 14 := hf.rs
 have kr : ∀ (j : Nat) ρ m, j ≤ rs.length → (ρ 1 = .ptr s.acts.length 0 0 ∧ ρ 2 = .ptr s.acts.length 1 0 ∧ ρ 3 = .ptr s.acts.length 2 0 ∧ ρ 6 = I j ∧
   ∃ xa oga xr ogr tk bx, Acc s.acts.length 3 ((as.map cA).map rowA) xa oga tk ∧ Acc s.acts.length 7 (((rs.take j).map cR).map rowR) xr ogr tk ∧ (ogr ≠ oga ∨ ogr = none) ∧ m = s.push ⟨[I n, .slice o1 e1 (as.map rowA), .slice o2 e2 (rs.map rowR)] :: [I 0, .slice .nilS 0 [], .slice .nilS 0 []] :: [I n, xa, xr] :: bx, tk⟩) →
   go AP f_r_CopyWeek (.c (.loop b_r_CopyWeek_l0) :: k_r_CopyWeek_0) ⟨ρ, m⟩ = some ((cW ⟨n, ⟨o1, e1, as⟩, ⟨o2, e2, rs⟩⟩).v, s) := by
  refine loop_up rs.length _ _ ?_ ?_
  ·rintro j ρ m hj ⟨h1, h2, h3, h6, xa, oga, xr, ogr, tk, bx, hA, hR, hne, rfl⟩ ih
   obtain ⟨x, hx⟩ := get_some hj
   have hxm := List.mem_of_getElem? hx
   have hec : e2 = 7 := by rcases hw.rs.1 with h | h; (simp only at h; rw [h] at hx; simp at hx); exact h
   subst hec
   have hix := ix_map (f := rowR) (o := o2) (es := 7) hx
   have m2 := hf.an x hxm
   obtain ⟨oo, tk1, hc1, hc2, hc3, _, _⟩ := b_CopyInts (Q := s) (l := x.an.l) (o := x.an.o) (e := x.an.e) (tk := tk) hs (hw.an x hxm).1 (by omega)
   have hA1 := Acc.ext hA hc3
   have hR1 := Acc.ext hR hc3
   have hlr : (rs.take j).length ≤ 14 := by rw [List.length_take]; omega
   obtain ⟨xr', ogr', tk2, ha1, ha2, ha3, ha4⟩ := hR1.append hs .full (ys := [rowR (cR x)]) (by simp) (by simp; omega)
   have hoth := ha4 _ _ _ _ hA1 (by rcases hne with h | h; exact .inl fun e => h e.symm; (cases oga with | none => exact .inr rfl | some g => exact .inl (by rw [h]; simp)))
   obtain ⟨oa', ea', ra', rfl⟩ := Acc.sl hA
   obtain ⟨or', er', rr', rfl⟩ := Acc.sl hR
   obtain ⟨os', es', rs', rfl⟩ := Acc.sl ha2
   have hcl : closeAll [S x.mis, I x.lo, I x.hi, I x.len, I x.val, .slice oo 1 (x.an.l.map rowI), I x.need] = some (rowR (cR x)) := by
    simp only [closeAll_cons, closeAll_nil, close_int, close_str, hc2]; rfl
   have hwj := wrap_succ hj (show (rs.length : Int) < _ by omega)
   simp only [rowR, Sl.v, cR] at ha1 hcl
   simp (maxSteps := 1000000) only [go_sem, b_r_CopyWeek_l0, h1, h3, h6, hs, lt_dec hj, hix, hc1, hcl, ha1, hwj, Nat.reduceEqDiff, Nat.reduceAdd, ↓reduceIte]
   refine ih _ _ ?_
   refine ⟨h1, h2, h3, rfl, _, oga, _, ogr', tk2, _, hoth.1, ?_, .inl fun e => hoth.2 e.symm, rfl⟩
   rw [take_get hx, List.map_append, List.map_append]; exact ha2
  ·rintro ρ m ⟨h1, h2, h3, h6, xa, oga, xr, ogr, tk, bx, hA, hR, hne, rfl⟩
   rw [List.take_length] at hR
   have l1 := fun q : Sig => hA.leavec q
   have l2 := fun q : Sig => hR.leavec q
   obtain ⟨oa', ea', ra', rfl⟩ := Acc.sl hA
   obtain ⟨or', er', rr', rfl⟩ := Acc.sl hR
   simp (maxSteps := 1000000) only [go_sem, b_r_CopyWeek_l0, b_r_CopyWeek_r0, h1, h2, h3, h6, hs, ge_dec, l1, l2, Nat.reduceEqDiff, Nat.reduceAdd, ↓reduceIte]
   rw [acS_v, acS_v]; rfl
 have ka : ∀ (j : Nat) ρ m, j ≤ as.length → (ρ 1 = .ptr s.acts.length 0 0 ∧ ρ 2 = .ptr s.acts.length 1 0 ∧ ρ 3 = .ptr s.acts.length 2 0 ∧ ρ 4 = I j ∧
   ∃ xa oga tk bx, Acc s.acts.length 3 (((as.take j).map cA).map rowA) xa oga tk ∧ m = s.push ⟨[I n, .slice o1 e1 (as.map rowA), .slice o2 e2 (rs.map rowR)] :: [I 0, .slice .nilS 0 [], .slice .nilS 0 []] :: [I n, xa, .slice .nilS 0 []] :: bx, tk⟩) →
   go AP f_r_CopyWeek (.c (.loop b_r_CopyWeek_l1) :: k_r_CopyWeek_1) ⟨ρ, m⟩ = some ((cW ⟨n, ⟨o1, e1, as⟩, ⟨o2, e2, rs⟩⟩).v, s) := by
  refine loop_up as.length _ _ ?_ ?_
  ·rintro j ρ m hj ⟨h1, h2, h3, h4, xa, oga, tk, bx, hA, rfl⟩ ih
   obtain ⟨x, hx⟩ := get_some hj
   have hxm := List.mem_of_getElem? hx
   have hec : e1 = 3 := by rcases hw.as.1 with h | h; (simp only at h; rw [h] at hx; simp at hx); exact h
   subst hec
   have hix := ix_map (f := rowA) (o := o1) (es := 3) hx
   have m2 := hf.cl x hxm
   have hcr : ∀ r, callL AP (.fn 28) [.slice x.cl.o x.cl.e (x.cl.l.map rowG)] (s.push r) = some (.slice (copyO (x.cl.l.map rowG)) 2 (x.cl.l.map rowG), s.push r) := fun r => b_CopyRanges (hs.push r) (hw.cl x hxm).1 (by omega)
   have hla : (as.take j).length ≤ 6 := by rw [List.length_take]; omega
   obtain ⟨xa', oga', tk2, ha1, ha2, ha3, ha4⟩ := hA.append hs .full (ys := [rowA (cA x)]) (by simp) (by simp; omega)
   obtain ⟨oa', ea', ra', rfl⟩ := Acc.sl hA
   obtain ⟨os', es', rs', rfl⟩ := Acc.sl ha2
   have hcc : (AV.slice (copyO (x.cl.l.map rowG)) 2 (x.cl.l.map rowG)).close = some (.slice (copyO (x.cl.l.map rowG)) 2 (x.cl.l.map rowG)) := Sl.close (f := rowG) (cpG_ok (l := x.cl.l))
   have hwj := wrap_succ hj (show (as.length : Int) < _ by omega)
   simp only [rowA, Sl.v, cA, cpG] at ha1
   simp (maxSteps := 1000000) only [go_sem, b_r_CopyWeek_l1, h1, h3, h4, hs, lt_dec hj, hix, hcr, hcc, ha1, hwj, Nat.reduceEqDiff, Nat.reduceAdd, ↓reduceIte]
   refine ih _ _ ?_
   refine ⟨h1, h2, h3, rfl, _, oga', tk2, _, ?_, rfl⟩
   rw [take_get hx, List.map_append, List.map_append]; exact ha2
  ·rintro ρ m ⟨h1, h2, h3, h4, xa, oga, tk, bx, hA, rfl⟩
   rw [List.take_length] at hA
   obtain ⟨oa', ea', ra', rfl⟩ := Acc.sl hA
   simp (maxSteps := 1000000) only [go_sem, b_r_CopyWeek_l1, b_r_CopyWeek_r1, h1, h4, ge_dec, Nat.reduceEqDiff, Nat.reduceAdd, ↓reduceIte]
   refine kr 0 _ _ (Nat.zero_le _) ?_
   exact ⟨h1, h2, h3, rfl, _, oga, .slice .nilS 0 [], none, tk, bx, hA, Acc.start, .inr rfl, rfl⟩
 rw [callL_go (show AP 8 = some c_r_CopyWeek from rfl) rfl]
 simp (maxSteps := 1000000) only [go_sem, b_r_CopyWeek, hs, Nat.reduceEqDiff, Nat.reduceAdd, ↓reduceIte]
 refine ka 0 _ _ (Nat.zero_le _) ?_
 exact ⟨rfl, rfl, rfl, rfl, _, none, [], [], Acc.start, rfl⟩
end
end Go.Ax.Sx.Sc

namespace Go.Ax.Sx.Sc
open Go.Ax
set_option linter.unusedSimpArgs false
set_option linter.unusedVariables false
set_option maxRecDepth 100000
section
variable {s : Sig} {w : W}
theorem loadr_ptr {r : Rec} {q : Nat} {g : Bool} {n b off : Nat} : loadrOp (s.push r) q g n (.ptr s.acts.length b off) = if r.boxes.length ≤ b + q then none else (s.push r).load g n (.ptr s.acts.length b off) := by
 unfold loadrOp
 simp only [cur_push, nbox_push, true_and]
theorem loadr_eptr {m : Sig} {q : Nat} {g : Bool} {n off : Nat} {cs : List AV} : loadrOp m q g n (.eptr cs off) = m.load g n (.eptr cs off) := rfl
theorem fill_ptr {r : Rec} {k n b off : Nat} {y : AV} : fillOp (s.push r) k n (.ptr s.acts.length b off) y = if b = r.boxes.length - k ∧ 0 < k then (s.push r).store n (.ptr s.acts.length b off) y else none := by
 unfold fillOp
 simp only [cur_push, nbox_push, true_and]
attribute [go_sem] loadr_ptr loadr_eptr fill_ptr
theorem onBool_undef {β : Type} {f : Bool → β} {d : β} : onBool AV.undef f d = d := rfl
attribute [go_sem] onBool_undef
theorem r_closed {a : A} {t : Int} (hs : Ok s) (he : a.cl.l = [] ∨ a.cl.e = 2) (hl : (a.cl.l.length : Int) < 9223372036854775808) :
  callL AP (.fn 38) [.agg (rowA a), I t] s = some (B (isClosed a t), s) := by
 obtain ⟨name, setup, ⟨o, e, l⟩⟩ := a
 simp only at he hl
 have key : ∀ (k : Nat) ρ m, k ≤ l.length → (ρ 1 = I t ∧ ρ 2 = .ptr s.acts.length 0 0 ∧ ρ 5 = I k ∧ m = s.push ⟨[[S name, I setup, .slice o e (l.map rowG)]], []⟩) → go AP f_r_closed (.c (.loop b_r_closed_l0) :: k_r_closed_0) ⟨ρ, m⟩ = some (B ((l.drop k).any fun p => wi t p.1 p.2), s) := by
  refine loop_up l.length _ _ ?_ ?_
  ·rintro k ρ m hk ⟨h1, h2, h5, rfl⟩ ih
   obtain ⟨a, ha⟩ := get_some hk
   have he : e = 2 := by rcases he with h | h; (rw [h] at ha; simp at ha); exact h
   subst he
   have hr := ix_map (o := o) (es := 2) (f := rowG) ha
   rw [drop_get ha, List.any_cons]
   cases hd : wi t a.1 a.2 with
   | true => simp (maxSteps := 1000000) only [go_sem, b_r_closed_l0, h1, h2, h5, lt_dec hk, hr, b_Within, hd, Nat.reduceEqDiff, Nat.reduceAdd, ↓reduceIte]; rfl
   | false =>
    simp (maxSteps := 1000000) only [go_sem, b_r_closed_l0, h1, h2, h5, lt_dec hk, hr, b_Within, hd, wrap_succ hk hl, Nat.reduceEqDiff, Nat.reduceAdd, ↓reduceIte]
    rw [Bool.false_or]; exact ih _ _ ⟨h1, h2, rfl, rfl⟩
  ·rintro ρ m ⟨h1, h2, h5, rfl⟩
   simp (maxSteps := 1000000) only [go_sem, b_r_closed_l0, b_r_closed_r0, h2, h5, ge_dec, Nat.reduceEqDiff, Nat.reduceAdd, ↓reduceIte]
   rw [List.drop_length]; rfl
 rw [callL_go (show AP 38 = some c_r_closed from rfl) rfl]
 simp (maxSteps := 1000000) only [go_sem, b_r_closed, Nat.reduceAdd]
 exact key 0 _ _ (Nat.zero_le _) ⟨rfl, rfl, rfl, rfl⟩
theorem any_range {f : Nat → Bool} {k m : Nat} (h : k < m) : ((List.range m).drop k).any f = (f k || ((List.range m).drop (k + 1)).any f) := by
 rw [drop_get (x := k) (by simp [h]), List.any_cons]
theorem r_shut {p : P} (hs : Ok s) (hw : Wk w) (hp : PIn w p) : callL AP (.fn 57) [w.v, .agg (rowP p)] s = some (B (p.an.l.any fun a => !openB w a p.start (w.rq p.req).len), s) := by
 have hlen := hw.len hp.r0 hp.r1
 have hs0 := hp.s0
 have hs1 := hp.s1
 have hrs := ix_rs hw hp.r0 hp.r1
 have hpl := hp.len
 have hpe := hp.ok.1
 have hpan := hp.an
 generalize hq : w.rq p.req = q at *
 obtain ⟨req, st, ⟨o, e, l⟩⟩ := p
 simp only at hlen hs0 hs1 hrs hpl hpe hpan
 have hm : ((q.len.toNat : Nat) : Int) = q.len := by omega
 have key : ∀ (k : Nat) ρ m, k ≤ l.length → (ρ 2 = .ptr s.acts.length 0 0 ∧ ρ 3 = .ptr s.acts.length 1 0 ∧ ρ 5 = I k ∧ m = s.push ⟨[rowW w, [I req, I st, .slice o e (l.map rowI)]], []⟩) →
   go AP f_r_shut (.c (.loop b_r_shut_l0) :: k_r_shut_0) ⟨ρ, m⟩ = some (B ((l.drop k).any fun a => !openB w a st q.len), s) := by
  refine loop_up l.length _ _ ?_ ?_
  ·rintro k ρ m hk ⟨h2, h3, h5, rfl⟩ ih
   obtain ⟨a, ha⟩ := get_some hk
   have he : e = 1 := by rcases hpe with h | h; (rw [h] at ha; simp at ha); exact h
   subst he
   have hr := ix_map (o := o) (es := 1) (f := rowI) ha
   obtain ⟨ha0, ha1⟩ := hpan a (List.mem_of_getElem? ha)
   obtain ⟨x, hx, _, hix⟩ := ix_as hw ha0 ha1
   have hxm := List.mem_of_getElem? hx
   have hcl : ∀ r t, callL AP (.fn 38) [.agg (rowA x), I t] (s.push r) = some (B (isClosed x t), s.push r) := fun r t => r_closed (hs.push r) (hw.ok.cl x hxm).1 (by have := (hw.v.a x hxm).cll; omega)
   have hop : (!openB w a st q.len) = (List.range q.len.toNat).any fun t => isClosed x (st + t) := by
    unfold openB; rw [hx]; simp
   have inner : ∀ (j : Nat) ρ m, j ≤ q.len.toNat → (ρ 2 = .ptr s.acts.length 0 0 ∧ ρ 3 = .ptr s.acts.length 1 0 ∧ ρ 5 = I k ∧ ρ 6 = I j ∧ m = s.push ⟨[rowW w, [I req, I st, .slice o 1 (l.map rowI)]], []⟩) →
     go AP f_r_shut (.c (.loop b_r_shut_l1) :: k_r_shut_1) ⟨ρ, m⟩ = some (B ((((List.range q.len.toNat).drop j).any fun t => isClosed x (st + t)) || ((l.drop (k + 1)).any fun a => !openB w a st q.len)), s) := by
    refine loop_up q.len.toNat _ _ ?_ ?_
    ·rintro j ρ m hj ⟨g2, g3, g5, g6, rfl⟩ ih2
     have hj' : decide ((j : Int) < q.len) = true := by simp; omega
     rw [any_range hj]
     have hwr : IntKind.i64.wrap (st + (j : Int)) = st + j := wrap_id (by omega) (by omega)
     simp only [rowA, Sl.v] at hcl hix
     simp only [rowR, Sl.v] at hrs
     cases hd : isClosed x (st + j) with
     | true => simp (maxSteps := 1000000) only [go_sem, b_r_shut_l1, g2, g3, g5, g6, hrs, hj', hr, hix, hcl, hwr, hd, Nat.reduceEqDiff, Nat.reduceAdd, ↓reduceIte]; rfl
     | false =>
      simp (maxSteps := 1000000) only [go_sem, b_r_shut_l1, g2, g3, g5, g6, hrs, hj', hr, hix, hcl, hwr, hd, wrap_succ hj (show ((q.len.toNat : Nat) : Int) < _ by omega), Nat.reduceEqDiff, Nat.reduceAdd, ↓reduceIte]
      rw [Bool.false_or]
      exact ih2 _ _ ⟨g2, g3, g5, rfl, rfl⟩
    ·rintro ρ m ⟨g2, g3, g5, g6, rfl⟩
     have hj' : decide (((q.len.toNat : Nat) : Int) < q.len) = false := by simp; omega
     simp only [rowR, Sl.v] at hrs
     simp (maxSteps := 1000000) only [go_sem, b_r_shut_l1, b_r_shut_r1, g2, g3, g5, g6, hrs, hj', wrap_succ hk hpl, Nat.reduceEqDiff, Nat.reduceAdd, ↓reduceIte]
     rw [List.drop_of_length_le (by simp), List.any_nil, Bool.false_or]
     exact ih _ _ ⟨g2, g3, rfl, rfl⟩
   rw [drop_get ha, List.any_cons, hop]
   simp (maxSteps := 1000000) only [go_sem, b_r_shut_l0, h3, h5, lt_dec hk, Nat.reduceEqDiff, Nat.reduceAdd, ↓reduceIte]
   refine Eq.trans (inner 0 _ _ (Nat.zero_le _) ?_) ?_
   ·exact ⟨h2, h3, h5, rfl, rfl⟩
   ·rw [List.drop_zero]
  ·rintro ρ m ⟨h2, h3, h5, rfl⟩
   simp (maxSteps := 1000000) only [go_sem, b_r_shut_l0, b_r_shut_r0, h3, h5, ge_dec, Nat.reduceEqDiff, Nat.reduceAdd, ↓reduceIte]
   rw [List.drop_length]; rfl
 rw [callL_go (show AP 57 = some c_r_shut from rfl) rfl]
 simp (maxSteps := 1000000) only [go_sem, b_r_shut, Nat.reduceEqDiff, Nat.reduceAdd, ↓reduceIte]
 exact key 0 _ _ (Nat.zero_le _) ⟨rfl, rfl, rfl, rfl⟩
end
end Go.Ax.Sx.Sc

namespace Go.Ax.Sx.Sc
open Go.Ax
set_option linter.unusedSimpArgs false
set_option linter.unusedVariables false
set_option maxRecDepth 100000
section
variable {s : Sig} {w : W}
theorem any_comm2 {l r : List Int} : (l.any fun n => r.any fun m => decide (n = m)) = r.any fun n => l.any fun m => decide (n = m) := by
 rw [Bool.eq_iff_iff]
 simp only [List.any_eq_true, decide_eq_true_eq]
 constructor
 ·rintro ⟨x, hx, y, hy, rfl⟩; exact ⟨x, hy, x, hx, rfl⟩
 ·rintro ⟨x, hx, y, hy, rfl⟩; exact ⟨x, hy, x, hx, rfl⟩
theorem clash_eq (hw : Wk w) {a b : P} (ha : PIn w a) (h : a.start = b.start) : clash w a b = a.an.l.any fun n => b.an.l.any fun m => decide (n = m) := by
 have hl := hw.len ha.r0 ha.r1
 unfold clash
 rw [Bool.eq_iff_iff]
 simp only [List.any_eq_true, Bool.and_eq_true, decide_eq_true_eq]
 constructor
 ·rintro ⟨x, hx, h1, _⟩; exact ⟨x, hx, h1⟩
 ·rintro ⟨x, hx, h1⟩
  refine ⟨x, hx, h1, ?_⟩
  have := hw.stp (ha.an x hx).1 (ha.an x hx).2
  unfold endP
  split <;> omega
theorem conf_symm (hw : Wk w) {a b : P} (ha : PIn w a) (hb : PIn w b) : conf w a b = conf w b a := by
 unfold conf
 by_cases h1 : a.req = b.req
 ·rw [if_pos h1, if_pos (Eq.symm h1)]
 ·rw [if_neg h1, if_neg (show ¬ b.req = a.req from fun e => h1 (Eq.symm e))]
  by_cases h2 : b.start < a.start
  ·rw [if_pos h2, if_neg (by omega)]
  ·rw [if_neg h2]
   by_cases h3 : a.start < b.start
   ·rw [if_pos h3]
   ·rw [if_neg h3, clash_eq hw ha (by omega), clash_eq hw hb (by omega), any_comm2]
end
end Go.Ax.Sx.Sc

namespace Go.Ax.Sx.Sc
open Go.Ax
set_option linter.unusedSimpArgs false
set_option linter.unusedVariables false
set_option maxRecDepth 100000
section
variable {s : Sig} {w : W}
structure PBig (l : List P) : Prop where
 len : (l.length : Int) < 9223372036854775808
 ok : ∀ p ∈ l, p.an.ok 1
 an : ∀ p ∈ l, (p.an.l.length : Int) < 9223372036854775808
end
end Go.Ax.Sx.Sc

namespace Go.Ax.Sx.Sc
open Go.Ax
set_option linter.unusedSimpArgs false
set_option linter.unusedVariables false
set_option maxRecDepth 100000
section
variable {w : W}
theorem cW_slots : (cW w).slots = w.slots := rfl
theorem cW_len : (cW w).rs.l.length = w.rs.l.length := by rw [cW_rs, List.length_map]
theorem cW_rq {i : Int} (h0 : 0 ≤ i) (h1 : i < w.rs.l.length) : (cW w).rq i = cR (w.rq i) := by
 unfold W.rq
 rw [cW_rs, List.getElem?_map]
 obtain ⟨x, hx⟩ := get_some (l := w.rs.l) (k := i.toNat) (by omega)
 rw [hx]; rfl
theorem openB_c {a st n : Int} : openB (cW w) a st n = openB w a st n := by
 unfold openB
 rw [cW_as, List.getElem?_map]
 cases w.as.l[a.toNat]? <;> rfl
end
end Go.Ax.Sx.Sc

namespace Go.Ax.Sx.Sc
open Go.Ax
set_option linter.unusedSimpArgs false
set_option linter.unusedVariables false
set_option maxRecDepth 100000
section
variable {s : Sig} {w : W}
end
end Go.Ax.Sx.Sc

namespace Go.Ax.Sx.Sc
open Go.Ax
set_option linter.unusedSimpArgs false
set_option linter.unusedVariables false
set_option maxRecDepth 100000
theorem appm_nil {s : Sig} {bs : List (List AV)} {tk : List (Option Nat)} {es : Nat} {o : Own} {row : List AV} : appendmOp (s.push ⟨bs, tk⟩) es (.slice .nilS 0 []) (.slice o es [row]) = some (.rsl s.acts.length bs.length 0 es 1 0, s.push ⟨bs ++ [row], tk⟩) := by
 simp [appendmOp, Own.isNil, most, cur_push, nbox_push, newBox_push]
theorem appm_grow {s : Sig} {bs : List (List AV)} {tk : List (Option Nat)} {es n b : Nat} {o : Own} {row r2 : List AV} (hb : bs[b]? = some row) (hl : row.length = n * es) (hn : 0 < n) (hm : n + 1 ≤ 4294967296) :
  appendmOp (s.push ⟨bs, tk⟩) es (.rsl s.acts.length b 0 es n 0) (.slice o es [r2]) = some (.rsl s.acts.length bs.length 0 es (n + 1) 0, s.push ⟨bs.set b [] ++ [row ++ r2], tk ++ [none]⟩) := by
 have hbox : (s.push ⟨bs, tk⟩).box s.acts.length b = some row := by rw [box_push]; exact hb
 have hreg : (s.push ⟨bs, tk⟩).regrow b (row ++ r2) = s.push ⟨bs.set b [] ++ [row ++ r2], tk ++ [none]⟩ := by
  unfold Sig.regrow
  rw [cur_push, onRec_push]
 simp [appendmOp, most, cur_push, nbox_push, hn, hm, hbox, hl, hreg]
theorem len_rsl {d b off es n cap : Nat} : lenOp false (.rsl d b off es n cap) = some (I (n : Int)) := rfl
section
variable {s : Sig} {w : W}
theorem w_openSlots {a : Int} (hw : Wk w) (h0 : 0 ≤ a) (h1 : a < w.as.l.length) : callL AP (.fn 30) [OW w, I a] s = some (I (((List.range w.slots.toNat).countP fun t => !clq w.as.l a.toNat t : Nat) : Int), s) := by
 have hal := hw.v.al
 have hn1 := hw.v.n1
 have hn2 := hw.v.n2
 obtain ⟨i, rfl⟩ : ∃ i : Nat, a = i := ⟨a.toNat, by omega⟩
 obtain ⟨n, hn⟩ : ∃ n : Nat, w.slots = n := ⟨w.slots.toNat, by omega⟩
 have hi1 : idx (.v (.int .i64 (i : Int))) 4 = some i := idx_nat (by omega)
 have key : ∀ (k : Nat) ρ m, k ≤ n → (ρ 0 = OW w ∧ ρ 1 = I i ∧ ρ 5 = I (((List.range k).countP fun t => !clq w.as.l i t : Nat) : Int) ∧ ρ 11 = I n ∧ ρ 12 = I k ∧ m = s.push ⟨[], []⟩) →
   go AP f_w_openSlots (.c (.loop b_w_openSlots_l0) :: k_w_openSlots_0) ⟨ρ, m⟩ = some (I (((List.range n).countP fun t => !clq w.as.l i t : Nat) : Int), s) := by
  refine loop_up n _ _ ?_ ?_
  ·rintro k ρ m hk ⟨g0, g1, g5, g11, g12, rfl⟩ ih
   have hi2 : idx (.v (.int .i64 (k : Int))) 200 = some k := idx_nat (by omega)
   have hat : (wk w.slots (w.as.v rowA) (w.rs.v rowR) (closedF w.as.l))[0 + 3 + i * 200 + k * 1]? = some (B (clq w.as.l i k)) := by
    rw [show 0 + 3 + i * 200 + k * 1 = 3 + (i * 200 + k) by omega, wk_at (by omega), closedF_eq, show (i * 200 + k) / 200 = i by omega, show (i * 200 + k) % 200 = k by omega]
   have hwk := wrap_succ hk (show (n : Int) < _ by omega)
   have hcl : (List.range k).countP (fun t => !clq w.as.l i t) ≤ k := by have := List.countP_le_length (p := fun t => !clq w.as.l i t) (l := List.range k); rw [List.length_range] at this; exact this
   have hnx : (List.range (k + 1)).countP (fun t => !clq w.as.l i t) = (List.range k).countP (fun t => !clq w.as.l i t) + if clq w.as.l i k = true then 0 else 1 := by
    rw [List.range_succ, List.countP_append, List.countP_singleton]
    cases clq w.as.l i k <;> rfl
   simp only [OW] at g0
   cases hc : clq w.as.l i k with
   | true =>
    rw [hc] at hat hnx
    simp (maxSteps := 1000000) only [go_sem, b_w_openSlots_l0, g0, g1, g11, g12, lt_dec hk, hi1, hi2, hat, hwk, Bool.not_true, Nat.reduceEqDiff, reduceCtorEq, Nat.reduceAdd, ↓reduceIte]
    refine ih _ _ ?_
    exact ⟨by simp only [OW]; exact g0, g1, by rw [hnx]; exact g5, g11, rfl, rfl⟩
   | false =>
    rw [hc] at hat hnx
    have w1 : IntKind.i64.wrap ((((List.range k).countP fun t => !clq w.as.l i t : Nat) : Int) + 1) = (((List.range k).countP (fun t => !clq w.as.l i t) + 1 : Nat) : Int) := by rw [wrap_id (by omega) (by omega)]; omega
    simp (maxSteps := 1000000) only [go_sem, b_w_openSlots_l0, g0, g1, g5, g11, g12, lt_dec hk, hi1, hi2, hat, hwk, w1, Bool.not_false, Nat.reduceEqDiff, reduceCtorEq, Nat.reduceAdd, ↓reduceIte]
    refine ih _ _ ?_
    exact ⟨by simp only [OW]; exact g0, g1, by rw [hnx]; rfl, g11, rfl, rfl⟩
  ·rintro ρ m ⟨g0, g1, g5, g11, g12, rfl⟩
   simp (maxSteps := 1000000) only [go_sem, b_w_openSlots_l0, b_w_openSlots_r0, g5, g11, g12, ge_dec, Nat.reduceEqDiff, ↓reduceIte]
 rw [hn, Int.toNat_natCast, Int.toNat_natCast]
 rw [callL_go (show AP 30 = some c_w_openSlots from rfl) rfl]
 simp only [OW] at key ⊢
 simp (maxSteps := 1000000) only [go_sem, b_w_openSlots, nilc_e, wk_0, hn, reduceCtorEq, Nat.reduceAdd, ↓reduceIte]
 rw [hn] at key
 refine key 0 _ _ (Nat.zero_le _) ?_
 exact ⟨rfl, rfl, rfl, rfl, rfl, rfl⟩
end
end Go.Ax.Sx.Sc

namespace Go.Ax.Sx.Sc
open Go.Ax
set_option linter.unusedSimpArgs false
set_option linter.unusedVariables false
set_option maxRecDepth 100000
section
variable {s : Sig} {w : W}
end
end Go.Ax.Sx.Sc

namespace Go.Ax.Sx.Sc
open Go.Ax
set_option linter.unusedSimpArgs false
set_option linter.unusedVariables false
set_option maxRecDepth 100000
section
variable {α : Type}
end
structure Cell (X : List AV → Sig) (d b : Nat) : Prop where
 box : ∀ r, (X r).box d b = some r
 set : ∀ r r', (X r).setBox d b r' = X r'
 ro : ∀ r, (X r).ro ≤ d
 ok : ∀ r, Ok (X r)
section
variable {X : List AV → Sig} {d b : Nat}
theorem Cell.lt (h : Cell X d b) (r : List AV) : d < (X r).acts.length := by
 apply Classical.byContradiction
 intro hn
 have := h.box r
 rw [Sig.box, List.getElem?_eq_none (by omega)] at this; simp at this
theorem Cell.push (h : Cell X d b) (q : Rec) : Cell (fun r => (X r).push q) d b := by
 refine ⟨fun r => box_keep (h.box r) q, fun r r' => ?_, h.ro, fun r => (h.ok r).push q⟩
 rw [← h.set r r']
 have := h.lt r
 simp only [Sig.setBox, Sig.onRec, Sig.push, modify_app this]
theorem Cell.store (h : Cell X d b) {q : Rec} {row : List AV} {off n : Nat} {y : AV} (hc : y.cells.all AV.isCell = true) (hf : ((X row).push q).fitAll d y.cells = some (y.cells, (X row).push q)) (hn : y.cells.length = n) (ho : off + n ≤ row.length) :
  ((X row).push q).store n (.ptr d b off) y = some ((X (setCells row off y.cells)).push q) := by
 have hlt := h.lt row
 have hne : ¬ d = ((X row).push q).cur := by rw [cur_push]; omega
 have hro : ((X row).push q).ro ≤ d := h.ro row
 have hbx : ((X row).push q).box d b = some row := (h.push q).box row
 have hst : ((X row).push q).setBox d b (setCells row off y.cells) = (X (setCells row off y.cells)).push q := (h.push q).set row (setCells row off y.cells)
 simp only [Sig.store, hro, hn, hc, and_self, if_true, hne, if_false, hf, hbx, ho, hst]
end
section
variable {s : Sig} {X : List AV → Sig} {d b : Nat}
end
end Go.Ax.Sx.Sc

namespace Go.Ax.Sx.Sc
open Go.Ax
set_option linter.unusedSimpArgs false
set_option linter.unusedVariables false
set_option maxRecDepth 100000
section
variable {s : Sig} {X : List AV → Sig} {d b : Nat}
end
end Go.Ax.Sx.Sc

namespace Go.Ax.Sx.Sc
open Go.Ax
set_option linter.unusedSimpArgs false
set_option linter.unusedVariables false
set_option maxRecDepth 100000
section
variable {s : Sig}
end
section
variable {X : List AV → Sig} {d b : Nat}
end
end Go.Ax.Sx.Sc

namespace Go.Ax.Sx.Sc
open Go.Ax
set_option linter.unusedSimpArgs false
set_option linter.unusedVariables false
set_option maxRecDepth 100000
section
variable {s : Sig} {w : W}
end
section
variable {w : W}
end
end Go.Ax.Sx.Sc

namespace Go.Ax.Sx.Sc
open Go.Ax
set_option linter.unusedSimpArgs false
set_option linter.unusedVariables false
set_option maxRecDepth 100000
def GL (d es : Nat) (row : List AV) (n : Nat) (x : AV) (bs : List (List AV)) (lo : Nat) : Prop :=
 lo ≤ bs.length ∧ ((n = 0 ∧ row = [] ∧ x = .slice .nilS 0 []) ∨ (0 < n ∧ ∃ b, lo ≤ b ∧ bs[b]? = some row ∧ x = .rsl d b 0 es n 0))
theorem appm_G {s : Sig} {bs : List (List AV)} {tk : List (Option Nat)} {es n lo : Nat} {o : Own} {row r2 : List AV} {x : AV} (h : GL s.acts.length es row n x bs lo) (hl : row.length = n * es) (hm : n + 1 ≤ 4294967296) :
  ∃ x' bs' tk', appendmOp (s.push ⟨bs, tk⟩) es x (.slice o es [r2]) = some (x', s.push ⟨bs', tk'⟩) ∧ GL s.acts.length es (row ++ r2) (n + 1) x' bs' lo ∧ ∀ j, j < lo → bs'[j]? = bs[j]? := by
 obtain ⟨h0, ⟨rfl, rfl, rfl⟩ | ⟨hn, b, hlb, hb, rfl⟩⟩ := h
 ·refine ⟨_, _, _, appm_nil, ⟨by rw [List.length_append]; omega, .inr ⟨by omega, bs.length, h0, ?_, rfl⟩⟩, fun j hj => ?_⟩
  ·rw [List.getElem?_append_right (Nat.le_refl _)]; simp
  ·rw [List.getElem?_append_left (by omega)]
 ·refine ⟨_, _, _, appm_grow hb hl hn hm, ⟨by rw [List.length_append, List.length_set]; omega, .inr ⟨by omega, bs.length, h0, ?_, rfl⟩⟩, fun j hj => ?_⟩
  ·rw [List.getElem?_append_right (by rw [List.length_set]; exact Nat.le_refl _)]; simp
  ·rw [List.getElem?_append_left (by rw [List.length_set]; omega), List.getElem?_set_ne (by omega)]
theorem set_same {bs : List (List AV)} {b : Nat} {r : List AV} (h : bs[b]? = some r) : bs.set b r = bs := by
 obtain ⟨hb, rfl⟩ := List.getElem?_eq_some_iff.1 h
 exact List.set_getElem_self hb
section
variable {s : Sig} {w : W}
end
end Go.Ax.Sx.Sc

namespace Go.Ax.Sx.Sc
open Go.Ax
set_option linter.unusedSimpArgs false
set_option linter.unusedVariables false
set_option maxRecDepth 100000
section
variable {s : Sig} {w : W}
theorem grps_short : ∀ {k : Nat} {l : List Int}, l.length < k → grps k l = []
 | 0, _, h => absurd h (Nat.not_lt_zero _)
 | k + 1, [], _ => rfl
 | k + 1, x :: r, h => by
  simp only [grps]
  rw [grps_short (k := k) (l := r) (by simp at h; omega), grps_short (k := k + 1) (l := r) (by simp at h; omega)]; rfl
def stS (n : Nat) (g : List Int) : Sl Int := ⟨if n = 1 then .full else .any, 1, g⟩
theorem stS_ok {n : Nat} {g : List Int} : (stS n g).ok 1 := by
 refine ⟨.inr rfl, ?_⟩
 show (if n = 1 then Own.full else Own.any) = .any ∨ (if n = 1 then Own.full else Own.any) = .full ∨ _
 split
 ·exact .inr (.inl rfl)
 ·exact .inl rfl
def chV : Nat → List Int → AV
 | 0, _ => .slice .full 1 [[.slice .nilS 0 []]]
 | n + 1, l => accV 1 ((grps (n + 1) l).map fun g => [(stS (n + 1) g).v rowI])
theorem chV_len {n : Nat} {l : List Int} : lenOp false (chV n l) = some (I (grps n l).length) := by
 cases n with
 | zero => simp only [chV, grps]; rfl
 | succ n =>
  show lenOp false (accV 1 ((grps (n + 1) l).map fun g => [(stS (n + 1) g).v rowI])) = _
  rw [len_acc, List.length_map]
theorem chV_ix {n : Nat} {l g : List Int} {k : Nat} (h : (grps n l)[k]? = some g) : ∃ o e, indexAddrOp none 1 (chV n l) (I k) = some (.eptr [.slice o e (g.map rowI)] 0) ∧ (g = [] ∨ e = 1) ∧ (g = [] ↔ n = 0) := by
 have hg := grps_len (List.mem_of_getElem? h)
 cases n with
 | zero =>
  have hk : k = 0 := by
   have := (List.getElem?_eq_some_iff.1 h).1
   simp [grps] at this; exact this
  subst hk
  have : g = [] := List.eq_nil_of_length_eq_zero hg
  subst this
  exact ⟨.nilS, 0, rfl, .inl rfl, by simp⟩
 | succ n =>
  refine ⟨_, 1, ix_acc (by rw [List.getElem?_map, h]; rfl), .inr rfl, ?_⟩
  constructor
  ·intro e; rw [e] at hg; simp at hg
  ·intro e; omega
theorem app_lit {q : Sig} {b : List (List AV)} {tk : List (Option Nat)} {lit ys : List (List AV)} {o : Own} {e : Nat} (he : ys = [] ∨ e = 1) (hl : lit.length + ys.length ≤ 4294967296) :
  ∃ o' tk', (∀ b, appendOp (q.push ⟨b, tk⟩) 1 (.slice .full 1 lit) (.slice o e ys) = some (.slice o' 1 (lit ++ ys), q.push ⟨b, tk'⟩)) ∧ (∀ (g : Nat) (n : Option Nat), tk[g]? = some n → tk'[g]? = some n) ∧
   (AV.slice o' 1 (lit ++ ys)).close = some (.slice (if ys = [] then .full else .any) 1 (lit ++ ys)) := by
 by_cases h0 : ys = []
 ·subst h0
  refine ⟨.full, tk, fun b => by simp [appendOp], fun _ _ h => h, ?_⟩
  simp only [List.append_nil, if_pos]; rfl
 ·have he' : e = 1 := by rcases he with h | h; exact absurd h h0; exact h
  subst he'
  have h1 : ys.isEmpty = false := by simpa using h0
  refine ⟨.tok q.acts.length tk.length, tk ++ [some (lit.length + ys.length)], fun b => ?_, fun g n h => ?_, ?_⟩
  ·simp [appendOp, h1, Own.isNil, most, hl, ntok_push, addTok_push, cur_push]
  ·have := (List.getElem?_eq_some_iff.1 h).1
   rw [List.getElem?_append_left this]; exact h
  ·rw [if_neg h0]; rfl
theorem r_choices : ∀ (n : Nat) {s : Sig} {l : List Int} {o : Own} {e : Nat}, Ok s → (l = [] ∨ e = 1) → l.length ≤ 6 → n ≤ 6 → callL AP (.fn 56) [.slice o e (l.map rowI), I n] s = some (chV n l, s)
 | 0, s, l, o, e, hs, he, hl, _ => by
  rw [callL_go (show AP 56 = some c_r_choices from rfl) rfl]
  simp (maxSteps := 1000000) only [go_sem, b_r_choices, Nat.reduceEqDiff, Int.cast_ofNat_Int, ↓reduceIte]
  rfl
 | n + 1, s, l, o, e, hs, he, hl, hn => by
  have hn0 : decide (((n + 1 : Nat) : Int) = 0) = false := by simp; omega
  have hsub : IntKind.i64.wrap (((n + 1 : Nat) : Int) - 1) = (n : Int) := by rw [wrap_id (by omega) (by omega)]; omega
  have outer : ∀ (i : Int) ρ m, (∃ k : Nat, i = k ∧ ρ 0 = .slice o e (l.map rowI) ∧ ρ 1 = I ((n + 1 : Nat) : Int) ∧ ρ 6 = I k ∧ ∃ D x og tk, k ≤ l.length ∧ grps (n + 1) l = D ++ grps (n + 1) (l.drop k) ∧ Acc s.acts.length 1 (D.map fun g => [(stS (n + 1) g).v rowI]) x og tk ∧ ρ 5 = x ∧ m = s.push ⟨[], tk⟩) →
    go AP f_r_choices (.c (.loop b_r_choices_l0) :: k_r_choices_0) ⟨ρ, m⟩ = some (chV (n + 1) l, s) := by
   refine loop_upto (l.length - (n + 1) : Int) _ _ ?_ ?_
   ·rintro i ρ m hi ⟨k, rfl, h0, h1, h6, D, x, og, tk, hk, hD, hA, h5, rfl⟩ ih
    obtain ⟨a, ha⟩ := get_some (l := l) (k := k) (by omega)
    have hec : e = 1 := by rcases he with h | h; (rw [h] at ha; simp at ha); exact h
    subst hec
    have hix := ix_map (f := rowI) (o := o) (es := 1) ha
    obtain ⟨od, hsl⟩ := slice_drop (f := rowI) (o := o) (es := 1) (k := k + 1) (l := l) (by omega)
    have hle : decide (IntKind.i64.wrap ((k : Int) + ((n + 1 : Nat) : Int)) ≤ (l.length : Int)) = true := by
     rw [wrap_id (by omega) (by omega)]; simp; omega
    have hwk : IntKind.i64.wrap ((k : Int) + 1) = ((k + 1 : Nat) : Int) := by rw [wrap_id (by omega) (by omega)]; omega
    have hrec : ∀ r, callL AP (.fn 56) [.slice od 1 ((l.drop (k + 1)).map rowI), I n] (s.push r) = some (chV n (l.drop (k + 1)), s.push r) := fun r =>
     r_choices n (hs.push r) (.inr rfl) (by rw [List.length_drop]; omega) (by omega)
    have hG : grps (n + 1) (l.drop k) = (grps n (l.drop (k + 1))).map (a :: ·) ++ grps (n + 1) (l.drop (k + 1)) := by
     rw [drop_get ha]; rfl
    have hcnt := grps_count (k := n) (l := l.drop (k + 1))
    have inner : ∀ (j : Nat) ρ m, j ≤ (grps n (l.drop (k + 1))).length → (ρ 0 = .slice o 1 (l.map rowI) ∧ ρ 1 = I ((n + 1 : Nat) : Int) ∧ ρ 6 = I k ∧ ρ 7 = chV n (l.drop (k + 1)) ∧ ρ 8 = I j ∧ ∃ x og tk, Acc s.acts.length 1 ((D ++ ((grps n (l.drop (k + 1))).take j).map (a :: ·)).map fun g => [(stS (n + 1) g).v rowI]) x og tk ∧ ρ 5 = x ∧ m = s.push ⟨[], tk⟩) →
      go AP f_r_choices (.c (.loop b_r_choices_l1) :: k_r_choices_1) ⟨ρ, m⟩ = some (chV (n + 1) l, s) := by
     refine loop_up _ _ _ ?_ ?_
     ·rintro j ρ m hj ⟨g0, g1, g6, g7, g8, x, og, tk, hA, g5, rfl⟩ ih2
      obtain ⟨g, hg⟩ := get_some hj
      obtain ⟨oi, ei, hi2, hei, hgn⟩ := chV_ix hg
      have hcn64 : (grps n (l.drop (k + 1))).length ≤ 64 := Nat.le_trans hcnt (Nat.pow_le_pow_right (show 0 < 2 by omega) (show (l.drop (k + 1)).length ≤ 6 by rw [List.length_drop]; omega))
      have hcn : ((grps n (l.drop (k + 1))).length : Int) < 9223372036854775808 := by omega
      have hsp : D ++ ((grps n (l.drop (k + 1))).take (j + 1)).map (a :: ·) = (D ++ ((grps n (l.drop (k + 1))).take j).map (a :: ·)) ++ [a :: g] := by
       rw [take_get hg, List.map_append, List.append_assoc]; rfl
      have htl : ((grps n (l.drop (k + 1))).take j).length ≤ 64 := by rw [List.length_take]; omega
      have hgl := grps_len (List.mem_of_getElem? hg)
      obtain ⟨o1, tk1, ha1, ha2, ha3⟩ := app_lit (q := s) (b := []) (tk := tk) (lit := [[I a]]) (ys := g.map rowI) (o := oi) (e := ei) (by rcases hei with h | h; exact .inl (by rw [h]; rfl); exact .inr h) (by simp; omega)
      have hst : (AV.slice o1 1 ([[I a]] ++ g.map rowI)).close = some ((stS (n + 1) (a :: g)).v rowI) := by
       rw [ha3]
       have : (if g.map rowI = [] then Own.full else Own.any) = (if n + 1 = 1 then Own.full else Own.any) := by
        by_cases hn0 : n = 0
        ·rw [if_pos (by rw [hgn.2 hn0]; rfl), if_pos (by omega)]
        ·rw [if_neg (by intro h; exact hn0 (hgn.1 (by simpa using h))), if_neg (by omega)]
       rw [this]; rfl
      have hcl : closeAll [.slice o1 1 ([I a] :: g.map rowI)] = some [(stS (n + 1) (a :: g)).v rowI] := by
       simp only [closeAll_cons, closeAll_nil, List.cons_append, List.nil_append] at hst ⊢
       rw [hst]; rfl
      have hA1 := Acc.ext hA ha2
      have hDl : D.length ≤ 64 := by
       have h1 := grps_count (k := n + 1) (l := l)
       have h2 := Nat.pow_le_pow_right (show 0 < 2 by omega) hl
       rw [hD, List.length_append] at h1
       omega
      obtain ⟨x2, og2, tk2, hb1, hb2, hb3, hb4⟩ := hA1.append hs .full (ys := [[(stS (n + 1) (a :: g)).v rowI]]) (by simp) (by rw [List.length_map, List.length_append, List.length_map, List.length_singleton]; omega)
      obtain ⟨oa, ea, ra, rfl⟩ := Acc.sl hA
      obtain ⟨ob, eb, rb, rfl⟩ := Acc.sl hb2
      simp only [List.cons_append, List.nil_append] at ha1
      simp only [Sl.v] at hb1 hcl
      simp (maxSteps := 1000000) only [go_sem, b_r_choices_l1, g0, g5, g6, g7, g8, chV_len, lt_dec hj, hi2, hix, ha1, hcl, hb1, wrap_succ hj hcn, Nat.reduceEqDiff, reduceCtorEq, ↓reduceIte]
      refine ih2 _ _ ?_
      refine ⟨g0, g1, g6, g7, rfl, _, og2, tk2, ?_, rfl, rfl⟩
      rw [hsp, List.map_append]; exact hb2
     ·rintro ρ m ⟨g0, g1, g6, g7, g8, x, og, tk, hA, g5, rfl⟩
      rw [List.take_length] at hA
      simp (maxSteps := 1000000) only [go_sem, b_r_choices_l1, b_r_choices_r1, g6, g7, g8, chV_len, ge_dec, hwk, Nat.reduceEqDiff, ↓reduceIte]
      refine ih _ _ ?_
      refine ⟨k + 1, by omega, g0, g1, rfl, _, x, og, tk, by omega, ?_, hA, g5, rfl⟩
      rw [hD, hG, List.append_assoc]
    simp (maxSteps := 1000000) only [go_sem, b_r_choices_l0, h0, h1, h6, hle, hwk, hsl, hsub, hrec, Nat.reduceEqDiff, reduceCtorEq, ↓reduceIte]
    refine inner 0 _ _ (Nat.zero_le _) ?_
    refine ⟨h0, h1, h6, rfl, rfl, _, og, tk, ?_, h5, rfl⟩
    rw [List.take_zero, List.map_nil, List.append_nil]; exact hA
   ·rintro i ρ m hi ⟨k, rfl, h0, h1, h6, D, x, og, tk, hk, hD, hA, h5, rfl⟩
    have hsh : grps (n + 1) (l.drop k) = [] := grps_short (by rw [List.length_drop]; omega)
    rw [hsh, List.append_nil] at hD
    have hle : decide (IntKind.i64.wrap ((k : Int) + ((n + 1 : Nat) : Int)) ≤ (l.length : Int)) = false := by
     rw [wrap_id (by omega) (by omega)]; simp; omega
    have hlv : ∀ q : Sig, leaveVal q x = some (chV (n + 1) l) := fun q => by
     show _ = some (accV 1 _)
     rw [hD]; exact hA.leave q
    obtain ⟨oa, ea, ra, rfl⟩ := Acc.sl hA
    simp (maxSteps := 1000000) only [go_sem, b_r_choices_l0, b_r_choices_r0, h0, h1, h5, h6, hle, hlv, Nat.reduceEqDiff, reduceCtorEq, ↓reduceIte]
  rw [callL_go (show AP 56 = some c_r_choices from rfl) rfl]
  simp (maxSteps := 1000000) only [go_sem, b_r_choices, hn0, Nat.reduceEqDiff, ↓reduceIte]
  refine outer 0 _ _ ?_
  exact ⟨0, rfl, rfl, rfl, rfl, [], _, none, [], Nat.zero_le _, rfl, Acc.start, rfl, rfl⟩
end
end Go.Ax.Sx.Sc

namespace Go.Ax.Sx.Sc
open Go.Ax
set_option linter.unusedSimpArgs false
set_option linter.unusedVariables false
set_option maxRecDepth 100000
section
variable {s : Sig} {w : W}
theorem grps_filter {f : Int → Bool} : ∀ {k : Nat} {l : List Int}, (grps k l).filter (fun g => g.all f) = grps k (l.filter f)
 | 0, l => by simp [grps]
 | k + 1, [] => rfl
 | k + 1, x :: r => by
  simp only [grps, List.filter_append]
  rw [grps_filter (k := k + 1) (l := r), List.filter_map]
  cases hx : f x with
  | true =>
   rw [List.filter_cons_of_pos hx]
   simp only [grps]
   rw [← grps_filter (k := k) (l := r)]
   congr 2
   apply List.filter_congr
   intro g _
   simp [Function.comp, hx]
  | false =>
   rw [List.filter_cons_of_neg (by simp [hx])]
   rw [List.filter_eq_nil_iff.2 (by intro g _; simp [Function.comp, hx])]
   rfl
theorem chV_ixS {n : Nat} {l g : List Int} {k : Nat} (h : (grps (n + 1) l)[k]? = some g) : indexAddrOp none 1 (chV (n + 1) l) (I k) = some (.eptr [(stS (n + 1) g).v rowI] 0) :=
 ix_acc (by rw [List.getElem?_map, h]; rfl)
def reS (n : Nat) (p : P) : P := ⟨p.req, p.start, stS n p.an.l⟩
theorem possAt_eq {i st : Int} : possAt w i st = ((grps (w.rq i).need.toNat (w.rq i).an.l).filter fun g => g.all fun a => openB w a st (w.rq i).len).map fun g => ⟨i, st, cpI g⟩ := by
 rw [grps_filter]; rfl
theorem r_Possible (hs : Ok s) (hw : Wk w) {i : Int} (h0 : 0 ≤ i) (h1 : i < w.rs.l.length) : callL AP (.fn 39) [w.v, I i] s = some (accV 3 (((poss w i).map (reS (w.rq i).need.toNat)).map rowP), s) := by
 have hq := hw.rq h0 h1
 have hn2 := hw.v.n2
 have hal := hw.v.al
 have hqm := W.rq_mem h0 h1
 have hqo := hw.ok.an _ hqm
 have hql := hw.few.an _ hqm
 have hlo0 := hq.lo0
 have hhin := hq.hin
 have hlohi := hq.lohi
 have hlenhi := hq.lenhi
 have hlen1 := hq.len1
 have hneed1 := hq.need1
 have hneed2 := hq.need2
 have hrs := ix_rs hw h0 h1
 obtain ⟨m, hm⟩ : ∃ m : Nat, (w.rq i).need = ((m + 1 : Nat) : Int) := ⟨((w.rq i).need - 1).toNat, by omega⟩
 have hmn : (w.rq i).need.toNat = m + 1 := by omega
 have hcnt := poss_count hw h0 h1
 have hpe : poss w i = possFrom w i (w.rq i).lo ((w.rq i).hi - (w.rq i).len + 2 - (w.rq i).lo).toNat := rfl
 have hpa : ∀ st, possAt w i st = ((grps (m + 1) (w.rq i).an.l).filter fun g => g.all fun a => openB w a st (w.rq i).len).map fun g => ⟨i, st, cpI g⟩ := fun st => by rw [possAt_eq, hmn]
 have hch : ∀ r, callL AP (.fn 56) [.slice (w.rq i).an.o (w.rq i).an.e ((w.rq i).an.l.map rowI), I (w.rq i).need] (s.push r) = some (chV (m + 1) (w.rq i).an.l, s.push r) := fun r => by
  rw [hm]; exact r_choices (m + 1) (hs.push r) hqo.1 (by omega) (by omega)
 have hanin := hq.anin
 rw [hmn]
 have hwr1 : IntKind.i64.wrap ((w.rq i).hi - (w.rq i).len) = (w.rq i).hi - (w.rq i).len := wrap_id (by omega) (by omega)
 have hwr2 : IntKind.i64.wrap ((w.rq i).hi - (w.rq i).len + 1) = (w.rq i).hi - (w.rq i).len + 1 := wrap_id (by omega) (by omega)
 generalize hqq : w.rq i = q at *
 have hsc : (grps (m + 1) q.an.l).length ≤ 64 := Nat.le_trans grps_count (Nat.pow_le_pow_right (show 0 < 2 by omega) hql)
 have outer : ∀ (st : Int) ρ x, (ρ 1 = I i ∧ ρ 2 = .ptr s.acts.length 0 0 ∧ ρ 5 = .ptr s.acts.length 1 0 ∧ ρ 6 = chV (m + 1) q.an.l ∧ ρ 8 = I st ∧ q.lo ≤ st ∧ st ≤ q.hi - q.len + 2 ∧ ∃ D y og tk bx, D ++ possFrom w i st (q.hi - q.len + 2 - st).toNat = poss w i ∧ Acc s.acts.length 3 ((D.map (reS (m + 1))).map rowP) y og tk ∧ ρ 7 = y ∧ x = s.push ⟨rowW w :: rowR q :: bx, tk⟩) →
   go AP f_r_Possible (.c (.loop b_r_Possible_l0) :: k_r_Possible_0) ⟨ρ, x⟩ = some (accV 3 (((poss w i).map (reS (m + 1))).map rowP), s) := by
  refine loop_upto (q.hi - q.len + 1) _ _ ?_ ?_
  ·rintro st ρ x hst ⟨g1, g2, g5, g6, g8, hst1, hst2, D, y, og, tk, bx, hD, hA, g7, rfl⟩ ih
   have hle : decide (st ≤ q.hi - q.len + 1) = true := by simp; omega
   have hwst : IntKind.i64.wrap (st + 1) = st + 1 := wrap_id (by omega) (by omega)
   have hsucc : (q.hi - q.len + 2 - st).toNat = (q.hi - q.len + 2 - (st + 1)).toNat + 1 := by omega
   rw [hsucc] at hD
   simp only [possFrom] at hD
   have inner : ∀ (j : Nat) ρ x, j ≤ (grps (m + 1) q.an.l).length → (ρ 1 = I i ∧ ρ 2 = .ptr s.acts.length 0 0 ∧ ρ 5 = .ptr s.acts.length 1 0 ∧ ρ 6 = chV (m + 1) q.an.l ∧ ρ 8 = I st ∧ ρ 9 = I j ∧ ∃ y og tk bx, Acc s.acts.length 3 (((D ++ (((grps (m + 1) q.an.l).take j).filter fun g => g.all fun a => openB w a st q.len).map fun g => (⟨i, st, cpI g⟩ : P)).map (reS (m + 1))).map rowP) y og tk ∧ ρ 7 = y ∧ x = s.push ⟨rowW w :: rowR q :: bx, tk⟩) →
     go AP f_r_Possible (.c (.loop b_r_Possible_l1) :: k_r_Possible_1) ⟨ρ, x⟩ = some (accV 3 (((poss w i).map (reS (m + 1))).map rowP), s) := by
    refine loop_up _ _ _ ?_ ?_
    ·rintro j ρ x hj ⟨g1, g2, g5, g6, g8, g9, y, og, tk, bx, hA, g7, rfl⟩ ih2
     obtain ⟨g, hg⟩ := get_some hj
     have hix := chV_ixS hg
     have hgm := grps_mem (List.mem_of_getElem? hg)
     have hgl := grps_len (List.mem_of_getElem? hg)
     have hp0 : PIn w ⟨i, st, stS (m + 1) g⟩ := ⟨h0, h1, by show 0 ≤ st; omega, by show st ≤ 200; omega, fun a ha => hanin a (hgm.subset ha), stS_ok, by show (g.length : Int) < _; omega⟩
     have hsh : ∀ r, callL AP (.fn 57) [w.v, .agg (rowP ⟨i, st, stS (m + 1) g⟩)] (s.push r) = some (B (!(g.all fun a => openB w a st q.len)), s.push r) := fun r => by
      rw [r_shut (hs.push r) hw hp0]
      simp only [hqq]
      rw [List.not_all_eq_any_not]; rfl
     have hcl : closeAll [I i, I st, (stS (m + 1) g).v rowI] = some (rowP ⟨i, st, stS (m + 1) g⟩) := by
      simp only [closeAll_cons, closeAll_nil, close_int, Sl.close (f := rowI) (stS_ok (n := m + 1) (g := g))]; rfl
     have hcn : ((grps (m + 1) q.an.l).length : Int) < 9223372036854775808 := by omega
     have hDl : D.length ≤ 13000 := by rw [← hD, List.length_append] at hcnt; omega
     have htk : ((grps (m + 1) q.an.l).take j).length ≤ 64 := by rw [List.length_take]; omega
     have hfl : (((grps (m + 1) q.an.l).take j).filter fun g => g.all fun a => openB w a st q.len).length ≤ 64 := Nat.le_trans (List.length_filter_le _ _) htk
     simp only [rowP, Sl.v, W.v, rowW] at hcl hsh hix
     cases hall : g.all fun a => openB w a st q.len with
     | false =>
      have hnx : ((grps (m + 1) q.an.l).take (j + 1)).filter (fun g => g.all fun a => openB w a st q.len) = ((grps (m + 1) q.an.l).take j).filter (fun g => g.all fun a => openB w a st q.len) := by
       rw [take_get hg, List.filter_append, List.filter_cons_of_neg (by simp [hall]), List.filter_nil, List.append_nil]
      rw [← hnx] at hA
      obtain ⟨oa, ea, ra, rfl⟩ := Acc.sl hA
      simp (maxSteps := 1000000) only [go_sem, b_r_Possible_l1, g1, g2, g6, g8, g9, hs, chV_len, lt_dec hj, hix, hsh, hall, Bool.not_false, wrap_succ hj hcn, Nat.reduceEqDiff, ↓reduceIte]
      refine ih2 _ _ ?_
      exact ⟨g1, g2, g5, g6, g8, rfl, _, og, tk, _, hA, g7, rfl⟩
     | true =>
      have hnx : (D ++ (((grps (m + 1) q.an.l).take (j + 1)).filter fun g => g.all fun a => openB w a st q.len).map fun g => (⟨i, st, cpI g⟩ : P)) = (D ++ (((grps (m + 1) q.an.l).take j).filter fun g => g.all fun a => openB w a st q.len).map fun g => (⟨i, st, cpI g⟩ : P)) ++ [⟨i, st, cpI g⟩] := by
       rw [take_get hg, List.filter_append, List.filter_cons_of_pos (by simp [hall]), List.filter_nil, List.map_append, List.append_assoc]; rfl
      obtain ⟨x2, og2, tk2, hb1, hb2, hb3, hb4⟩ := hA.append hs .full (ys := [rowP ⟨i, st, stS (m + 1) g⟩]) (by simp) (by rw [List.length_map, List.length_map, List.length_append, List.length_map, List.length_singleton]; omega)
      obtain ⟨oa, ea, ra, rfl⟩ := Acc.sl hA
      obtain ⟨ob, eb, rb, rfl⟩ := Acc.sl hb2
      simp only [rowP, Sl.v] at hb1
      simp (maxSteps := 1000000) only [go_sem, b_r_Possible_l1, g1, g2, g6, g7, g8, g9, hs, chV_len, lt_dec hj, hix, hcl, hsh, hall, hb1, Bool.not_true, wrap_succ hj hcn, Nat.reduceEqDiff, ↓reduceIte]
      refine ih2 _ _ ?_
      refine ⟨g1, g2, g5, g6, g8, rfl, _, og2, tk2, _, ?_, rfl, rfl⟩
      rw [hnx, List.map_append, List.map_append]; exact hb2
    ·rintro ρ x ⟨g1, g2, g5, g6, g8, g9, y, og, tk, bx, hA, g7, rfl⟩
     rw [List.take_length, ← hpa] at hA
     simp (maxSteps := 1000000) only [go_sem, b_r_Possible_l1, b_r_Possible_r1, g6, g8, g9, chV_len, ge_dec, hwst, Nat.reduceEqDiff, ↓reduceIte]
     refine ih _ _ ?_
     exact ⟨g1, g2, g5, g6, rfl, by omega, by omega, _, y, og, tk, bx, by rw [List.append_assoc]; exact hD, hA, g7, rfl⟩
   simp (maxSteps := 1000000) only [go_sem, b_r_Possible_l0, g5, g8, hwr1, hwr2, hle, Nat.reduceEqDiff, Nat.reduceAdd, ↓reduceIte]
   refine inner 0 _ _ (Nat.zero_le _) ?_
   refine ⟨g1, g2, g5, g6, g8, rfl, y, og, tk, bx, ?_, g7, rfl⟩
   rw [List.take_zero, List.filter_nil, List.map_nil, List.append_nil]; exact hA
  ·rintro st ρ x hst ⟨g1, g2, g5, g6, g8, hst1, hst2, D, y, og, tk, bx, hD, hA, g7, rfl⟩
   have hle : decide (st ≤ q.hi - q.len + 1) = false := by simp; omega
   have hz : (q.hi - q.len + 2 - st).toNat = 0 := by omega
   rw [hz] at hD
   simp only [possFrom, List.append_nil] at hD
   rw [hD] at hA
   have hlv := fun q : Sig => hA.leave q
   obtain ⟨oa, ea, ra, rfl⟩ := Acc.sl hA
   simp (maxSteps := 1000000) only [go_sem, b_r_Possible_l0, b_r_Possible_r0, g5, g7, g8, hwr1, hwr2, hle, hlv, Nat.reduceEqDiff, Nat.reduceAdd, ↓reduceIte]
 rw [callL_go (show AP 39 = some c_r_Possible from rfl) rfl]
 simp only [rowR, Sl.v] at hrs hch
 simp (maxSteps := 1000000) only [go_sem, b_r_Possible, hs, hrs, hch, Nat.reduceEqDiff, Nat.reduceAdd, ↓reduceIte]
 refine outer q.lo _ _ ?_
 refine ⟨rfl, rfl, rfl, rfl, rfl, by omega, by omega, [], _, none, [], [], ?_, Acc.start, rfl, rfl⟩
 rw [List.nil_append, hpe]
end
end Go.Ax.Sx.Sc

namespace Go.Ax.Sx.Sc
open Go.Ax
set_option linter.unusedSimpArgs false
set_option linter.unusedVariables false
set_option maxRecDepth 100000
section
variable {s : Sig} {w : W}
end
end Go.Ax.Sx.Sc

namespace Go.Ax.Sx.Sc
open Go.Ax
set_option linter.unusedSimpArgs false
set_option linter.unusedVariables false
set_option maxRecDepth 100000
section
variable {s : Sig} {w : W}
end
end Go.Ax.Sx.Sc

namespace Go.Ax.Sx.Sc
open Go.Ax
set_option linter.unusedSimpArgs false
set_option linter.unusedVariables false
set_option maxRecDepth 100000
section
variable {w : W}
end
end Go.Ax.Sx.Sc

namespace Go.Ax.Sx.Sc
open Go.Ax
set_option linter.unusedSimpArgs false
set_option linter.unusedVariables false
set_option maxRecDepth 100000
section
variable {w : W}
theorem possAt_c {i st : Int} (h0 : 0 ≤ i) (h1 : i < w.rs.l.length) : possAt (cW w) i st = possAt w i st := by
 unfold possAt readyA
 rw [cW_rq h0 h1]
 simp only [openB_c]
 rfl
theorem possFrom_c {i : Int} (h0 : 0 ≤ i) (h1 : i < w.rs.l.length) : ∀ {n : Nat} {st : Int}, possFrom (cW w) i st n = possFrom w i st n
 | 0, _ => rfl
 | n + 1, st => by simp only [possFrom]; rw [possAt_c h0 h1, possFrom_c h0 h1]
theorem poss_c {i : Int} (h0 : 0 ≤ i) (h1 : i < w.rs.l.length) : poss (cW w) i = poss w i := by
 unfold poss
 rw [possFrom_c h0 h1, cW_rq h0 h1]; rfl
end
end Go.Ax.Sx.Sc

namespace Go.Ax.Sx.Sc
open Go.Ax
set_option linter.unusedSimpArgs false
set_option linter.unusedVariables false
set_option maxRecDepth 100000
section
variable {w : W}
end
end Go.Ax.Sx.Sc

namespace Go.Ax.Sx.Sc
open Go.Ax
set_option linter.unusedSimpArgs false
set_option linter.unusedVariables false
set_option maxRecDepth 100000
section
variable {w : W}
end
end Go.Ax.Sx.Sc

namespace Go.Ax.Sx.Sc
open Go.Ax
set_option linter.unusedSimpArgs false
set_option linter.unusedVariables false
set_option maxRecDepth 100000
section
variable {w : W}
theorem mems_iff {m : Nat} {i : Int} (hm : m < 2 ^ 62) : i ∈ mems m ↔ 0 ≤ i ∧ m.testBit i.toNat = true := by
 unfold mems memsUp
 simp only [List.mem_map, List.mem_filter, List.mem_range]
 constructor
 ·rintro ⟨k, ⟨h1, h2⟩, rfl⟩; exact ⟨by omega, by simpa using h2⟩
 ·rintro ⟨h0, h1⟩
  refine ⟨i.toNat, ⟨?_, h1⟩, by omega⟩
  apply Classical.byContradiction
  intro h
  have : m < 2 ^ i.toNat := Nat.lt_of_lt_of_le hm (Nat.pow_le_pow_right (by decide) (by omega))
  rw [Nat.testBit_lt_two_pow this] at h1
  exact absurd h1 (by decide)
theorem mems_asc {m : Nat} : (mems m).Pairwise (· < ·) := by
 unfold mems memsUp
 rw [List.pairwise_map]
 refine (List.Pairwise.filter _ List.pairwise_lt_range).imp fun h => by omega
end
end Go.Ax.Sx.Sc

namespace Go.Ax.Sx.Sc
open Go.Ax
set_option linter.unusedSimpArgs false
set_option linter.unusedVariables false
set_option maxRecDepth 100000
section
variable {w : W}
structure VP (w : W) (R : List P) : Prop where
 mem : ∀ p ∈ R, 0 ≤ p.req ∧ p.req < w.rs.l.length ∧ p ∈ poss w p.req
 asc : R.Pairwise fun a b => a.req < b.req
 nc : R.Pairwise fun a b => conf w a b = false
theorem VP.nil : VP w [] := ⟨fun _ h => absurd h (by simp), List.Pairwise.nil, List.Pairwise.nil⟩
theorem VP.pin (hw : Wk w) {R : List P} (h : VP w R) : ∀ p ∈ R, PIn w p := fun p hp => by
 obtain ⟨h0, h1, h2⟩ := h.mem p hp
 exact (poss_in hw h0 h1 h2).1
theorem VP.pre {a b : List P} (h : VP w (a ++ b)) : VP w a :=
 ⟨fun p hp => h.mem p (List.mem_append_left _ hp), (List.pairwise_append.1 h.asc).1, (List.pairwise_append.1 h.nc).1⟩
theorem own_bit : ∀ {R : List P} {o i : Nat}, (R.foldl (fun o p => o ||| 2 ^ p.req.toNat) o).testBit i = (o.testBit i || R.any fun p => decide (p.req.toNat = i))
 | [], o, i => by simp
 | p :: r, o, i => by
  rw [List.foldl_cons, own_bit (R := r), Nat.testBit_or, Nat.testBit_two_pow, List.any_cons, Bool.or_assoc]
theorem ownM_bit {R : List P} {i : Nat} : (ownM R).testBit i = R.any fun p => decide (p.req.toNat = i) := by
 unfold ownM
 rw [own_bit]; simp
theorem ownM_lt2 {R : List P} {n : Nat} (h : ∀ p ∈ R, p.req.toNat < n) : ownM R < 2 ^ n := by
 apply Nat.lt_pow_two_of_testBit
 intro i hi
 rw [ownM_bit, List.any_eq_false]
 intro p hp
 have := h p hp
 simp; omega
theorem sumV_map {w : W} : ∀ {R : List P}, sumV w (R.map (·.req)) = valP w R
 | [] => rfl
 | p :: r => by simp only [List.map_cons, sumV, valP]; rw [sumV_map]
theorem asc_eq : ∀ {a b : List Int}, a.Pairwise (· < ·) → b.Pairwise (· < ·) → (∀ x, x ∈ a ↔ x ∈ b) → a = b
 | [], [], _, _, _ => rfl
 | [], y :: b, _, _, h => absurd ((h y).2 (by simp)) (by simp)
 | x :: a, [], _, _, h => absurd ((h x).1 (by simp)) (by simp)
 | x :: a, y :: b, ha, hb, h => by
  have h1 := List.pairwise_cons.1 ha
  have h2 := List.pairwise_cons.1 hb
  have hxy : x = y := by
   rcases List.mem_cons.1 ((h x).1 (by simp)) with e | e
   ·exact e
   ·rcases List.mem_cons.1 ((h y).2 (by simp)) with e2 | e2
    ·exact Eq.symm e2
    ·have := h1.1 y e2; have := h2.1 x e; omega
  subst hxy
  congr 1
  refine asc_eq h1.2 h2.2 fun z => ?_
  constructor
  ·intro hz
   rcases List.mem_cons.1 ((h z).1 (List.mem_cons_of_mem _ hz)) with e | e
   ·subst e; have := h1.1 z hz; omega
   ·exact e
  ·intro hz
   rcases List.mem_cons.1 ((h z).2 (List.mem_cons_of_mem _ hz)) with e | e
   ·subst e; have := h2.1 z hz; omega
   ·exact e
theorem VP.own_lt {R : List P} (h : VP w R) : ownM R < 2 ^ w.rs.l.length := ownM_lt2 fun p hp => by have := (h.mem p hp).1; have := (h.mem p hp).2.1; omega
theorem VP.reqs (hw : Wk w) {R : List P} (h : VP w R) : mems (ownM R) = R.map (·.req) := by
 have hrl := hw.v.rl
 have hlt : ownM R < 2 ^ 62 := Nat.lt_of_lt_of_le h.own_lt (Nat.pow_le_pow_right (by decide) (by omega))
 refine asc_eq mems_asc (by rw [List.pairwise_map]; exact h.asc) fun x => ?_
 rw [mems_iff hlt, ownM_bit, List.any_eq_true]
 simp only [List.mem_map, decide_eq_true_eq]
 constructor
 ·rintro ⟨h0, p, hp, he⟩
  have := (h.mem p hp).1
  exact ⟨p, hp, by omega⟩
 ·rintro ⟨p, hp, rfl⟩
  exact ⟨(h.mem p hp).1, p, hp, rfl⟩
theorem VP.val (hw : Wk w) {R : List P} (h : VP w R) : worthB w (ownM R) = valP w R := by
 unfold worthB
 rw [h.reqs hw, sumV_map]
end
end Go.Ax.Sx.Sc

namespace Go.Ax.Sx.Sc
open Go.Ax
set_option linter.unusedSimpArgs false
set_option linter.unusedVariables false
set_option maxRecDepth 100000
section
variable {w : W}
theorem VP.sep (hw : Wk w) {R : List P} (h : VP w R) {p q : P} (hp : p ∈ R) (hq : q ∈ R) (hne : p.req ≠ q.req) : conf w p q = false := by
 obtain ⟨i, hi⟩ := List.getElem?_of_mem hp
 obtain ⟨j, hj⟩ := List.getElem?_of_mem hq
 obtain ⟨hil, hie⟩ := List.getElem?_eq_some_iff.1 hi
 obtain ⟨hjl, hje⟩ := List.getElem?_eq_some_iff.1 hj
 have hpw := List.pairwise_iff_getElem.1 h.nc
 rcases Nat.lt_trichotomy i j with hij | hij | hij
 ·have := hpw i j hil hjl hij
  rwa [hie, hje] at this
 ·subst hij
  rw [hi] at hj; injection hj with hj
  exact absurd (by rw [hj]) hne
 ·have := hpw j i hjl hil hij
  rw [hie, hje] at this
  rw [conf_symm hw (h.pin hw p hp) (h.pin hw q hq)]; exact this
end
end Go.Ax.Sx.Sc

namespace Go.Ax.Sx.Sc
open Go.Ax
set_option linter.unusedSimpArgs false
set_option linter.unusedVariables false
set_option maxRecDepth 100000
section
variable {w : W}
end
end Go.Ax.Sx.Sc

namespace Go.Ax.Sx.Sc
open Go.Ax
set_option linter.unusedSimpArgs false
set_option linter.unusedVariables false
set_option maxRecDepth 100000
section
variable {w : W}
end
end Go.Ax.Sx.Sc

namespace Go.Ax.Sx.Sc
open Go.Ax
set_option linter.unusedSimpArgs false
set_option linter.unusedVariables false
set_option maxRecDepth 100000
section
variable {w : W}
end
end Go.Ax.Sx.Sc

namespace Go.Ax.Sx.Sc
open Go.Ax
set_option linter.unusedSimpArgs false
set_option linter.unusedVariables false
set_option maxRecDepth 100000
section
variable {s : Sig} {w : W}
end
end Go.Ax.Sx.Sc

namespace Go.Ax.Sx.Sc
open Go.Ax
set_option linter.unusedSimpArgs false
set_option linter.unusedVariables false
set_option maxRecDepth 100000
section
variable {s : Sig} {w : W}
end
end Go.Ax.Sx.Sc

namespace Go.Ax.Sx.Sc
open Go.Ax
set_option linter.unusedSimpArgs false
set_option linter.unusedVariables false
set_option maxRecDepth 100000
section
variable {s : Sig} {w : W}
end
end Go.Ax.Sx.Sc

namespace Go.Ax.Sx.Sc
open Go.Ax
set_option linter.unusedSimpArgs false
set_option linter.unusedVariables false
set_option maxRecDepth 100000
section
variable {s : Sig} {w : W}
end
end Go.Ax.Sx.Sc

namespace Go.Ax.Sx.Sc
open Go.Ax
set_option linter.unusedSimpArgs false
set_option linter.unusedVariables false
set_option maxRecDepth 100000
section
variable {s : Sig} {w : W}
def AG (d es : Nat) (xs : List (List AV)) (x : AV) (tk : List (Option Nat)) : Prop :=
 x = .slice .full es xs ∨ ∃ g, x = .slice (.tok d g) es xs ∧ tk[g]? = some (some xs.length)
theorem AG.sl {d es : Nat} {xs : List (List AV)} {x : AV} {tk : List (Option Nat)} (h : AG d es xs x tk) : ∃ o, x = .slice o es xs := by
 rcases h with h | ⟨g, h, _⟩
 ·exact ⟨_, h⟩
 ·exact ⟨_, h⟩
theorem AG.ext {d es : Nat} {xs : List (List AV)} {x : AV} {tk tk' : List (Option Nat)} (h : AG d es xs x tk) (hx : ∀ (g : Nat) (n : Option Nat), tk[g]? = some n → tk'[g]? = some n) : AG d es xs x tk' := by
 rcases h with h | ⟨g, h, hg⟩
 ·exact .inl h
 ·exact .inr ⟨g, h, hx _ _ hg⟩
theorem AG.append {es : Nat} {xs : List (List AV)} {x : AV} {tk : List (Option Nat)} (h : AG s.acts.length es xs x tk) (hs : Ok s) (o : Own) {ys : List (List AV)} (hy : ys ≠ []) (hl : xs.length + ys.length ≤ 4294967296) :
  ∃ x' tk', (∀ bx, appendOp (s.push ⟨bx, tk⟩) es x (.slice o es ys) = some (x', s.push ⟨bx, tk'⟩)) ∧ AG s.acts.length es (xs ++ ys) x' tk' := by
 have hy' : ys.isEmpty = false := by cases ys <;> simp_all
 rcases h with rfl | ⟨g, rfl, hg⟩
 ·refine ⟨.slice (.tok s.acts.length tk.length) es (xs ++ ys), tk ++ [some (xs.length + ys.length)], fun bx => ?_, .inr ⟨tk.length, rfl, by simp⟩⟩
  simp [appendOp, hy', Own.isNil, most, hl, ntok_push, addTok_push, cur_push]
 ·refine ⟨.slice (.tok s.acts.length g) es (xs ++ ys), tk.set g (some (xs.length + ys.length)), fun bx => ?_, .inr ⟨g, rfl, ?_⟩⟩
  ·simp [appendOp, hy', most, hl, tok_push, hg, ro_push, hs.ro, setTok_push]
  ·rw [List.getElem?_set_self (List.getElem?_eq_some_iff.1 hg).1]; simp
end
end Go.Ax.Sx.Sc

namespace Go.Ax.Sx.Sc
open Go.Ax
set_option linter.unusedSimpArgs false
set_option linter.unusedVariables false
set_option maxRecDepth 100000
section
variable {s : Sig} {w : W}
theorem own_full {Q : Sig} {R : Rec} {es : Nat} {xs : List (List AV)} : ownResult (Q.push R) (.slice .full es xs) = some (.slice .full es xs, Q) := by
 show some (_, (Q.push R).pop) = _
 rw [pop_push]
theorem AG.own {Q : Sig} {bx : List (List AV)} {tk : List (Option Nat)} {B : List (List AV)} {es : Nat} {xs : List (List AV)} {x : AV} {tks : List (Option Nat)} (hQ : Ok Q) (h : AG (Q.acts.length + 1) es xs x tks) :
  ∃ x' tk', ownResult ((Q.push ⟨bx, tk⟩).push ⟨B, tks⟩) x = some (x', Q.push ⟨bx, tk'⟩) ∧ AG Q.acts.length es xs x' tk' ∧ (∀ (g : Nat) (n : Option Nat), tk[g]? = some n → tk'[g]? = some n) := by
 rcases h with rfl | ⟨g, rfl, hg⟩
 ·exact ⟨_, _, own_full, .inl rfl, fun _ _ h => h⟩
 ·refine ⟨_, _, own_push hQ (R := ⟨bx, tk⟩) (r0 := ⟨B, tks⟩) hg, .inr ⟨tk.length, rfl, by simp⟩, fun g n h => ?_⟩
  rw [List.getElem?_append_left (List.getElem?_eq_some_iff.1 h).1]; exact h
end
end Go.Ax.Sx.Sc

namespace Go.Ax.Sx.Sc
open Go.Ax
set_option linter.unusedSimpArgs false
set_option linter.unusedVariables false
set_option maxRecDepth 100000
section
variable {s : Sig} {w : W}
theorem Wk.c (hw : Wk w) (h0 : (weekE w).2.2 = 0) : Wk (cW w) := ⟨cW_Ok, cW_Few hw.few, weekE_ok (by rw [weekE_c]; exact h0)⟩
end
end Go.Ax.Sx.Sc

namespace Go.Ax.Sx.Sc
open Go.Ax
set_option linter.unusedSimpArgs false
set_option linter.unusedVariables false
set_option maxRecDepth 100000
section
variable {s : Sig} {w : W}
end
end Go.Ax.Sx.Sc

namespace Go.Ax.Sx.Sc
open Go.Ax
set_option linter.unusedSimpArgs false
set_option linter.unusedVariables false
set_option maxRecDepth 100000
section
variable {s : Sig} {w : W}
end
end Go.Ax.Sx.Sc

namespace Go.Ax.Sx.Sc
open Go.Ax
set_option linter.unusedSimpArgs false
set_option linter.unusedVariables false
set_option maxRecDepth 100000
section
variable {s : Sig} {w : W}
theorem Ends.find {α ι : Type} {I : List α → ι → Prop} {st : α → Bool} {O : List α → α → ι → Prop} {i : ι} : ∀ {xs done : List α}, Ends I (fun _ x => st x) O done xs false i → ∃ x dn, xs.find? st = some x ∧ O dn x i
 | [], _, h => absurd h.1 (by decide)
 | x :: r, done, h => by
  simp only [Ends] at h
  cases hs : st x with
  | true => rw [if_pos hs] at h; exact ⟨x, done, by rw [List.find?_cons, hs], h.2⟩
  | false =>
   rw [if_neg (by rw [hs]; decide)] at h
   rw [List.find?_cons, hs]
   exact Ends.find h
end
end Go.Ax.Sx.Sc

namespace Go.Ax.Sx.Sc
open Go.Ax
set_option linter.unusedSimpArgs false
set_option linter.unusedVariables false
set_option maxRecDepth 100000
section
variable {s : Sig} {w : W}
theorem b_Ints {a b : List Int} {o1 o2 : Own} {e1 e2 : Nat} (h1 : a = [] ∨ e1 = 1) (h2 : b = [] ∨ e2 = 1) (l1 : a.length ≤ 100000) :
  callL AP (.fn 36) [.slice o1 e1 (a.map rowI), .slice o2 e2 (b.map rowI)] s = some (B (decide (a = b)), s) := by
 by_cases hl : a.length = b.length
 ·have key : ∀ (k : Nat) ρ m, k ≤ a.length → (ρ 0 = .slice o1 e1 (a.map rowI) ∧ ρ 1 = .slice o2 e2 (b.map rowI) ∧ ρ 5 = I k ∧ m = s.push ⟨[], []⟩) → go AP f_b_Ints (.c (.loop b_b_Ints_l0) :: k_b_Ints_0) ⟨ρ, m⟩ = some (B (decide (a.drop k = b.drop k)), s) := by
   refine loop_up a.length _ _ ?_ ?_
   ·rintro k ρ m hk ⟨g0, g1, g5, rfl⟩ ih
    obtain ⟨x, hx⟩ := get_some hk
    obtain ⟨y, hy⟩ := get_some (l := b) (k := k) (by omega)
    have he1 : e1 = 1 := by rcases h1 with h | h; (rw [h] at hx; simp at hx); exact h
    have he2 : e2 = 1 := by rcases h2 with h | h; (rw [h] at hy; simp at hy); exact h
    subst he1; subst he2
    have r1 := ix_map (o := o1) (es := 1) (f := rowI) hx
    have r2 := ix_map (o := o2) (es := 1) (f := rowI) hy
    rw [drop_get hx, drop_get hy]
    by_cases hxy : x = y
    ·have hd : decide (x ≠ y) = false := by simp [hxy]
     simp (maxSteps := 1000000) only [go_sem, b_b_Ints_l0, g0, g1, g5, lt_dec hk, r1, r2, hd, wrap_succ hk (show (a.length : Int) < _ by omega), Nat.reduceEqDiff, reduceCtorEq, ↓reduceIte]
     refine (ih _ _ ?_).trans ?_
     ·exact ⟨g0, g1, rfl, rfl⟩
     ·subst hxy; simp
    ·have hd : decide (x ≠ y) = true := by simp [hxy]
     simp (maxSteps := 1000000) only [go_sem, b_b_Ints_l0, g0, g1, g5, lt_dec hk, r1, r2, hd, Nat.reduceEqDiff, reduceCtorEq, ↓reduceIte]
     simp [hxy]
   ·rintro ρ m ⟨g0, g1, g5, rfl⟩
    simp (maxSteps := 1000000) only [go_sem, b_b_Ints_l0, b_b_Ints_r0, g0, g5, ge_dec, Nat.reduceEqDiff, reduceCtorEq, ↓reduceIte]
    rw [List.drop_length, List.drop_eq_nil_of_le (by omega)]; rfl
  have hd : decide ((a.length : Int) ≠ (b.length : Int)) = false := by simp; omega
  rw [callL_go (show AP 36 = some c_b_Ints from rfl) rfl]
  simp (maxSteps := 1000000) only [go_sem, b_b_Ints, hd, Nat.reduceEqDiff, reduceCtorEq, ↓reduceIte]
  refine key 0 _ _ (Nat.zero_le _) ?_
  exact ⟨rfl, rfl, rfl, rfl⟩
 ·have hd : decide ((a.length : Int) ≠ (b.length : Int)) = true := by simp; omega
  have hab : decide (a = b) = false := by simp; intro e; exact hl (by rw [e])
  rw [hab]
  rw [callL_go (show AP 36 = some c_b_Ints from rfl) rfl]
  simp (maxSteps := 1000000) only [go_sem, b_b_Ints, hd, Nat.reduceEqDiff, reduceCtorEq, ↓reduceIte]
end
end Go.Ax.Sx.Sc

namespace Go.Ax.Sx.Sc
open Go.Ax
set_option linter.unusedSimpArgs false
set_option linter.unusedVariables false
set_option maxRecDepth 100000
abbrev rowX (x : Sl Int) : List AV := [x.v rowI]
attribute [go_sem] rowX
structure PrBig (p : List (Sl Int)) : Prop where
 len : (p.length : Int) < 9223372036854775808
 ok : ∀ x ∈ p, x.ok 1
 big : ∀ x ∈ p, (x.l.length : Int) < 9223372036854775808
structure PrOk (p : List (Sl Int)) : Prop where
 len : p.length ≤ 6
 ok : ∀ x ∈ p, x.ok 1
 big : ∀ x ∈ p, x.l.length ≤ 202
def fewP (p : List (Sl Int)) : Bool := decide (p.length ≤ 6) && p.all fun x => decide (x.l.length ≤ 202)
theorem fewP_ok {p : List (Sl Int)} (hb : PrBig p) (h : fewP p = true) : PrOk p := by
 simp only [fewP, Bool.and_eq_true, decide_eq_true_eq, List.all_eq_true] at h
 exact ⟨h.1, hb.ok, h.2⟩
section
variable {s : Sig} {w : W}
theorem l_few {p : List (Sl Int)} {o : Own} {e : Nat} (hb : PrBig p) (he : p = [] ∨ e = 1) : callL AP (.fn 6) [.slice o e (p.map rowX)] s = some (B (fewP p), s) := by
 have h6 : decide ((6 : Int) < (p.length : Int)) = !decide (p.length ≤ 6) := dec_not (by omega)
 have key : ∀ (k : Nat) ρ m, k ≤ p.length → (ρ 0 = .slice o e (p.map rowX) ∧ ρ 3 = I k ∧ m = s.push ⟨[], []⟩) →
   go AP f_l_few (.c (.loop b_l_few_l0) :: k_l_few_0) ⟨ρ, m⟩ = some (B ((p.drop k).all fun x => decide (x.l.length ≤ 202)), s) := by
  refine loop_up p.length _ _ ?_ ?_
  ·rintro k ρ m hk ⟨h0, h3, rfl⟩ ih
   obtain ⟨x, hx⟩ := get_some hk
   have hec : e = 1 := by rcases he with h | h; (rw [h] at hx; simp at hx); exact h
   subst hec
   have hix := ix_map (f := rowX) (o := o) (es := 1) hx
   have hpb := hb.big x (List.mem_of_getElem? hx)
   have h6 : decide ((202 : Int) < (x.l.length : Int)) = !decide (x.l.length ≤ 202) := dec_not (by omega)
   simp only [rowX, Sl.v] at hix
   rw [all_get hx]
   cases hd : decide (x.l.length ≤ 202) with
   | false => simp (maxSteps := 1000000) only [go_sem, b_l_few_l0, h0, h3, lt_dec hk, hix, h6, hd, Bool.not_false, Bool.false_and, Nat.reduceEqDiff, reduceCtorEq, ↓reduceIte]
   | true =>
    simp (maxSteps := 1000000) only [go_sem, b_l_few_l0, h0, h3, lt_dec hk, hix, h6, hd, Bool.not_true, wrap_succ hk hb.len, Nat.reduceEqDiff, reduceCtorEq, ↓reduceIte]
    exact ih _ _ ⟨h0, rfl, rfl⟩
  ·rintro ρ m ⟨h0, h3, rfl⟩
   simp (maxSteps := 1000000) only [go_sem, b_l_few_l0, b_l_few_r0, h0, h3, ge_dec, Nat.reduceEqDiff, reduceCtorEq, ↓reduceIte]
   rw [List.drop_length]; rfl
 rw [callL_go (show AP 6 = some c_l_few from rfl) rfl]
 unfold fewP
 cases hd : decide (p.length ≤ 6) with
 | false => simp (maxSteps := 1000000) only [go_sem, b_l_few, h6, hd, Bool.not_false, Bool.false_and, reduceCtorEq, ↓reduceIte]
 | true =>
  simp (maxSteps := 1000000) only [go_sem, b_l_few, h6, hd, Bool.not_true, reduceCtorEq, ↓reduceIte]
  exact key 0 _ _ (Nat.zero_le _) ⟨rfl, rfl, rfl⟩
def cX (x : Sl Int) : Sl Int := cpI x.l
theorem cX_ok {x : Sl Int} : (cX x).ok 1 := cpI_ok
theorem b_CopyLists {p : List (Sl Int)} {o : Own} {e : Nat} (hs : Ok s) (hp : PrOk p) (he : p = [] ∨ e = 1) : callL AP (.fn 9) [.slice o e (p.map rowX)] s = some (accV 1 ((p.map cX).map rowX), s) := by
 have hlen := hp.len
 have key : ∀ (k : Nat) ρ m, k ≤ p.length → (ρ 0 = .slice o e (p.map rowX) ∧ ρ 4 = I k ∧ ∃ x og tk, Acc s.acts.length 1 (((p.take k).map cX).map rowX) x og tk ∧ ρ 3 = x ∧ m = s.push ⟨[], tk⟩) →
   go AP f_b_CopyLists (.c (.loop b_b_CopyLists_l0) :: k_b_CopyLists_0) ⟨ρ, m⟩ = some (accV 1 ((p.map cX).map rowX), s) := by
  refine loop_up p.length _ _ ?_ ?_
  ·rintro k ρ m hk ⟨h0, h4, x, og, tk, hA, h3, rfl⟩ ih
   obtain ⟨y, hy⟩ := get_some hk
   have hec : e = 1 := by rcases he with h | h; (rw [h] at hy; simp at hy); exact h
   subst hec
   have hym := List.mem_of_getElem? hy
   have hix := ix_map (f := rowX) (o := o) (es := 1) hy
   have m2 := hp.big y hym
   obtain ⟨oo, tk1, hc1, hc2, hc3, _, _⟩ := b_CopyInts (Q := s) (l := y.l) (o := y.o) (e := y.e) (tk := tk) hs (hp.ok y hym).1 (by omega)
   have hA1 := Acc.ext hA hc3
   have hll : (p.take k).length ≤ 6 := by rw [List.length_take]; omega
   obtain ⟨x', og', tk2, ha1, ha2, _⟩ := hA1.append hs .full (ys := [rowX (cX y)]) (by simp) (by simp; omega)
   obtain ⟨oa', ea', ra', rfl⟩ := Acc.sl hA
   obtain ⟨os', es', rs', rfl⟩ := Acc.sl ha2
   have hcl : closeAll [.slice oo 1 (y.l.map rowI)] = some (rowX (cX y)) := by
    simp only [closeAll_cons, closeAll_nil, hc2]; rfl
   simp only [rowX, Sl.v] at ha1 hcl hix
   simp (maxSteps := 1000000) only [go_sem, b_b_CopyLists_l0, h0, h3, h4, lt_dec hk, hix, hc1, hcl, ha1, wrap_succ hk (show (p.length : Int) < _ by omega), Nat.reduceEqDiff, reduceCtorEq, ↓reduceIte]
   refine ih _ _ ?_
   refine ⟨h0, rfl, _, og', tk2, ?_, rfl, rfl⟩
   rw [take_get hy, List.map_append, List.map_append]; exact ha2
  ·rintro ρ m ⟨h0, h4, x, og, tk, hA, h3, rfl⟩
   rw [List.take_length] at hA
   have l1 := fun q : Sig => hA.leave q
   obtain ⟨oa', ea', ra', rfl⟩ := Acc.sl hA
   simp (maxSteps := 1000000) only [go_sem, b_b_CopyLists_l0, b_b_CopyLists_r0, h0, h3, h4, ge_dec, l1, Nat.reduceEqDiff, reduceCtorEq, ↓reduceIte]
 rw [callL_go (show AP 9 = some c_b_CopyLists from rfl) rfl]
 simp (maxSteps := 1000000) only [go_sem, b_b_CopyLists]
 refine key 0 _ _ (Nat.zero_le _) ?_
 exact ⟨rfl, rfl, _, none, [], Acc.start, rfl, rfl⟩
def sameX (a b : List (Sl Int)) : Bool := decide (a.map Sl.l = b.map Sl.l)
theorem b_Lists {a b : List (Sl Int)} {o1 o2 : Own} {e1 e2 : Nat} (h1 : a = [] ∨ e1 = 1) (h2 : b = [] ∨ e2 = 1) (ha : ∀ x ∈ a, x.ok 1) (hb : ∀ x ∈ b, x.ok 1) (l1 : a.length ≤ 100000) (l2 : ∀ x ∈ a, x.l.length ≤ 100000) :
  callL AP (.fn 13) [.slice o1 e1 (a.map rowX), .slice o2 e2 (b.map rowX)] s = some (B (sameX a b), s) := by
 by_cases hl : a.length = b.length
 ·have key : ∀ (k : Nat) ρ m, k ≤ a.length → (ρ 0 = .slice o1 e1 (a.map rowX) ∧ ρ 1 = .slice o2 e2 (b.map rowX) ∧ ρ 5 = I k ∧ m = s.push ⟨[], []⟩) → go AP f_b_Lists (.c (.loop b_b_Lists_l0) :: k_b_Lists_0) ⟨ρ, m⟩ = some (B (sameX (a.drop k) (b.drop k)), s) := by
   refine loop_up a.length _ _ ?_ ?_
   ·rintro k ρ m hk ⟨g0, g1, g5, rfl⟩ ih
    obtain ⟨x, hx⟩ := get_some hk
    obtain ⟨y, hy⟩ := get_some (l := b) (k := k) (by omega)
    have he1 : e1 = 1 := by rcases h1 with h | h; (rw [h] at hx; simp at hx); exact h
    have he2 : e2 = 1 := by rcases h2 with h | h; (rw [h] at hy; simp at hy); exact h
    subst he1; subst he2
    have r1 := ix_map (o := o1) (es := 1) (f := rowX) hx
    have r2 := ix_map (o := o2) (es := 1) (f := rowX) hy
    have hbi : ∀ q, callL AP (.fn 36) [.slice x.o x.e (x.l.map rowI), .slice y.o y.e (y.l.map rowI)] (s.push q) = some (B (decide (x.l = y.l)), s.push q) := fun q => b_Ints (ha x (List.mem_of_getElem? hx)).1 (hb y (List.mem_of_getElem? hy)).1 (l2 x (List.mem_of_getElem? hx))
    simp only [rowX, Sl.v] at r1 r2
    rw [drop_get hx, drop_get hy]
    by_cases hxy : x.l = y.l
    ·have hd : decide (x.l = y.l) = true := by simp [hxy]
     rw [hd] at hbi
     simp (maxSteps := 1000000) only [go_sem, b_b_Lists_l0, g0, g1, g5, lt_dec hk, r1, r2, hbi, wrap_succ hk (show (a.length : Int) < _ by omega), Bool.not_true, Nat.reduceEqDiff, reduceCtorEq, ↓reduceIte]
     refine (ih _ _ ?_).trans ?_
     ·exact ⟨g0, g1, rfl, rfl⟩
     ·simp [sameX, hxy]
    ·have hd : decide (x.l = y.l) = false := by simp [hxy]
     rw [hd] at hbi
     simp (maxSteps := 1000000) only [go_sem, b_b_Lists_l0, g0, g1, g5, lt_dec hk, r1, r2, hbi, Bool.not_false, Nat.reduceEqDiff, reduceCtorEq, ↓reduceIte]
     simp [sameX, hxy]
   ·rintro ρ m ⟨g0, g1, g5, rfl⟩
    simp (maxSteps := 1000000) only [go_sem, b_b_Lists_l0, b_b_Lists_r0, g0, g5, ge_dec, Nat.reduceEqDiff, reduceCtorEq, ↓reduceIte]
    rw [List.drop_length, List.drop_eq_nil_of_le (by omega)]; rfl
  have hd : decide ((a.length : Int) ≠ (b.length : Int)) = false := by simp; omega
  rw [callL_go (show AP 13 = some c_b_Lists from rfl) rfl]
  simp (maxSteps := 1000000) only [go_sem, b_b_Lists, hd, Nat.reduceEqDiff, reduceCtorEq, ↓reduceIte]
  refine key 0 _ _ (Nat.zero_le _) ?_
  exact ⟨rfl, rfl, rfl, rfl⟩
 ·have hd : decide ((a.length : Int) ≠ (b.length : Int)) = true := by simp; omega
  have hab : sameX a b = false := by
   simp only [sameX, decide_eq_false_iff_not]; intro e
   have := congrArg List.length e
   simp at this; exact hl this
  rw [hab]
  rw [callL_go (show AP 13 = some c_b_Lists from rfl) rfl]
  simp (maxSteps := 1000000) only [go_sem, b_b_Lists, hd, Nat.reduceEqDiff, reduceCtorEq, ↓reduceIte]
def prcE (w : W) (p : List (Sl Int)) : Int :=
 if p.length = w.as.l.length ∧ (∀ x ∈ p, (x.l.length : Int) = w.slots) then
  if p.all (fun x => x.l.all fun n => wi n 0 100000) then 0 else 2
 else 10
theorem prcE_shape {p : List (Sl Int)} (h : ¬ (p.length = w.as.l.length ∧ (∀ x ∈ p, (x.l.length : Int) = w.slots))) : prcE w p = 10 := by
 unfold prcE; rw [if_neg h]
theorem r_PricesErr {p : List (Sl Int)} {o : Own} {e : Nat} (hs : Ok s) (hw : Wk w) (hp : PrOk p) (he : p = [] ∨ e = 1) : callL AP (.fn 15) [w.v, .slice o e (p.map rowX)] s = some (I (prcE w p), s) := by
 have hlen := hp.len
 have hal := hw.v.al
 have hn1 := hw.v.n1
 have hn2 := hw.v.n2
 have inner : ∀ (x : Sl Int) (i : Nat) (R : Option (AV × Sig)), p[i]? = some x → e = 1 →
   (∀ ρ m, (ρ 1 = .slice o e (p.map rowX) ∧ ρ 2 = .ptr s.acts.length 0 0 ∧ ρ 6 = I ((i + 1 : Nat) : Int) ∧ m = s.push ⟨[rowW w], []⟩) → go AP f_r_PricesErr (.c (.loop b_r_PricesErr_l0) :: k_r_PricesErr_0) ⟨ρ, m⟩ = R) →
   ∀ (k : Nat) ρ m, k ≤ x.l.length → (ρ 1 = .slice o e (p.map rowX) ∧ ρ 2 = .ptr s.acts.length 0 0 ∧ ρ 6 = I i ∧ ρ 7 = I k ∧ m = s.push ⟨[rowW w], []⟩) →
   go AP f_r_PricesErr (.c (.loop b_r_PricesErr_l1) :: k_r_PricesErr_1) ⟨ρ, m⟩ = if (x.l.drop k).all (fun n => wi n 0 100000) = true then R else some (I 2, s) := by
  intro x i R hx he1 hR
  subst he1
  have hxm := List.mem_of_getElem? hx
  have hil : i < p.length := (List.getElem?_eq_some_iff.1 hx).1
  have hxo := hp.ok x hxm
  have hxb := hp.big x hxm
  have hix := ix_map (f := rowX) (o := o) (es := 1) hx
  simp only [rowX, Sl.v] at hix
  refine loop_up x.l.length _ _ ?_ ?_
  ·rintro k ρ m hk ⟨h1, h2, h6, h7, rfl⟩ ih
   obtain ⟨n, hn⟩ := get_some hk
   have hec : x.e = 1 := by rcases hxo.1 with h | h; (rw [h] at hn; simp at hn); exact h
   have hix2 := ix_map (f := rowI) (o := x.o) (es := 1) hn
   rw [hec] at hix
   have hwi : ∀ q, callL AP (.fn 37) [I n, I 0, I 100000] (s.push q) = some (B (wi n 0 100000), s.push q) := fun q => b_Within
   rw [all_get hn]
   cases hd : wi n 0 100000 with
   | false =>
    rw [hd] at hwi
    simp (maxSteps := 1000000) only [go_sem, b_r_PricesErr_l1, h1, h6, h7, lt_dec hk, hix, hix2, hwi, Bool.not_false, Bool.false_and, Nat.reduceEqDiff, reduceCtorEq, ↓reduceIte]
   | true =>
    rw [hd] at hwi
    simp (maxSteps := 1000000) only [go_sem, b_r_PricesErr_l1, h1, h6, h7, lt_dec hk, hix, hix2, hwi, Bool.not_true, wrap_succ hk (show (x.l.length : Int) < _ by omega), Bool.true_and, Nat.reduceEqDiff, ↓reduceIte]
    exact ih _ _ ⟨h1, h2, h6, rfl, rfl⟩
  ·rintro ρ m ⟨h1, h2, h6, h7, rfl⟩
   rw [List.drop_length]
   simp (maxSteps := 1000000) only [go_sem, b_r_PricesErr_l1, b_r_PricesErr_r1, h1, h6, h7, hix, ge_dec, List.all_nil, wrap_succ hil (show (p.length : Int) < _ by omega), Nat.reduceEqDiff, ↓reduceIte]
   exact hR _ _ ⟨h1, h2, rfl, rfl⟩
 have k2 : ∀ (k : Nat) ρ m, k ≤ p.length → (ρ 1 = .slice o e (p.map rowX) ∧ ρ 2 = .ptr s.acts.length 0 0 ∧ ρ 6 = I k ∧ m = s.push ⟨[rowW w], []⟩) →
   go AP f_r_PricesErr (.c (.loop b_r_PricesErr_l0) :: k_r_PricesErr_0) ⟨ρ, m⟩ = some (I (if (p.drop k).all (fun x => x.l.all fun n => wi n 0 100000) = true then 0 else 2), s) := by
  refine loop_up p.length _ _ ?_ ?_
  ·rintro k ρ m hk ⟨h1, h2, h6, rfl⟩ ih
   obtain ⟨x, hx⟩ := get_some hk
   have hec : e = 1 := by rcases he with h | h; (rw [h] at hx; simp at hx); exact h
   simp (maxSteps := 1000000) only [go_sem, b_r_PricesErr_l0, h1, h6, lt_dec hk, Nat.reduceEqDiff, ↓reduceIte]
   refine (inner x k _ hx hec (fun ρ m h => ih ρ m h) 0 _ _ (Nat.zero_le _) ?_).trans ?_
   ·exact ⟨h1, h2, h6, rfl, rfl⟩
   rw [all_get hx, List.drop_zero]
   cases (x.l.all fun n => wi n 0 100000) <;> simp
  ·rintro ρ m ⟨h1, h2, h6, rfl⟩
   rw [List.drop_length]
   simp (maxSteps := 1000000) only [go_sem, b_r_PricesErr_l0, b_r_PricesErr_r0, h1, h6, ge_dec, List.all_nil, Nat.reduceEqDiff, ↓reduceIte]
 have k1 : ∀ (k : Nat) ρ m, k ≤ p.length → (ρ 1 = .slice o e (p.map rowX) ∧ ρ 2 = .ptr s.acts.length 0 0 ∧ ρ 5 = I k ∧ m = s.push ⟨[rowW w], []⟩) →
   go AP f_r_PricesErr (.c (.loop b_r_PricesErr_l2) :: k_r_PricesErr_2) ⟨ρ, m⟩ = some (I (if ∀ x ∈ p.drop k, (x.l.length : Int) = w.slots then (if p.all (fun x => x.l.all fun n => wi n 0 100000) = true then 0 else 2) else 10), s) := by
  refine loop_up p.length _ _ ?_ ?_
  ·rintro k ρ m hk ⟨h1, h2, h5, rfl⟩ ih
   obtain ⟨x, hx⟩ := get_some hk
   have hec : e = 1 := by rcases he with h | h; (rw [h] at hx; simp at hx); exact h
   subst hec
   have hix := ix_map (f := rowX) (o := o) (es := 1) hx
   simp only [rowX, Sl.v] at hix
   rw [drop_get hx]
   by_cases hxs : (x.l.length : Int) = w.slots
   ·have hd : decide ((x.l.length : Int) ≠ w.slots) = false := by simp [hxs]
    simp (maxSteps := 1000000) only [go_sem, b_r_PricesErr_l2, h1, h2, h5, lt_dec hk, hix, hd, wrap_succ hk (show (p.length : Int) < _ by omega), Nat.reduceEqDiff, Nat.reduceAdd, ↓reduceIte]
    refine (ih _ _ ?_).trans ?_
    ·exact ⟨h1, h2, rfl, rfl⟩
    simp [hxs]
   ·have hd : decide ((x.l.length : Int) ≠ w.slots) = true := by simp [hxs]
    simp (maxSteps := 1000000) only [go_sem, b_r_PricesErr_l2, h1, h2, h5, lt_dec hk, hix, hd, Nat.reduceEqDiff, Nat.reduceAdd, ↓reduceIte]
    simp [hxs]
  ·rintro ρ m ⟨h1, h2, h5, rfl⟩
   rw [List.drop_length, if_pos (by simp)]
   simp (maxSteps := 1000000) only [go_sem, b_r_PricesErr_l2, b_r_PricesErr_r2, h1, h5, ge_dec, Nat.reduceEqDiff, ↓reduceIte]
   refine (k2 0 _ _ (Nat.zero_le _) ?_).trans ?_
   ·exact ⟨h1, h2, rfl, rfl⟩
   rw [List.drop_zero]
 by_cases hl : p.length = w.as.l.length
 ·have hd : decide ((p.length : Int) ≠ (w.as.l.length : Int)) = false := by simp; omega
  rw [callL_go (show AP 15 = some c_r_PricesErr from rfl) rfl]
  simp (maxSteps := 1000000) only [go_sem, b_r_PricesErr, hd, Nat.reduceEqDiff, Nat.reduceAdd, ↓reduceIte]
  refine (k1 0 _ _ (Nat.zero_le _) ?_).trans ?_
  ·exact ⟨rfl, rfl, rfl, rfl⟩
  rw [List.drop_zero]
  unfold prcE
  simp only [hl, true_and]
 ·have hd : decide ((p.length : Int) ≠ (w.as.l.length : Int)) = true := by simp; omega
  rw [prcE_shape (fun h => hl h.1)]
  rw [callL_go (show AP 15 = some c_r_PricesErr from rfl) rfl]
  simp (maxSteps := 1000000) only [go_sem, b_r_PricesErr, hd, Nat.reduceEqDiff, Nat.reduceAdd, ↓reduceIte]
end
end Go.Ax.Sx.Sc

namespace Go.Ax.Sx.Sc
open Go.Ax
set_option linter.unusedSimpArgs false
set_option linter.unusedVariables false
set_option maxRecDepth 100000
section
variable {s : Sig} {w : W}
end
end Go.Ax.Sx.Sc

namespace Go.Ax.Sx.Sc
open Go.Ax
set_option linter.unusedSimpArgs false
set_option linter.unusedVariables false
set_option maxRecDepth 100000
section
variable {s : Sig} {w : W}
theorem clq_closed {as : List A} {i t : Nat} {x : A} (h : as[i]? = some x) : isClosed x (t : Int) = clq as i t := by
 simp only [clq, h]
end
end Go.Ax.Sx.Sc
