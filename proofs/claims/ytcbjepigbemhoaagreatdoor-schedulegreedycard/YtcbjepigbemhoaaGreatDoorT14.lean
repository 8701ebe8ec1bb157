/-
  What a week is among the values that an argument may read as.
-/
import Derived.Test.YtcbjepigbemhoaaGreatDoorT13
import Derived.Test.YtcbjepigbemhoaaGreatDoorT12
import Derived.Test.YtcbjepigbemhoaaGreatDoorT7
namespace Go.Ax.Sx.Sc
open Go.Ax
set_option linter.unusedSimpArgs false
set_option linter.unusedVariables false
set_option maxRecDepth 100000

/-- a list that is put together: nil, or in a box of its own (not one of the first) -/
def GL (d es : Nat) (row : List AV) (n : Nat) (x : AV) (bs : List (List AV)) (lo : Nat) : Prop :=
  lo ≤ bs.length ∧ ((n = 0 ∧ row = [] ∧ x = .slice .nilS 0 []) ∨ (0 < n ∧ ∃ b, lo ≤ b ∧ bs[b]? = some row ∧ x = .rsl d b 0 es n 0))

theorem appm_G {s : Sig} {bs : List (List AV)} {tk : List (Option Nat)} {es n lo : Nat} {o : Own} {row r2 : List AV} {x : AV} (h : GL s.acts.length es row n x bs lo) (hl : row.length = n * es) (hm : n + 1 ≤ 4294967296) :
    ∃ x' bs' tk', appendmOp (s.push ⟨bs, tk⟩) es x (.slice o es [r2]) = some (x', s.push ⟨bs', tk'⟩) ∧ GL s.acts.length es (row ++ r2) (n + 1) x' bs' lo ∧ ∀ j, j < lo → bs'[j]? = bs[j]? := by
  obtain ⟨h0, ⟨rfl, rfl, rfl⟩ | ⟨hn, b, hlb, hb, rfl⟩⟩ := h
  · refine ⟨_, _, _, appm_nil, ⟨by rw [List.length_append]; omega, .inr ⟨by omega, bs.length, h0, ?_, rfl⟩⟩, fun j hj => ?_⟩
    · rw [List.getElem?_append_right (Nat.le_refl _)]; simp
    · rw [List.getElem?_append_left (by omega)]
  · refine ⟨_, _, _, appm_grow hb hl hn hm, ⟨by rw [List.length_append, List.length_set]; omega, .inr ⟨by omega, bs.length, h0, ?_, rfl⟩⟩, fun j hj => ?_⟩
    · rw [List.getElem?_append_right (by rw [List.length_set]; exact Nat.le_refl _)]; simp
    · rw [List.getElem?_append_left (by rw [List.length_set]; omega), List.getElem?_set_ne (by omega)]

theorem flP_close {l : List P} (h : ∀ p ∈ l, p.an.ok 1) : closeAll (flP l) = some (flP l) := by
  induction l with
  | nil => rfl
  | cons p r ih =>
    rw [flP_cons]
    simp only [rowP, List.cons_append, List.nil_append, closeAll_cons, close_int, Sl.close (f := rowI) (h p (by simp))]
    rw [ih fun q hq => h q (List.mem_cons_of_mem _ hq)]; rfl
theorem leave_rslP {s : Sig} {r : Rec} {b : Nat} {out : List P} (h : r.boxes[b]? = some (flP out)) (ho : ∀ p ∈ out, p.an.ok 1) : leaveVal (s.push r) (.rsl s.acts.length b 0 3 out.length 0) = some (.slice .any 3 (out.map rowP)) := by
  have hc := chunks_flat (es := 3) (xs := out.map rowP) (fun r hr => by obtain ⟨p, _, rfl⟩ := List.mem_map.1 hr; rfl)
  rw [List.length_map] at hc
  have hv : leaveVal (s.push r) (.rsl s.acts.length b 0 3 out.length 0) = leaveCell (s.push r) (.rsl s.acts.length b 0 3 out.length 0) := rfl
  rw [hv, leaveCell, if_pos (by rw [cur_push]), box_push, h]
  simp only [Option.bind_some, flP_len, Nat.zero_add, Nat.le_refl, if_true, flP_close ho, Option.map_some, List.drop_zero]
  rw [show flP out = (out.map rowP).flatten from rfl, hc]

/-- the state, seen by one box of the activation -/
theorem cell_box {s : Sig} (hs : Ok s) {bs : List (List AV)} {tk : List (Option Nat)} {b : Nat} (hb : b < bs.length) : Cell (fun r => s.push ⟨bs.set b r, tk⟩) s.acts.length b := by
  refine ⟨fun r => ?_, fun r r' => ?_, fun r => hs.ro, fun r => hs.push _⟩
  · rw [box_push]; simp [hb]
  · rw [setBox_push, List.set_set]
theorem set_same {bs : List (List AV)} {b : Nat} {r : List AV} (h : bs[b]? = some r) : bs.set b r = bs := by
  obtain ⟨hb, rfl⟩ := List.getElem?_eq_some_iff.1 h
  exact List.set_getElem_self hb

section
variable {s : Sig} {w : W}
theorem z_SortStable_nil {g : FuncId} {caps : List AV} : callL AP (.fn 21) [.slice .nilS 0 [], .fn g [] caps] s = some (.tuple [], s) := by
  have hd : decide ((1 : Int) < 0) = false := rfl
  have hw0 : IntKind.i64.wrap (0 + 1) = 1 := rfl
  have hi : ∀ s, callL AP (.fn 74) [.slice .nilS 0 [], I 0, I 0, .fn g [] caps] s = some (.tuple [], s) := fun s => by
    rw [callL_go (show AP 74 = some c_z_insertionSortCmpFunc_int from rfl) rfl]
    simp (maxSteps := 1000000) only [go_sem, b_z_insertionSortCmpFunc_int, Int.reduceLT, Int.reduceLE, Int.reduceAdd, Int.reduceNeg, ↓reduceIte]
    rw [go_loop]
    simp (maxSteps := 1000000) only [go_sem, b_z_insertionSortCmpFunc_int_l0, Nat.reduceEqDiff, Int.reduceLT, ↓reduceIte]
  have h20 : decide ((20 : Int) ≤ 0) = false := rfl
  have h21 : decide ((20 : Int) < 0) = false := rfl
  have hst : ∀ s, callL AP (.fn 43) [.slice .nilS 0 [], I 0, .fn g [] caps] s = some (.tuple [], s) := fun s => by
    rw [callL_go (show AP 43 = some c_z_stableCmpFunc_int from rfl) rfl]
    simp (maxSteps := 1000000) only [go_sem, b_z_stableCmpFunc_int, Nat.reduceEqDiff, ↓reduceIte]
    rw [go_loop]
    simp (maxSteps := 1000000) only [go_sem, b_z_stableCmpFunc_int_l2, b_z_stableCmpFunc_int_r1, hi, Nat.reduceEqDiff, reduceCtorEq, Int.reduceLE, ↓reduceIte]
    rw [go_loop]
    simp (maxSteps := 1000000) only [go_sem, b_z_stableCmpFunc_int_l0, Nat.reduceEqDiff, Int.reduceLT, ↓reduceIte]
  rw [callL_go (show AP 21 = some c_z_SortStableFunc_int from rfl) rfl]
  simp (maxSteps := 1000000) only [go_sem, b_z_SortStableFunc_int, hst, Nat.reduceEqDiff, reduceCtorEq, Int.cast_ofNat_Int, ↓reduceIte]
theorem z_SortFunc_nil {g : FuncId} {caps : List AV} : callL AP (.fn 24) [.slice .nilS 0 [], .fn g [] caps] s = some (.tuple [], s) := by
  have hd : decide ((1 : Int) < 0) = false := rfl
  have hw0 : IntKind.i64.wrap (0 + 1) = 1 := rfl
  have hw1 : IntKind.i64.wrap (0 - 0) = 0 := rfl
  have hi : ∀ s, callL AP (.fn 82) [.slice .nilS 0 [], I 0, I 0, .fn g [] caps] s = some (.tuple [], s) := fun s => by
    rw [callL_go (show AP 82 = some c_z_insertionSortCmpFunc_SchedulePass from rfl) rfl]
    simp (maxSteps := 1000000) only [go_sem, b_z_insertionSortCmpFunc_SchedulePass, Int.reduceLT, Int.reduceLE, Int.reduceAdd, Int.reduceNeg, ↓reduceIte]
    rw [go_loop]
    simp (maxSteps := 1000000) only [go_sem, b_z_insertionSortCmpFunc_SchedulePass_l0, Nat.reduceEqDiff, Int.reduceLT, ↓reduceIte]
  have h12 : decide ((0 : Int) ≤ 12) = true := rfl
  have hpd : ∀ (s : Sig) (v : Int), callL AP (.fn 46) [.slice .nilS 0 [], I 0, I 0, I v, .fn g [] caps] s = some (.tuple [], s) := fun s v => by
    rw [callL_go (show AP 46 = some c_z_pdqsortCmpFunc_SchedulePass from rfl) rfl]
    simp (maxSteps := 1000000) only [go_sem, b_z_pdqsortCmpFunc_SchedulePass]
    rw [go_loop]
    simp (maxSteps := 1000000) only [go_sem, b_z_pdqsortCmpFunc_SchedulePass_l0, hi, Nat.reduceEqDiff, reduceCtorEq, Int.reduceLT, Int.reduceLE, Int.reduceSub, Int.reduceNeg, ↓reduceIte]
  obtain ⟨v, hv⟩ := bits_Len (s := s.push ⟨[], []⟩) (n := 0) (by omega)
  have hv : callL AP (.fn 47) [.v (.int .u64 0)] (s.push ⟨[], []⟩) = some (I v, s.push ⟨[], []⟩) := hv
  have hw : IntKind.u64.wrap 0 = 0 := rfl
  rw [callL_go (show AP 24 = some c_z_SortFunc_SchedulePass from rfl) rfl]
  simp (maxSteps := 1000000) only [go_sem, b_z_SortFunc_SchedulePass, hw, hv, hpd, Nat.reduceEqDiff, reduceCtorEq, Int.cast_ofNat_Int, ↓reduceIte]

theorem plc_G {pl : List P} {i : Int} {x : AV} {bs : List (List AV)} {tk : List (Option Nat)} {lo : Nat} (hs : Ok s) (hw : Wk w) (hpl : ∀ x ∈ pl, PIn w x) (h : GL s.acts.length 3 (flP pl) pl.length x bs lo) (hn : pl.length ≤ 1000) (h0 : 0 ≤ i) (h1 : i < w.rs.l.length) :
    callL AP (.fn 23) [OW w, x, I i] (s.push ⟨bs, tk⟩) = some (accV 3 ((plcs w pl i).map rowP), s.push ⟨bs, tk⟩) := by
  obtain ⟨_, ⟨h2, h3, rfl⟩ | ⟨hn2, b, hlb, hb, rfl⟩⟩ := h
  · obtain rfl := List.eq_nil_of_length_eq_zero h2
    exact w_placements (pl := []) (hs.push _) hw (by simp) (.inl rfl) (by simp) h0 h1
  · exact w_placements_V (hs.push _) hw hpl (by rw [box_push]; exact hb) (by omega) h0 h1

theorem s_Greedy (hs : Ok s) (hw : w.Ok) (hf : w.Few) : callL AP (.fn 6) [w.v] s = some (.tuple [accV 3 ((if (weekE w).2.2 = 0 then grdG w else []).map rowP), I (weekE w).2.2], s) := by
  by_cases he : (weekE w).2.2 = 0
  · have hwk : Wk w := ⟨hw, hf, weekE_ok he⟩
    have ho : ∀ r, callL AP (.fn 20) [w.v] (s.push r) = some (.tuple [OW w, I 0], s.push r) := fun r => s_open (hs.push r) hw hf he
    rw [if_pos he, he]
    have hrl := hwk.v.rl
    have hpi := pasG_in hwk
    have hpl := pasG_len (w := w)
    have hol := ordG_len (w := w)
    simp only [W.v, rowW, Sl.v] at ho
    -- the end
    have fin : ∀ ρ x bs tk lo, GL s.acts.length 3 (flP (pasG w)) (pasG w).length x bs lo → ρ 8 = x →
        go AP f_s_Greedy [.c b_s_Greedy_r0] ⟨ρ, s.push ⟨bs, tk⟩⟩ = some (.tuple [accV 3 ((grdG w).map rowP), I 0], s) := by
      rintro ρ x bs tk lo ⟨_, ⟨h2, h3, rfl⟩ | ⟨hn2, b, hlb, hb, rfl⟩⟩ g8
      · have hg : grdG w = [] := by unfold grdG; rw [List.eq_nil_of_length_eq_zero h2]; rfl
        rw [hg]
        simp (maxSteps := 1000000) only [go_sem, b_s_Greedy_r0, g8, z_SortFunc_nil, Nat.reduceEqDiff, ↓reduceIte]
        rfl
      · have hbl : b < bs.length := (List.getElem?_eq_some_iff.1 hb).1
        have hsort := z_SortFunc_P (l := pasG w) (g := 25) (caps := []) (c := fun a b : P => a.req - b.req) (cell_box hs (tk := tk) hbl) (by omega) (fun x hx => (hpi x hx).ok) (D := fun x a => PIn w x ∧ PIn w a ∧ x.req ≠ a.req)
          ((pasG_req hwk).imp_of_mem fun ha hb hab => ⟨hpi _ hb, hpi _ ha, fun e => hab e.symm⟩)
          (fun x y hxy row q1 q2 q3 => s_compare ((((hs.push _).push _).push _).push _) hxy.1 hxy.2.1 hwk hxy.2.2)
        simp only [set_same hb] at hsort
        have hgl : (grdG w).length = (pasG w).length := isort_len
        have hlv := leave_rslP (s := s) (r := ⟨bs.set b (flP (grdG w)), tk⟩) (b := b) (out := grdG w) (by simp [hbl]) (fun p hp => (hpi p ((isort_perm.mem_iff).1 hp)).ok)
        rw [hgl] at hlv
        have hne : grdG w ≠ [] := by intro e; rw [e] at hgl; simp at hgl; omega
        have hacc : AV.slice .any 3 ((grdG w).map rowP) = accV 3 ((grdG w).map rowP) := by
          cases hg : grdG w with
          | nil => exact absurd hg hne
          | cons _ _ => rfl
        rw [← hacc]
        have hsort : callL AP (.fn 24) [.rsl s.acts.length b 0 3 (pasG w).length 0, .fn 25 [] []] (s.push ⟨bs, tk⟩) = some (.tuple [], s.push ⟨bs.set b (flP (grdG w)), tk⟩) := hsort
        generalize (grdG w).map rowP = Z at *
        generalize bs.set b (flP (grdG w)) = bs2 at *
        simp (maxSteps := 1000000) only [go_sem, b_s_Greedy_r0, g8, hsort, Nat.reduceEqDiff, ↓reduceIte]
        rw [hlv]; rfl
    -- the second loop
    have k2 : ∀ (bo : Nat) (k : Nat) ρ m, k ≤ w.rs.l.length → (ρ 4 = OW w ∧ ρ 34 = .rsl s.acts.length bo 0 1 w.rs.l.length 0 ∧ ρ 35 = I w.rs.l.length ∧ ρ 36 = I k ∧ ∃ bs tk, GL s.acts.length 3 (flP (((ordG w).take k).foldl (gstep w) [])) (((ordG w).take k).foldl (gstep w) []).length (ρ 8) bs (bo + 1) ∧ bs[bo]? = some (flI (ordG w)) ∧ m = s.push ⟨bs, tk⟩) →
        go AP f_s_Greedy (.c (.loop b_s_Greedy_l0) :: k_s_Greedy_0) ⟨ρ, m⟩ = some (.tuple [accV 3 ((grdG w).map rowP), I 0], s) := by
      intro bo
      refine loop_up w.rs.l.length _ _ ?_ ?_
      · rintro k ρ m hk ⟨g4, g34, g35, g36, bs, tk, hG, hbo, rfl⟩ ih
        obtain ⟨i, hi⟩ := get_some (l := ordG w) (k := k) (by omega)
        have him := ordG_mem.1 (List.mem_of_getElem? hi)
        have hix := ix_rsl (d := s.acts.length) (b := bo) (es := 1) hk
        have hget : (flI (ordG w))[0 + k * 1]? = some (I i) := by
          rw [show 0 + k * 1 = k by omega]; unfold flI; rw [List.getElem?_map, hi]; rfl
        have hnx : ((ordG w).take (k + 1)).foldl (gstep w) [] = gstep w (((ordG w).take k).foldl (gstep w) []) i := by
          rw [take_get hi, List.foldl_append]; rfl
        have hpin : ∀ p ∈ ((ordG w).take k).foldl (gstep w) [], PIn w p := gfold_in hwk (fun j hj => ordG_mem.1 (List.mem_of_mem_take hj)) (by simp)
        have hlen := gfold_len (w := w) (l := (ordG w).take k) (pl := [])
        rw [List.length_take] at hlen
        have hlen : (((ordG w).take k).foldl (gstep w) []).length ≤ 12 := by simp at hlen; omega
        obtain ⟨x, hx⟩ : ∃ x, x = ρ 8 := ⟨_, rfl⟩
        rw [← hx] at hG
        generalize ((ordG w).take k).foldl (gstep w) [] = pl at *
        have hplc := plc_G (s := s) (i := i) (tk := tk) hs hwk hpin hG (by omega) him.1 him.2
        have hwk1 := wrap_succ hk (show (w.rs.l.length : Int) < _ by omega)
        simp only [OW] at g4 hplc
        cases hq : plcs w pl i with
        | nil =>
          rw [hq] at hplc
          have hplc : ∀ y, y = x → callL AP (.fn 23) [.eptr (wk w.slots (w.as.v rowA) (w.rs.v rowR) (closedF w.as.l)) 0, y, I i] (s.push ⟨bs, tk⟩) = some (.slice .nilS 0 [], s.push ⟨bs, tk⟩) := by rintro y rfl; exact hplc
          simp (maxSteps := 1000000) only [go_sem, b_s_Greedy_l0, g4, g34, g35, g36, ← hx, lt_dec hk, hix, hbo, hget, hplc, hwk1, Nat.reduceEqDiff, Int.reduceLT, Int.cast_ofNat_Int, ↓reduceIte]
          refine ih _ _ ?_
          refine ⟨by simp only [OW]; exact g4, g34, g35, rfl, bs, tk, ?_, hbo, rfl⟩
          rw [hnx, show gstep w pl i = pl by unfold gstep; rw [hq]]
          show GL _ _ _ _ (ρ 8) _ _
          rw [← hx]; exact hG
        | cons p r =>
          have hp : p ∈ plcs w pl i := by rw [hq]; simp
          have hpin2 := (poss_in hwk him.1 him.2 (List.mem_filter.1 hp).1).1
          have hpc : closeAll (rowP p) = some (rowP p) := by
            simp only [rowP, closeAll_cons, closeAll_nil, close_int, Sl.close hpin2.ok]; rfl
          obtain ⟨x', bs', tk', ha, hG', hkp⟩ := appm_G (tk := tk) (o := .full) (r2 := rowP p) hG flP_len (by omega)
          rw [hq] at hplc
          obtain ⟨Z, hZ⟩ : ∃ Z, Z = (p :: r).map rowP := ⟨_, rfl⟩
          have hplc : ∀ y, y = x → callL AP (.fn 23) [.eptr (wk w.slots (w.as.v rowA) (w.rs.v rowR) (closedF w.as.l)) 0, y, I i] (s.push ⟨bs, tk⟩) = some (.slice .any 3 Z, s.push ⟨bs, tk⟩) := by rintro y rfl; rw [hZ]; exact hplc
          have hpos : decide ((0 : Int) < (Z.length : Int)) = true := by rw [hZ]; simp
          have hix0 : indexAddrOp none 3 (.slice .any 3 Z) (I 0) = some (.eptr (rowP p) 0) := by rw [hZ]; simp [indexAddrOp, idx]
          simp only [rowP, Sl.v] at hpc ha hix0
          simp (maxSteps := 1000000) only [go_sem, b_s_Greedy_l0, g4, g34, g35, g36, ← hx, lt_dec hk, hix, hbo, hget, hplc, hwk1, hpos, hix0, hpc, ha, Nat.reduceEqDiff, ↓reduceIte]
          refine ih _ _ ?_
          refine ⟨by simp only [OW]; exact g4, g34, g35, rfl, bs', tk', ?_, by rw [hkp bo (by omega)]; exact hbo, rfl⟩
          rw [hnx, show gstep w pl i = pl ++ [p] by unfold gstep; rw [hq], flP_app, List.length_append]
          exact hG'
      · rintro ρ m ⟨g4, g34, g35, g36, bs, tk, hG, hbo, rfl⟩
        simp (maxSteps := 1000000) only [go_sem, b_s_Greedy_l0, g35, g36, ge_dec, ↓reduceIte]
        refine fin _ _ _ _ (bo + 1) ?_ rfl
        rw [← hol, List.take_length] at hG
        exact hG
    -- the first loop
    have k1 : ∀ (k : Nat) ρ m, k ≤ w.rs.l.length → (ρ 1 = .ptr s.acts.length 0 0 ∧ ρ 4 = OW w ∧ ρ 22 = I w.rs.l.length ∧ ρ 23 = I k ∧ ∃ bs tk, GL s.acts.length 1 (flI (rngI k)) k (ρ 6) bs 1 ∧ bs[0]? = some (rowW w) ∧ m = s.push ⟨bs, tk⟩) →
        go AP f_s_Greedy (.c (.loop b_s_Greedy_l1) :: k_s_Greedy_1) ⟨ρ, m⟩ = some (.tuple [accV 3 ((grdG w).map rowP), I 0], s) := by
      refine loop_up w.rs.l.length _ _ ?_ ?_
      · rintro k ρ m hk ⟨g1, g4, g22, g23, bs, tk, hG, hb0, rfl⟩ ih
        obtain ⟨x, hx⟩ : ∃ x, x = ρ 6 := ⟨_, rfl⟩
        rw [← hx] at hG
        obtain ⟨x', bs', tk', ha, hG', hkp⟩ := appm_G (tk := tk) (o := .full) (r2 := [I (k : Int)]) hG (by rw [flI_len, rngI_len]; omega) (by omega)
        have hwk1 := wrap_succ hk (show (w.rs.l.length : Int) < _ by omega)
        simp (maxSteps := 1000000) only [go_sem, b_s_Greedy_l1, g22, g23, ← hx, lt_dec hk, hwk1, ha, Nat.reduceEqDiff, ↓reduceIte]
        refine ih _ _ ?_
        refine ⟨g1, g4, g22, rfl, bs', tk', ?_, by rw [hkp 0 (by omega)]; exact hb0, rfl⟩
        rw [rngI_s]; unfold flI at hG' ⊢; rw [List.map_append]; exact hG'
      · rintro ρ m ⟨g1, g4, g22, g23, bs, tk, hG, hb0, rfl⟩
        obtain ⟨x, hx⟩ : ∃ x, x = ρ 6 := ⟨_, rfl⟩
        rw [← hx] at hG
        obtain ⟨hlo, ⟨h2, h3, rfl⟩ | ⟨hn2, b, hlb, hb, rfl⟩⟩ := hG
        · have hd0 : decide ((0 : Int) < 0) = false := rfl
          have hz := z_SortStable_nil (s := s.push ⟨bs, tk⟩) (g := 22) (caps := [.ptr s.acts.length 0 0])
          simp (maxSteps := 1000000) only [go_sem, b_s_Greedy_l1, b_s_Greedy_r1, g1, g22, g23, ← hx, ge_dec, hz, Nat.reduceEqDiff, Int.cast_ofNat_Int, ↓reduceIte]
          rw [go_loop]
          simp (maxSteps := 1000000) only [go_sem, b_s_Greedy_l0, Nat.reduceEqDiff, Int.reduceLT, ↓reduceIte]
          refine fin _ _ _ _ 0 ⟨Nat.zero_le _, .inl ?_⟩ rfl
          have : pasG w = [] := List.eq_nil_of_length_eq_zero (by omega)
          rw [this]; exact ⟨rfl, rfl, rfl⟩
        · have hbl : b < bs.length := (List.getElem?_eq_some_iff.1 hb).1
          have h0b : ∀ r q1 q2 q3, ((((s.push ⟨bs.set b r, tk⟩).push q1).push q2).push q3).box s.acts.length 0 = some (rowW w) := fun r q1 q2 q3 => by
            refine box_keep (box_keep (box_keep ?_ _) _) _
            rw [box_push]
            show (bs.set b r)[0]? = _
            rw [List.getElem?_set_ne (by omega)]; exact hb0
          have hsort := z_SortStable (l := rngI w.rs.l.length) (g := 22) (caps := [.ptr s.acts.length 0 0]) (c := fun a b => (w.rq b).val - (w.rq a).val) (S := fun i => 0 ≤ i ∧ i < w.rs.l.length) (cell_box hs (tk := tk) hbl) (by rw [rngI_len]; exact hrl) (fun x hx => rngI_mem.1 hx)
            (fun x y hx hy row q1 q2 q3 => s_Greedy_1 ((((hs.push _).push _).push _).push _) hwk hx hy (h0b row q1 q2 q3))
          simp only [set_same hb, rngI_len] at hsort
          have hsort : callL AP (.fn 21) [.rsl s.acts.length b 0 1 w.rs.l.length 0, .fn 22 [] [.ptr s.acts.length 0 0]] (s.push ⟨bs, tk⟩) = some (.tuple [], s.push ⟨bs.set b (flI (ordG w)), tk⟩) := hsort
          have hbo : (bs.set b (flI (ordG w)))[b]? = some (flI (ordG w)) := by simp [hbl]
          have hln : b + 1 ≤ (bs.set b (flI (ordG w))).length := by rw [List.length_set]; omega
          generalize bs.set b (flI (ordG w)) = bs2 at *
          simp (maxSteps := 1000000) only [go_sem, b_s_Greedy_l1, b_s_Greedy_r1, g1, g22, g23, ← hx, ge_dec, hsort, len_rsl, Nat.reduceEqDiff, ↓reduceIte]
          refine k2 b 0 _ _ (Nat.zero_le _) ?_
          exact ⟨g4, rfl, rfl, rfl, bs2, tk, ⟨hln, .inl ⟨rfl, rfl, rfl⟩⟩, hbo, rfl⟩
    rw [callL_go (show AP 6 = some c_s_Greedy from rfl) rfl]
    simp only [OW] at k1 ho ⊢
    simp (maxSteps := 1000000) only [go_sem, b_s_Greedy, ho, ne_eq, not_true, decide_false, Nat.reduceEqDiff, Nat.reduceAdd, ↓reduceIte]
    refine k1 0 _ _ (Nat.zero_le _) ?_
    exact ⟨rfl, rfl, rfl, rfl, [rowW w], [], ⟨by simp, .inl ⟨rfl, rfl, rfl⟩⟩, rfl, rfl⟩
  · rw [if_neg he]
    have ho : ∀ r, callL AP (.fn 20) [w.v] (s.push r) = some (.tuple [NP, I (weekE w).2.2], s.push r) := fun r => s_open_bad (hs.push r) hw hf he
    simp only [W.v, rowW, Sl.v] at ho
    rw [callL_go (show AP 6 = some c_s_Greedy from rfl) rfl]
    simp (maxSteps := 1000000) only [go_sem, b_s_Greedy, ho, he, ne_eq, not_false_iff, decide_true, Nat.reduceEqDiff, Nat.reduceAdd, ↓reduceIte]
    rfl
end
end Go.Ax.Sx.Sc

namespace Go.Ax.Sx.Sc
open Go.Ax
set_option linter.unusedSimpArgs false
set_option linter.unusedVariables false
set_option maxRecDepth 100000

/-! ### A pass among the others, in order -/
def stepA (p : P) (st : List P × Bool) (x : P) : List P × Bool := if st.2 = false ∧ p.req < x.req then (st.1 ++ [p] ++ [x], true) else (st.1 ++ [x], st.2)
def addS (p : P) (l : List P) : List P × Bool := l.foldl (stepA p) ([], false)
def addF (p : P) (l : List P) : List P := if (addS p l).2 = true then (addS p l).1 else (addS p l).1 ++ [p]
theorem addS_snoc {p x : P} {l : List P} : addS p (l ++ [x]) = stepA p (addS p l) x := by unfold addS; rw [List.foldl_append]; rfl
theorem addS_ind {p : P} {P : List Go.Ax.Sx.Sc.P → Prop} (h0 : P []) (h1 : ∀ l x, P l → P (l ++ [x])) (l : List Go.Ax.Sx.Sc.P) : P l := by
  have : ∀ n, ∀ l : List Go.Ax.Sx.Sc.P, l.length = n → P l := by
    intro n
    induction n with
    | zero => intro l hl; rw [List.eq_nil_of_length_eq_zero hl]; exact h0
    | succ n ih =>
      intro l hl
      have hne : l ≠ [] := by intro e; rw [e] at hl; simp at hl
      rw [← List.dropLast_concat_getLast hne]
      exact h1 _ _ (ih _ (by rw [List.length_dropLast]; omega))
  exact this _ l rfl
/-- what was put together so far -/
structure AddOk (p : P) (l : List P) (st : List P × Bool) : Prop where
  len : st.1.length ≤ l.length + 1
  t : st.2 = true → st.1.Perm (p :: l) ∧ st.1.Pairwise (fun a b => a.req < b.req) ∧ ∃ y ∈ l, p.req < y.req
  f : st.2 = false → st.1 = l ∧ ∀ x ∈ l, ¬ p.req < x.req
theorem addS_ok {p : P} {l : List P} : l.Pairwise (fun a b => a.req < b.req) → (∀ x ∈ l, x.req ≠ p.req) → AddOk p l (addS p l) := by
  refine addS_ind (p := p) (P := fun l => l.Pairwise (fun a b => a.req < b.req) → (∀ x ∈ l, x.req ≠ p.req) → AddOk p l (addS p l)) ?_ ?_ l
  · intro _ _
    exact ⟨by simp [addS], fun h => by simp [addS] at h, fun _ => ⟨rfl, by simp⟩⟩
  · intro l x ih hp hn
    have hpa := List.pairwise_append.1 hp
    have ih := ih hpa.1 (fun y hy => hn y (List.mem_append_left _ hy))
    have hlx : ∀ a ∈ l, a.req < x.req := fun a ha => hpa.2.2 a ha x (by simp)
    rw [addS_snoc]
    generalize addS p l = st at *
    unfold stepA
    by_cases h : st.2 = false ∧ p.req < x.req
    · rw [if_pos h]
      obtain ⟨f1, f2⟩ := ih.f h.1
      refine ⟨by rw [f1]; simp, fun _ => ?_, fun h => by cases h⟩
      show (st.1 ++ [p] ++ [x]).Perm _ ∧ (st.1 ++ [p] ++ [x]).Pairwise _ ∧ _
      rw [f1]
      refine ⟨?_, ?_, x, by simp, h.2⟩
      · rw [List.append_assoc]; exact List.perm_middle
      · rw [List.append_assoc, List.pairwise_append]
        refine ⟨hpa.1, by simpa using h.2, fun a ha b hb => ?_⟩
        have h1 := f2 a ha
        have h2 := hn a (List.mem_append_left _ ha)
        have h3 := hlx a ha
        simp at hb
        rcases hb with rfl | rfl
        · omega
        · exact h3
    · rw [if_neg h]
      refine ⟨by have := ih.len; simp; omega, fun h2 => ?_, fun h2 => ?_⟩
      · obtain ⟨t1, t2, y, hy, hpy⟩ := ih.t h2
        refine ⟨by have := t1.append_right [x]; simpa using this, ?_, y, List.mem_append_left _ hy, hpy⟩
        show (st.1 ++ [x]).Pairwise _
        rw [List.pairwise_append]
        refine ⟨t2, by simp, fun a ha b hb => ?_⟩
        rw [List.mem_singleton] at hb
        subst hb
        rcases List.mem_cons.1 (t1.mem_iff.1 ha) with rfl | ha
        · have := hlx y hy; omega
        · exact hlx a ha
      · obtain ⟨f1, f2⟩ := ih.f h2
        refine ⟨by show st.1 ++ [x] = _; rw [f1], fun y hy => ?_⟩
        rcases List.mem_append.1 hy with hy | hy
        · exact f2 y hy
        · rw [List.mem_singleton] at hy; subst hy
          exact fun e => h ⟨h2, e⟩
theorem addF_ok {p : P} {l : List P} (h : l.Pairwise (fun a b => a.req < b.req)) (hn : ∀ x ∈ l, x.req ≠ p.req) : (addF p l).Perm (p :: l) ∧ (addF p l).Pairwise fun a b => a.req < b.req := by
  have ok := addS_ok h hn
  unfold addF
  generalize addS p l = st at *
  by_cases hb : st.2 = true
  · rw [if_pos hb]
    obtain ⟨h1, h2, _⟩ := ok.t hb
    exact ⟨h1, h2⟩
  · rw [if_neg hb]
    obtain ⟨f1, f2⟩ := ok.f (by cases h : st.2 with | true => exact absurd h hb | false => rfl)
    rw [f1]
    refine ⟨List.perm_append_comm, ?_⟩
    rw [List.pairwise_append]
    refine ⟨h, by simp, fun a ha b hb => ?_⟩
    rw [List.mem_singleton] at hb
    subst hb
    have h1 := f2 a ha
    have h2 := hn a ha
    omega

section
variable {s : Sig} {w : W}
theorem r_added {l : List P} {o : Own} {e : Nat} {p : P} (hs : Ok s) (he : l = [] ∨ e = 3) (hl : l.length ≤ 1000) (hp : p.an.ok 1) (hok : ∀ x ∈ l, x.an.ok 1) (hlen : ∀ k, (addS p (l.take k)).1.length ≤ 1001) :
    callL AP (.fn 31) [.slice o e (l.map rowP), .agg (rowP p)] s = some (accV 3 ((addF p l).map rowP), s) := by
  have hcl : ∀ q : P, q.an.ok 1 → closeAll (rowP q) = some (rowP q) := fun q hq => by
    simp only [rowP, closeAll_cons, closeAll_nil, close_int, Sl.close (f := rowI) hq]; rfl
  have hpc := hcl p hp
  have key : ∀ (k : Nat) ρ m, k ≤ l.length → (ρ 0 = .slice o e (l.map rowP) ∧ ρ 3 = .ptr s.acts.length 0 0 ∧ ρ 6 = B (addS p (l.take k)).2 ∧ ρ 7 = I k ∧ ∃ x og tk, Acc s.acts.length 3 ((addS p (l.take k)).1.map rowP) x og tk ∧ ρ 5 = x ∧ m = s.push ⟨[rowP p], tk⟩) →
      go AP f_r_added (.c (.loop b_r_added_l0) :: k_r_added_0) ⟨ρ, m⟩ = some (accV 3 ((addF p l).map rowP), s) := by
    refine loop_up l.length _ _ ?_ ?_
    · rintro k ρ m hk ⟨g0, g3, g6, g7, x, og, tk, hA, g5, rfl⟩ ih
      obtain ⟨q, hq⟩ := get_some hk
      have hec : e = 3 := by rcases he with h | h; (rw [h] at hq; simp at hq); exact h
      subst hec
      have hr := ix_map (f := rowP) (o := o) (es := 3) hq
      have hqc := hcl q (hok q (List.mem_of_getElem? hq))
      have hwk1 := wrap_succ hk (show (l.length : Int) < _ by omega)
      have hlk := hlen k
      have hnx : addS p (l.take (k + 1)) = stepA p (addS p (l.take k)) q := by rw [take_get hq, addS_snoc]
      generalize addS p (l.take k) = st at *
      obtain ⟨out, b⟩ := st
      simp only at hA g6 hlk
      cases b with
      | true =>
        obtain ⟨x2, og2, tk2, a1, a2, _⟩ := hA.append hs .full (ys := [rowP q]) (by simp) (by rw [List.length_map, List.length_singleton]; omega)
        obtain ⟨oa, ea, ra, rfl⟩ := Acc.sl hA
        obtain ⟨ob, eb, rb, rfl⟩ := Acc.sl a2
        simp only [rowP, Sl.v] at a1 hr hqc
        simp (maxSteps := 1000000) only [go_sem, b_r_added_l0, g0, g5, g6, g7, lt_dec hk, hr, hqc, hwk1, a1, Nat.reduceEqDiff, reduceCtorEq, ↓reduceIte]
        refine ih _ _ ?_
        refine ⟨g0, g3, ?_, rfl, _, og2, tk2, ?_, rfl, rfl⟩
        · rw [hnx]; simp only [stepA, if_neg (show ¬ (true = false ∧ p.req < q.req) by simp)]; exact g6
        · rw [hnx]; simp only [stepA, if_neg (show ¬ (true = false ∧ p.req < q.req) by simp)]
          rw [List.map_append]; exact a2
      | false =>
        by_cases hlt : p.req < q.req
        · have hd : decide (p.req < q.req) = true := decide_eq_true hlt
          have hst : stepA p (out, false) q = (out ++ [p] ++ [q], true) := if_pos ⟨rfl, hlt⟩
          obtain ⟨x1, og1, tk1, c1, c2, _⟩ := hA.append hs .full (ys := [rowP p]) (by simp) (by rw [List.length_map, List.length_singleton]; omega)
          obtain ⟨x2, og2, tk2, a1, a2, _⟩ := c2.append hs .full (ys := [rowP q]) (by simp) (by rw [List.length_append, List.length_map, List.length_singleton, List.length_singleton]; omega)
          obtain ⟨oa, ea, ra, rfl⟩ := Acc.sl hA
          obtain ⟨oc, ec, rc, rfl⟩ := Acc.sl c2
          obtain ⟨ob, eb, rb, rfl⟩ := Acc.sl a2
          simp only [rowP, Sl.v] at a1 c1 hr hqc hpc
          simp (maxSteps := 1000000) only [go_sem, b_r_added_l0, g0, g3, g5, g6, g7, lt_dec hk, hr, hqc, hpc, hwk1, a1, c1, hd, Nat.reduceEqDiff, reduceCtorEq, Nat.reduceAdd, ↓reduceIte]
          refine ih _ _ ?_
          refine ⟨g0, g3, ?_, rfl, _, og2, tk2, ?_, rfl, rfl⟩
          · rw [hnx, hst]; rfl
          · rw [hnx, hst]
            show Acc _ _ ((out ++ [p] ++ [q]).map rowP) _ _ _
            rw [List.map_append, List.map_append]; exact a2
        · have hd : decide (p.req < q.req) = false := decide_eq_false hlt
          have hst : stepA p (out, false) q = (out ++ [q], false) := if_neg fun h => hlt h.2
          obtain ⟨x2, og2, tk2, a1, a2, _⟩ := hA.append hs .full (ys := [rowP q]) (by simp) (by rw [List.length_map, List.length_singleton]; omega)
          obtain ⟨oa, ea, ra, rfl⟩ := Acc.sl hA
          obtain ⟨ob, eb, rb, rfl⟩ := Acc.sl a2
          simp only [rowP, Sl.v] at a1 hr hqc
          simp (maxSteps := 1000000) only [go_sem, b_r_added_l0, g0, g3, g5, g6, g7, lt_dec hk, hr, hqc, hwk1, a1, hd, Nat.reduceEqDiff, reduceCtorEq, Nat.reduceAdd, ↓reduceIte]
          refine ih _ _ ?_
          refine ⟨g0, g3, ?_, rfl, _, og2, tk2, ?_, rfl, rfl⟩
          · rw [hnx, hst]; exact g6
          · rw [hnx, hst]
            show Acc _ _ ((out ++ [q]).map rowP) _ _ _
            rw [List.map_append]; exact a2
    · rintro ρ m ⟨g0, g3, g6, g7, x, og, tk, hA, g5, rfl⟩
      rw [List.take_length] at hA g6
      have hlk := hlen l.length
      rw [List.take_length] at hlk
      unfold addF
      generalize addS p l = st at *
      obtain ⟨out, b⟩ := st
      simp only at hA g6 hlk
      cases b with
      | true =>
        have hlv := fun q : Sig => hA.leave q
        obtain ⟨oa, ea, ra, rfl⟩ := Acc.sl hA
        simp only [if_true]
        simp (maxSteps := 1000000) only [go_sem, b_r_added_l0, b_r_added_r0, g0, g5, g6, g7, ge_dec, hlv, Nat.reduceEqDiff, reduceCtorEq, ↓reduceIte]
      | false =>
        obtain ⟨x2, og2, tk2, a1, a2, _⟩ := hA.append hs .full (ys := [rowP p]) (by simp) (by rw [List.length_map, List.length_singleton]; omega)
        have hlv := fun q : Sig => a2.leave q
        obtain ⟨oa, ea, ra, rfl⟩ := Acc.sl hA
        obtain ⟨ob, eb, rb, rfl⟩ := Acc.sl a2
        simp only [Bool.false_eq_true, if_false]
        rw [List.map_append, show [p].map rowP = [rowP p] from rfl]
        generalize out.map rowP ++ [rowP p] = Z at *
        simp only [rowP, Sl.v] at a1 hpc
        simp (maxSteps := 1000000) only [go_sem, b_r_added_l0, b_r_added_r0, g0, g3, g5, g6, g7, ge_dec, hpc, a1, hlv, Nat.reduceEqDiff, reduceCtorEq, ↓reduceIte]
  rw [callL_go (show AP 31 = some c_r_added from rfl) rfl]
  simp only [rowP, Sl.v] at key ⊢
  simp (maxSteps := 1000000) only [go_sem, b_r_added, Nat.reduceAdd]
  refine key 0 _ _ (Nat.zero_le _) ?_
  exact ⟨rfl, rfl, rfl, rfl, _, none, [], Acc.start, rfl, rfl⟩
end
end Go.Ax.Sx.Sc

namespace Go.Ax.Sx.Sc
open Go.Ax
set_option linter.unusedSimpArgs false
set_option linter.unusedVariables false
set_option maxRecDepth 100000

section
variable {w : W}
/-- the dearer first; of equal ones the first -/
def ltG (w : W) (a b : Int) : Prop := (w.rq b).val < (w.rq a).val ∨ ((w.rq a).val = (w.rq b).val ∧ a < b)
theorem ordG_sorted : (ordG w).Pairwise (ltG w) := by
  unfold ordG
  refine isort_sorted (R := ltG w) (fun a b d h1 h2 => ?_) ?_
  · unfold ltG at *; omega
  · unfold rngI
    rw [List.pairwise_map]
    refine List.pairwise_lt_range.imp fun h => ?_
    unfold ltG; omega
def hasI (dn : List Int) (i : Int) : Bool := dn.any fun m => decide (m = i)
theorem hasI_iff {dn : List Int} {i : Int} : hasI dn i = true ↔ i ∈ dn := by simp [hasI]
def pickUp (w : W) (dn : List Int) : Nat → Int
  | 0 => -1
  | k + 1 => if hasI dn (k : Int) = true then pickUp w dn k else if pickUp w dn k < 0 ∨ (w.rq (pickUp w dn k)).val < (w.rq (k : Int)).val then (k : Int) else pickUp w dn k
theorem pickUp_in {dn : List Int} : ∀ {k : Nat}, pickUp w dn k = -1 ∨ (0 ≤ pickUp w dn k ∧ pickUp w dn k < k)
  | 0 => .inl rfl
  | k + 1 => by
    have ih := pickUp_in (dn := dn) (k := k)
    simp only [pickUp]
    split
    · omega
    · split <;> omega
theorem pickUp_best {dn : List Int} : ∀ {k : Nat}, (pickUp w dn k = -1 ∧ ∀ i : Int, 0 ≤ i → i < k → i ∈ dn) ∨ (0 ≤ pickUp w dn k ∧ pickUp w dn k < k ∧ pickUp w dn k ∉ dn ∧ ∀ i : Int, 0 ≤ i → i < k → i ∉ dn → i = pickUp w dn k ∨ ltG w (pickUp w dn k) i)
  | 0 => .inl ⟨rfl, fun i h0 h1 => by omega⟩
  | k + 1 => by
    have ih := pickUp_best (dn := dn) (k := k)
    simp only [pickUp]
    by_cases hh : hasI dn (k : Int) = true
    · rw [if_pos hh]
      have hm := hasI_iff.1 hh
      rcases ih with ⟨h1, h2⟩ | ⟨h1, h2, h3, h4⟩
      · refine .inl ⟨h1, fun i h0 hi => ?_⟩
        by_cases e : i = k
        · rw [e]; exact hm
        · exact h2 i h0 (by omega)
      · refine .inr ⟨h1, by omega, h3, fun i h0 hi hn => ?_⟩
        by_cases e : i = k
        · rw [e] at hn; exact absurd hm hn
        · exact h4 i h0 (by omega) hn
    · rw [if_neg hh]
      have hm : (k : Int) ∉ dn := fun h => hh (hasI_iff.2 h)
      rcases ih with ⟨h1, h2⟩ | ⟨h1, h2, h3, h4⟩
      · rw [if_pos (.inl (by omega))]
        refine .inr ⟨by omega, by omega, hm, fun i h0 hi hn => .inl ?_⟩
        apply Classical.byContradiction
        intro hne
        exact hn (h2 i h0 (by omega))
      · split
        · rename_i hc
          have hc : (w.rq (pickUp w dn k)).val < (w.rq (k : Int)).val := by rcases hc with hc | hc; omega; exact hc
          refine .inr ⟨by omega, by omega, hm, fun i h0 hi hn => ?_⟩
          by_cases e : i = k
          · exact .inl e
          · refine .inr ?_
            rcases h4 i h0 (by omega) hn with rfl | h5
            · exact .inl hc
            · unfold ltG at *; omega
        · rename_i hc
          refine .inr ⟨h1, by omega, h3, fun i h0 hi hn => ?_⟩
          by_cases e : i = k
          · refine .inr ?_
            subst e
            unfold ltG; omega
          · exact h4 i h0 (by omega) hn
theorem pick_ord {k : Nat} {i : Int} (hi : (ordG w)[k]? = some i) : pickUp w ((ordG w).take k) w.rs.l.length = i := by
  have hlt : ordG w = (ordG w).take k ++ i :: (ordG w).drop (k + 1) := by
    obtain ⟨hk, he⟩ := List.getElem?_eq_some_iff.1 hi
    rw [← he, List.getElem_cons_drop, List.take_append_drop]
  have hnd := ordG_nodup (w := w)
  have hso := ordG_sorted (w := w)
  have hir := ordG_mem.1 (List.mem_of_getElem? hi)
  have hmem : ∀ j : Int, 0 ≤ j → j < w.rs.l.length → j ∈ ordG w := fun j h0 h1 => ordG_mem.2 ⟨h0, h1⟩
  rw [hlt] at hnd hso
  have hni : i ∉ (ordG w).take k := fun h => (List.nodup_append.1 hnd).2.2 i h i (by simp) rfl
  rcases pickUp_best (w := w) (dn := (ordG w).take k) (k := w.rs.l.length) with ⟨h1, h2⟩ | ⟨h1, h2, h3, h4⟩
  · exact absurd (h2 i hir.1 hir.2) hni
  · have hp := hmem _ h1 h2
    rw [hlt] at hp
    rcases List.mem_append.1 hp with hp | hp
    · rw [← hlt] at hp; exact absurd hp h3
    · rcases List.mem_cons.1 hp with hp | hp
      · rw [← hlt] at hp; exact hp
      · have h5 := (List.pairwise_cons.1 (List.pairwise_append.1 hso).2.1).1 _ hp
        rw [← hlt] at h5
        rcases h4 i hir.1 hir.2 hni with h6 | h6
        · exact h6.symm
        · unfold ltG at *; omega
end
end Go.Ax.Sx.Sc

namespace Go.Ax.Sx.Sc
open Go.Ax
set_option linter.unusedSimpArgs false
set_option linter.unusedVariables false
set_option maxRecDepth 100000

section
variable {w : W}
/-- a pass, as the document has it -/
def reP (w : W) (p : P) : P := reS (w.rq p.req).need.toNat p
def rstep (w : W) (pl : List P) (i : Int) : List P := match plcs w pl i with
  | [] => pl
  | p :: _ => addF (reS (w.rq i).need.toNat p) pl
def rGr (w : W) : List P := (ordG w).foldl (rstep w) []
theorem confs_perm {rl pl : List P} {x : P} (h : rl.Perm (pl.map (reP w))) : confs w x rl = confs w x pl := by
  unfold confs
  rw [Bool.eq_iff_iff, List.any_eq_true, List.any_eq_true]
  constructor
  · rintro ⟨y, hy, hc⟩
    obtain ⟨z, hz, rfl⟩ := List.mem_map.1 (h.mem_iff.1 hy)
    exact ⟨z, hz, hc⟩
  · rintro ⟨z, hz, hc⟩
    exact ⟨reP w z, h.mem_iff.2 (List.mem_map.2 ⟨z, hz, rfl⟩), hc⟩
theorem plcs_perm {rl pl : List P} {i : Int} (h : rl.Perm (pl.map (reP w))) : plcs w rl i = plcs w pl i := by
  unfold plcs
  refine List.filter_congr fun x _ => ?_
  rw [confs_perm h]
theorem rfold_rel (hw : Wk w) : ∀ {l : List Int} {pl rl : List P}, (∀ i ∈ l, 0 ≤ i ∧ i < w.rs.l.length) → l.Nodup → (∀ p ∈ pl, p.req ∉ l) → rl.Perm (pl.map (reP w)) → rl.Pairwise (fun a b => a.req < b.req) →
    (l.foldl (rstep w) rl).Perm ((l.foldl (gstep w) pl).map (reP w)) ∧ (l.foldl (rstep w) rl).Pairwise fun a b => a.req < b.req
  | [], _, _, _, _, _, h1, h2 => ⟨h1, h2⟩
  | i :: l, pl, rl, hl, hn, hp, h1, h2 => by
    rw [List.foldl_cons, List.foldl_cons]
    obtain ⟨n1, n2⟩ := List.nodup_cons.1 hn
    have hreq : ∀ p ∈ plcs w pl i, p.req = i := fun p hp => (poss_in hw (hl i (by simp)).1 (hl i (by simp)).2 (List.mem_filter.1 hp).1).2.1
    have hrr : ∀ x ∈ rl, x.req ∉ i :: l := fun x hx => by
      obtain ⟨z, hz, rfl⟩ := List.mem_map.1 (h1.mem_iff.1 hx)
      exact hp z hz
    have hpe := plcs_perm (i := i) h1
    unfold rstep gstep
    rw [hpe]
    cases hq : plcs w pl i with
    | nil => exact rfold_rel hw (fun j hj => hl j (List.mem_cons_of_mem _ hj)) n2 (fun p hm e => hp p hm (List.mem_cons_of_mem _ e)) h1 h2
    | cons q r =>
      have hqi : q.req = i := hreq q (by rw [hq]; simp)
      have hre : reS (w.rq i).need.toNat q = reP w q := by unfold reP; rw [hqi]
      obtain ⟨a1, a2⟩ := addF_ok (p := reP w q) h2 (fun x hx e => hrr x hx (by rw [e]; show q.req ∈ _; rw [hqi]; simp))
      simp only
      rw [hre]
      refine rfold_rel hw (fun j hj => hl j (List.mem_cons_of_mem _ hj)) n2 ?_ ?_ a2
      · intro p hm
        rcases List.mem_append.1 hm with hm | hm
        · exact fun e => hp p hm (List.mem_cons_of_mem _ e)
        · rw [List.mem_singleton] at hm; subst hm
          rw [hqi]; exact n1
      · rw [List.map_append]
        exact (a1.trans (List.Perm.cons _ h1)).trans (List.perm_append_comm (l₁ := [reP w q]))
/-- the document's plan is the program's -/
theorem rGr_eq (hw : Wk w) : rGr w = (grdG w).map (reP w) := by
  obtain ⟨h1, h2⟩ := rfold_rel hw (l := ordG w) (pl := []) (rl := []) (fun i hi => ordG_mem.1 hi) ordG_nodup (by simp) (List.Perm.refl _) List.Pairwise.nil
  refine sorted_unique (R := fun a b : P => a.req < b.req) (fun a b h h' => by omega) (h1.trans (List.Perm.map _ isort_perm.symm)) h2 ?_
  rw [List.pairwise_map]
  exact isort_sorted (R := fun a b : P => a.req < b.req) (fun a b d h1 h2 => by omega) ((pasG_req hw).imp fun h => ⟨fun hc => by omega, fun hc => by omega⟩)

theorem addS_len {p : P} : ∀ {l : List P}, (addS p l).1.length ≤ 2 * l.length := by
  intro l
  refine addS_ind (p := p) (P := fun l => (addS p l).1.length ≤ 2 * l.length) (by simp [addS]) (fun l x ih => ?_) l
  rw [addS_snoc]
  unfold stepA
  split <;> simp <;> omega
theorem rstep_in (hw : Wk w) {k : Nat} : (((ordG w).take k).foldl (rstep w) []).Perm ((((ordG w).take k).foldl (gstep w) []).map (reP w)) :=
  (rfold_rel hw (l := (ordG w).take k) (pl := []) (rl := []) (fun i hi => ordG_mem.1 (List.mem_of_mem_take hi)) ((List.take_sublist k _).nodup ordG_nodup) (by simp) (List.Perm.refl _) List.Pairwise.nil).1
theorem acc_sl {l : List P} : ∃ o e, accV 3 (l.map rowP) = .slice o e (l.map rowP) ∧ (l = [] ∨ e = 3) := by
  cases l with
  | nil => exact ⟨_, _, rfl, .inl rfl⟩
  | cons _ _ => exact ⟨_, _, rfl, .inr rfl⟩

section
variable {s : Sig}
theorem r_Greedy (hs : Ok s) (hw : Wk w) : callL AP (.fn 10) [w.v] s = some (accV 3 ((rGr w).map rowP), s) := by
  have hrl := hw.v.rl
  have outer : ∀ (k : Nat) ρ m, k ≤ w.rs.l.length → (ρ 1 = .ptr s.acts.length 0 0 ∧ ρ 3 = accV 3 ((((ordG w).take k).foldl (rstep w) []).map rowP) ∧ ∃ y og tk, Acc s.acts.length 1 (((ordG w).take k).map rowI) y og tk ∧ ρ 4 = y ∧ m = s.push ⟨[rowW w], tk⟩) →
      go AP f_r_Greedy (.c (.loop b_r_Greedy_l0) :: k_r_Greedy_0) ⟨ρ, m⟩ = some (accV 3 ((rGr w).map rowP), s) := by
    refine loop_up w.rs.l.length _ _ ?_ ?_
    · rintro k ρ m hk ⟨g1, g3, y, og, tk, hA, g4, rfl⟩ ih
      obtain ⟨i, hi⟩ := get_some (l := ordG w) (k := k) (by rw [ordG_len]; exact hk)
      have him := ordG_mem.1 (List.mem_of_getElem? hi)
      have hpo := pick_ord hi
      have htl : ((ordG w).take k).length = k := by rw [List.length_take, ordG_len]; omega
      have hnx : ((ordG w).take (k + 1)).foldl (rstep w) [] = rstep w (((ordG w).take k).foldl (rstep w) []) i := by
        rw [take_get hi, List.foldl_append]; rfl
      have hnd : (ordG w).take (k + 1) = (ordG w).take k ++ [i] := take_get hi
      have hri := rstep_in hw (k := k)
      have hgi : ∀ p ∈ ((ordG w).take k).foldl (gstep w) [], PIn w p := gfold_in hw (fun j hj => ordG_mem.1 (List.mem_of_mem_take hj)) (by simp)
      have hgl := gfold_len (w := w) (l := (ordG w).take k) (pl := [])
      rw [htl] at hgl
      have hrlen : (((ordG w).take k).foldl (rstep w) []).length ≤ 12 := by rw [hri.length_eq, List.length_map]; simp at hgl; omega
      have hrin : ∀ p ∈ ((ordG w).take k).foldl (rstep w) [], PIn w p := fun p hp => by
        obtain ⟨q, hq, rfl⟩ := List.mem_map.1 (hri.mem_iff.1 hp)
        exact pin_re (hgi q hq)
      clear hri hgi hgl
      obtain ⟨o4, e4, rfl, he4⟩ := acc_val hA
      have he4 : (ordG w).take k = [] ∨ e4 = 1 := by rcases he4 with h | h; exact .inl (by simpa using h); exact .inr h
      generalize ((ordG w).take k).foldl (rstep w) [] = rl at *
      generalize hdn : (ordG w).take k = dn at *
      have hdl : (dn.map rowI).length = k := by rw [List.length_map, htl]
      have hwn : IntKind.i64.wrap ((k : Int) + 1) = ((k + 1 : Nat) : Int) := wrap_succ hk (show (w.rs.l.length : Int) < _ by omega)
      obtain ⟨o3, e3, ha3, he3⟩ := acc_sl (l := rl)
      have hrp : ∀ r, callL AP (.fn 14) [w.v, accV 3 (rl.map rowP), I i] (s.push r) = some (accV 3 (((plcs w rl i).map (reS (w.rq i).need.toNat)).map rowP), s.push r) := fun r => by
        rw [ha3]; exact r_Placements (hs.push r) hw him.1 him.2 he3 (by omega) hrin
      have inner : ∀ (j : Nat) ρ m, j ≤ w.rs.l.length → (ρ 1 = .ptr s.acts.length 0 0 ∧ ρ 3 = accV 3 (rl.map rowP) ∧ ρ 4 = .slice o4 e4 (dn.map rowI) ∧ ρ 5 = I (pickUp w dn j) ∧ ρ 6 = I j ∧ m = s.push ⟨[rowW w], tk⟩) →
          go AP f_r_Greedy (.c (.loop b_r_Greedy_l1) :: k_r_Greedy_1) ⟨ρ, m⟩ = some (accV 3 ((rGr w).map rowP), s) := by
        refine loop_up w.rs.l.length _ _ ?_ ?_
        · rintro j ρ m hj ⟨g1, g3, g4, g5, g6, rfl⟩ ih2
          have hwj := wrap_succ hj (show (w.rs.l.length : Int) < _ by omega)
          have hhas : ∀ m : Sig, callL AP (.fn 30) [.slice o4 e4 (dn.map rowI), I (j : Int)] m = some (B (hasI dn j), m) := fun m => b_Has he4 (by omega)
          have hpin := pickUp_in (w := w) (dn := dn) (k := j)
          have hnp : pickUp w dn (j + 1) = if hasI dn (j : Int) = true then pickUp w dn j else if pickUp w dn j < 0 ∨ (w.rq (pickUp w dn j)).val < (w.rq (j : Int)).val then (j : Int) else pickUp w dn j := rfl
          have rj := Sl.ix (f := rowR) hw.ok.rs (W.rq_get (i := (j : Int)) (by omega) (by omega))
          rw [Int.toNat_natCast] at rj
          generalize pickUp w dn j = b at *
          cases hh : hasI dn (j : Int) with
          | true =>
            rw [hh] at hhas
            rw [hh, if_pos rfl] at hnp
            simp only [rowR, rowW, Sl.v] at rj
            simp (maxSteps := 1000000) only [go_sem, b_r_Greedy_l1, g1, g4, g6, lt_dec hj, hhas, hwj, onBool_undef, Nat.reduceEqDiff, Nat.reduceAdd, ↓reduceIte]
            refine ih2 _ _ ?_
            exact ⟨g1, g3, g4, by rw [hnp]; exact g5, rfl, rfl⟩
          | false =>
            rw [hh] at hhas
            rw [hh, if_neg (by decide)] at hnp
            by_cases hb : b < 0
            · have hd : decide (b < 0) = true := decide_eq_true hb
              rw [if_pos (.inl hb)] at hnp
              simp only [rowR, rowW, Sl.v] at rj
              simp (maxSteps := 1000000) only [go_sem, b_r_Greedy_l1, g1, g4, g5, g6, lt_dec hj, hhas, hwj, hd, Nat.reduceEqDiff, Nat.reduceAdd, ↓reduceIte]
              refine ih2 _ _ ?_
              exact ⟨g1, g3, g4, by rw [hnp]; rfl, rfl, rfl⟩
            · have hd : decide (b < 0) = false := decide_eq_false hb
              have rb := Sl.ix (f := rowR) hw.ok.rs (W.rq_get (i := b) (by omega) (by omega))
              rw [show ((b.toNat : Nat) : Int) = b by omega] at rb
              by_cases hv : (w.rq b).val < (w.rq (j : Int)).val
              · have hd2 : decide ((w.rq b).val < (w.rq (j : Int)).val) = true := decide_eq_true hv
                rw [if_pos (.inr hv)] at hnp
                simp only [rowR, rowW, Sl.v] at rj rb
                simp (maxSteps := 1000000) only [go_sem, b_r_Greedy_l1, g1, g4, g5, g6, lt_dec hj, hhas, hwj, hd, hd2, rj, rb, Nat.reduceEqDiff, Nat.reduceAdd, ↓reduceIte]
                refine ih2 _ _ ?_
                exact ⟨g1, g3, g4, by rw [hnp]; rfl, rfl, rfl⟩
              · have hd2 : decide ((w.rq b).val < (w.rq (j : Int)).val) = false := decide_eq_false hv
                rw [if_neg (by omega)] at hnp
                simp only [rowR, rowW, Sl.v] at rj rb
                simp (maxSteps := 1000000) only [go_sem, b_r_Greedy_l1, g1, g4, g5, g6, lt_dec hj, hhas, hwj, hd, hd2, rj, rb, Nat.reduceEqDiff, Nat.reduceAdd, ↓reduceIte]
                refine ih2 _ _ ?_
                exact ⟨g1, g3, g4, by rw [hnp]; exact g5, rfl, rfl⟩
        · rintro ρ m ⟨g1, g3, g4, g5, g6, rfl⟩
          rw [hpo] at g5
          obtain ⟨x2, og2, tk2, a1, a2, _⟩ := hA.append hs .full (ys := [rowI i]) (by simp) (by rw [List.length_map, List.length_singleton]; omega)
          have hA2 : Acc s.acts.length 1 ((dn ++ [i]).map rowI) x2 og2 tk2 := by rw [List.map_append]; exact a2
          cases hq : plcs w rl i with
          | nil =>
            have hnx : ((ordG w).take (k + 1)).foldl (rstep w) [] = rl := by rw [hnx]; unfold rstep; rw [hq]
            have hrp : ∀ y, y = accV 3 (rl.map rowP) → ∀ r, callL AP (.fn 14) [w.v, y, I i] (s.push r) = some (.slice .nilS 0 [], s.push r) := by
              rintro _ rfl r
              have := hrp r
              rw [hq] at this; exact this
            generalize hY : accV 3 (rl.map rowP) = Y at *
            simp only [rowW, W.v, Sl.v] at hrp
            simp (maxSteps := 1000000) only [go_sem, b_r_Greedy_l1, b_r_Greedy_r1, g1, g3, g4, g5, g6, ge_dec, a1, hrp, Nat.reduceEqDiff, Nat.reduceAdd, Int.reduceLT, Int.cast_ofNat_Int, ↓reduceIte]
            refine ih _ _ ?_
            refine ⟨g1, ?_, x2, og2, tk2, by rw [hnd]; exact hA2, rfl, rfl⟩
            rw [hnx, hY]; exact g3
          | cons q r =>
            have hqm : q ∈ plcs w rl i := by rw [hq]; simp
            have hqi := (poss_in hw him.1 him.2 (List.mem_filter.1 hqm).1).1
            have hnx : ((ordG w).take (k + 1)).foldl (rstep w) [] = addF (reS (w.rq i).need.toNat q) rl := by rw [hnx]; unfold rstep; rw [hq]
            have had : ∀ r, callL AP (.fn 31) [accV 3 (rl.map rowP), .agg (rowP (reS (w.rq i).need.toNat q))] (s.push r) = some (accV 3 ((addF (reS (w.rq i).need.toNat q) rl).map rowP), s.push r) := fun r' => by
              rw [ha3]
              refine r_added (hs.push r') he3 (by omega) (pin_re hqi).ok (fun x hx => (hrin x hx).ok) fun k => ?_
              have := addS_len (p := reS (w.rq i).need.toNat q) (l := rl.take k)
              rw [List.length_take] at this; omega
            obtain ⟨Z, hZ⟩ : ∃ Z, Z = ((q :: r).map (reS (w.rq i).need.toNat)).map rowP := ⟨_, rfl⟩
            have hpos : decide ((0 : Int) < (Z.length : Int)) = true := by rw [hZ]; simp
            have hix0 : indexAddrOp none 3 (.slice .any 3 Z) (I 0) = some (.eptr (rowP (reS (w.rq i).need.toNat q)) 0) := by rw [hZ]; simp [indexAddrOp, idx]
            have hrp : ∀ y, y = accV 3 (rl.map rowP) → ∀ r, callL AP (.fn 14) [w.v, y, I i] (s.push r) = some (.slice .any 3 Z, s.push r) := by
              rintro _ rfl r'
              have := hrp r'
              rw [hq] at this; rw [hZ]; exact this
            have had : ∀ y, y = accV 3 (rl.map rowP) → ∀ r, callL AP (.fn 31) [y, .agg (rowP (reS (w.rq i).need.toNat q))] (s.push r) = some (accV 3 ((addF (reS (w.rq i).need.toNat q) rl).map rowP), s.push r) := by rintro _ rfl r'; exact had r'
            rw [← hnx] at had
            generalize accV 3 (rl.map rowP) = Y at *
            generalize reS (w.rq i).need.toNat q = q2 at *
            simp only [rowW, W.v, Sl.v] at hrp
            simp only [rowP, Sl.v] at had hix0
            generalize hY2 : accV 3 ((((ordG w).take (k + 1)).foldl (rstep w) []).map rowP) = Y2 at *
            simp (maxSteps := 1000000) only [go_sem, b_r_Greedy_l1, b_r_Greedy_r1, g1, g3, g4, g5, g6, ge_dec, a1, hrp, hpos, hix0, had, Nat.reduceEqDiff, Nat.reduceAdd, ↓reduceIte]
            refine ih _ _ ?_
            exact ⟨g1, rfl, x2, og2, tk2, by rw [hnd]; exact hA2, rfl, rfl⟩
      have hlk := lt_dec hk
      simp (maxSteps := 1000000) only [go_sem, b_r_Greedy_l0, g1, g4, hdl, hlk, Nat.reduceEqDiff, Nat.reduceAdd, Int.reduceNeg, ↓reduceIte]
      refine inner 0 _ _ (Nat.zero_le _) ?_
      exact ⟨g1, g3, g4, rfl, rfl, rfl⟩
    · rintro ρ m ⟨g1, g3, y, og, tk, hA, g4, rfl⟩
      obtain ⟨o4, e4, rfl, he4⟩ := acc_val hA
      have hol := ordG_len (w := w)
      rw [← hol, List.take_length] at g3
      have hdl : (((ordG w).take w.rs.l.length).map rowI).length = w.rs.l.length := by rw [List.length_map, List.length_take]; omega
      generalize ((ordG w).take w.rs.l.length).map rowI = Z at *
      obtain ⟨o3, e3, ha3, he3⟩ := acc_sl (l := (ordG w).foldl (rstep w) [])
      have hlv : ∀ m, leaveVal m (accV 3 (((ordG w).foldl (rstep w) []).map rowP)) = some (accV 3 (((ordG w).foldl (rstep w) []).map rowP)) := fun m => leave_acc
      unfold rGr
      generalize accV 3 (((ordG w).foldl (rstep w) []).map rowP) = Y at *
      simp (maxSteps := 1000000) only [go_sem, b_r_Greedy_l0, b_r_Greedy_r0, g1, g3, g4, hdl, ge_dec, hlv, Nat.reduceEqDiff, Nat.reduceAdd, Int.reduceNeg, ↓reduceIte]
  rw [callL_go (show AP 10 = some c_r_Greedy from rfl) rfl]
  simp only [rowW, Sl.v] at outer ⊢
  simp (maxSteps := 1000000) only [go_sem, b_r_Greedy, Nat.reduceAdd]
  refine outer 0 _ _ (Nat.zero_le _) ?_
  exact ⟨rfl, rfl, _, none, [], Acc.start, rfl, rfl⟩
end
end
end Go.Ax.Sx.Sc

namespace Go.Ax.Sx.Sc
open Go.Ax
set_option linter.unusedSimpArgs false
set_option linter.unusedVariables false
set_option maxRecDepth 100000

section
variable {w : W}
/-- what is taken so far -/
structure GOk (w : W) (pl : List P) : Prop where
  mem : ∀ p ∈ pl, 0 ≤ p.req ∧ p.req < w.rs.l.length ∧ p ∈ poss w p.req
  nc : pl.Pairwise fun a b => conf w a b = false

theorem gstep_sub {pl : List P} {i : Int} {p : P} (h : p ∈ pl) : p ∈ gstep w pl i := by
  unfold gstep; split
  · exact h
  · exact List.mem_append_left _ h
theorem gfold_sub : ∀ {l : List Int} {pl : List P} {p : P}, p ∈ pl → p ∈ l.foldl (gstep w) pl
  | [], _, _, h => h
  | _ :: _, _, _, h => by rw [List.foldl_cons]; exact gfold_sub (gstep_sub h)
theorem confs_sub {a b : List P} {x : P} (h : ∀ p ∈ a, p ∈ b) (hc : confs w x a = true) : confs w x b = true := by
  unfold confs at *
  rw [List.any_eq_true] at *
  obtain ⟨p, hp, hc⟩ := hc
  exact ⟨p, h p hp, hc⟩
theorem plcs_sub {a b : List P} {i : Int} (h : ∀ p ∈ a, p ∈ b) (he : plcs w a i = []) : plcs w b i = [] := by
  unfold plcs at *
  rw [List.filter_eq_nil_iff] at *
  intro x hx
  have := he x hx
  cases hc : confs w x a with
  | false => rw [hc] at this; exact absurd rfl this
  | true => rw [confs_sub h hc]; decide

theorem gfold_ok (hw : Wk w) : ∀ {l : List Int} {pl : List P}, (∀ i ∈ l, 0 ≤ i ∧ i < w.rs.l.length) → GOk w pl →
    GOk w (l.foldl (gstep w) pl) ∧ ∀ i ∈ l, (∃ p ∈ l.foldl (gstep w) pl, p.req = i) ∨ plcs w (l.foldl (gstep w) pl) i = []
  | [], _, _, h => ⟨h, by simp⟩
  | i :: l, pl, hl, h => by
    rw [List.foldl_cons]
    have hi := hl i (by simp)
    have hst : GOk w (gstep w pl i) ∧ ((∃ p ∈ gstep w pl i, p.req = i) ∨ plcs w (gstep w pl i) i = []) := by
      unfold gstep
      cases hq : plcs w pl i with
      | nil => exact ⟨h, .inr hq⟩
      | cons q r =>
        have hqm : q ∈ plcs w pl i := by rw [hq]; simp
        obtain ⟨hq1, hq2⟩ := List.mem_filter.1 hqm
        obtain ⟨hpin, hr, _⟩ := poss_in hw hi.1 hi.2 hq1
        have hn : confs w q pl = false := by simpa using hq2
        refine ⟨⟨fun p hp => ?_, ?_⟩, .inl ⟨q, by simp, hr⟩⟩
        · rcases List.mem_append.1 hp with hp | hp
          · exact h.mem p hp
          · rw [List.mem_singleton] at hp; subst hp
            rw [hr]; exact ⟨hi.1, hi.2, hq1⟩
        · show (pl ++ [q]).Pairwise _
          rw [List.pairwise_append]
          refine ⟨h.nc, by simp, fun a ha b hb => ?_⟩
          rw [List.mem_singleton] at hb; subst hb
          exact confs_none.1 hn a ha
    obtain ⟨h1, h2⟩ := hst
    obtain ⟨h3, h4⟩ := gfold_ok hw (fun j hj => hl j (List.mem_cons_of_mem _ hj)) h1
    refine ⟨h3, fun j hj => ?_⟩
    rcases List.mem_cons.1 hj with rfl | hj
    · rcases h2 with ⟨p, hp, e⟩ | h2
      · exact .inl ⟨p, gfold_sub hp, e⟩
      · exact .inr (plcs_sub (fun p hp => gfold_sub hp) h2)
    · exact h4 j hj

theorem grdG_mem {p : P} : p ∈ grdG w ↔ p ∈ pasG w := isort_perm.mem_iff
theorem grdG_vp (hw : Wk w) : VP w (grdG w) := by
  obtain ⟨h1, _⟩ := gfold_ok hw (l := ordG w) (pl := []) (fun i hi => ordG_mem.1 hi) ⟨by simp, List.Pairwise.nil⟩
  refine ⟨fun p hp => h1.mem p (grdG_mem.1 hp), ?_, ?_⟩
  · exact isort_sorted (R := fun a b : P => a.req < b.req) (fun a b d h1 h2 => by omega) ((pasG_req hw).imp fun h => ⟨fun hc => by omega, fun hc => by omega⟩)
  · have hb : (pasG w).Pairwise fun a b => conf w a b = false ∧ conf w b a = false := h1.nc.imp_of_mem fun ha hb h => ⟨h, by rw [conf_symm hw (pasG_in hw _ hb) (pasG_in hw _ ha)]; exact h⟩
    have hp : (grdG w).Perm (pasG w) := isort_perm
    have := (hp.pairwise_iff (R := fun a b => conf w a b = false ∧ conf w b a = false) (fun {a b} h => ⟨h.2, h.1⟩)).2 hb
    exact this.imp fun h => h.1
/-- No request is left that would find a place. -/
theorem grdG_max (hw : Wk w) {i : Int} (h0 : 0 ≤ i) (h1 : i < w.rs.l.length) : (∃ p ∈ grdG w, p.req = i) ∨ plcs w (grdG w) i = [] := by
  obtain ⟨_, h2⟩ := gfold_ok hw (l := ordG w) (pl := []) (fun i hi => ordG_mem.1 hi) ⟨by simp, List.Pairwise.nil⟩
  rcases h2 i (ordG_mem.2 ⟨h0, h1⟩) with ⟨p, hp, e⟩ | h
  · exact .inl ⟨p, grdG_mem.2 hp, e⟩
  · exact .inr (plcs_sub (fun p hp => grdG_mem.2 hp) h)

theorem val_c {i : Int} : ((cW w).rq i).val = (w.rq i).val := by
  unfold W.rq
  rw [cW_rs, List.getElem?_map]
  cases w.rs.l[i.toNat]? <;> rfl
theorem ordG_c : ordG (cW w) = ordG w := by
  unfold ordG
  rw [cW_len]
  simp only [val_c]
theorem cP_an {p : P} (h : p.an = cpI p.an.l) : cP p = p := by unfold cP; rw [← h]
theorem plcs_mcP (hw : Wk w) {pl : List P} {i : Int} (hi : 0 ≤ i ∧ i < w.rs.l.length) : ∀ p ∈ plcs w pl i, (0 ≤ p.req ∧ p.req < w.rs.l.length) ∧ cP p = p := fun p hp => by
  obtain ⟨hpin, hr, _, _, _, han, _⟩ := poss_in hw hi.1 hi.2 (List.mem_filter.1 hp).1
  exact ⟨⟨hpin.r0, hpin.r1⟩, cP_an han⟩
theorem map_cP {l : List P} (h : ∀ p ∈ l, cP p = p) : l.map cP = l := by
  rw [List.map_congr_left h, List.map_id']
theorem gfold_c (hw : Wk w) : ∀ {l : List Int} {pl : List P}, (∀ i ∈ l, 0 ≤ i ∧ i < w.rs.l.length) → (∀ p ∈ pl, (0 ≤ p.req ∧ p.req < w.rs.l.length) ∧ cP p = p) →
    l.foldl (gstep (cW w)) pl = l.foldl (gstep w) pl ∧ ∀ p ∈ l.foldl (gstep w) pl, (0 ≤ p.req ∧ p.req < w.rs.l.length) ∧ cP p = p
  | [], _, _, h => ⟨rfl, h⟩
  | i :: l, pl, hl, h => by
    rw [List.foldl_cons, List.foldl_cons]
    have hi := hl i (by simp)
    have hc : plcs (cW w) pl i = plcs w pl i := by
      have := plcs_c hw hi.1 hi.2 (l := pl) (fun x hx => (h x hx).1)
      rwa [map_cP fun p hp => (h p hp).2] at this
    have hg : gstep (cW w) pl i = gstep w pl i := by unfold gstep; rw [hc]
    rw [hg]
    refine gfold_c hw (fun j hj => hl j (List.mem_cons_of_mem _ hj)) fun p hp => ?_
    unfold gstep at hp
    split at hp
    · exact h p hp
    · rename_i q r hq
      rcases List.mem_append.1 hp with hp | hp
      · exact h p hp
      · rw [List.mem_singleton] at hp; subst hp
        exact plcs_mcP hw hi p (by rw [hq]; simp)
theorem grdG_c (hw : Wk w) : grdG (cW w) = grdG w := by
  unfold grdG pasG
  rw [ordG_c, (gfold_c hw (fun i hi => ordG_mem.1 hi) (by simp)).1]
end
end Go.Ax.Sx.Sc

namespace Go.Ax.Sx.Sc
open Go.Ax
set_option linter.unusedSimpArgs false
set_option linter.unusedVariables false
set_option maxRecDepth 100000

section
variable {s : Sig} {w : W}

theorem l_ScheduleGreedy (hs : Ok s) (hw : w.Ok) (hb : w.Big) : callL AP (.fn 3) [w.v] s = some (B true, s) := by
  have haw : ∀ r, callL AP (.fn 4) [] (s.push r) = some (B true, s.push r) := fun r => l_awake (hs.push r)
  have hfe : ∀ r, callL AP (.fn 5) [w.v] (s.push r) = some (B (fewB w), s.push r) := fun r => l_Few (hs.push r) hw hb
  cases hf : fewB w with
  | false =>
    rw [callL_go (show AP 3 = some c_l_ScheduleGreedy from rfl) rfl]
    simp only [W.v, rowW, Sl.v] at hfe
    simp (maxSteps := 1000000) only [go_sem, b_l_ScheduleGreedy, haw, hfe, hf, Nat.reduceEqDiff, Nat.reduceAdd, ↓reduceIte]
  | true =>
    have hF := fewB_iff hf
    have hcp : ∀ r, callL AP (.fn 7) [w.v] (s.push r) = some ((cW w).v, s.push r) := fun r => r_CopyWeek (hs.push r) hw hF
    have hwe : ∀ r, callL AP (.fn 8) [w.v] (s.push r) = some (I (weekE w).2.2, s.push r) := fun r => r_WeekErr (hs.push r) hw hF
    by_cases h0 : (weekE w).2.2 = 0
    · have hwk : Wk w := ⟨hw, hF, weekE_ok h0⟩
      have hvp := grdG_vp hwk
      obtain ⟨hck, hpl⟩ := VP.chk hwk hvp
      have hpin := hvp.pin hwk
      have hlen : (grdG w).length ≤ 12 := by
        have h1 : (grdG w).length = (pasG w).length := isort_len
        have := pasG_len (w := w)
        have := hwk.v.rl
        omega
      have hpe : (planE w (grdG w)) = (0, 0) := by unfold planE; rw [if_pos h0, hck]
      obtain ⟨o, e, hac, he⟩ := acc_sl (l := grdG w)
      have hsg : ∀ r, callL AP (.fn 6) [(cW w).v] (s.push r) = some (.tuple [.slice o e ((grdG w).map rowP), I 0], s.push r) := fun r => by
        rw [s_Greedy (hs.push r) cW_Ok (cW_Few hF), weekE_c, if_pos h0, grdG_c hwk, h0, hac]
      obtain ⟨o2, e2, hac2, he2⟩ := acc_sl (l := rGr w)
      have hrg : ∀ m : Sig, Ok m → callL AP (.fn 10) [w.v] m = some (.slice o2 e2 ((rGr w).map rowP), m) := fun m hm => by
        rw [r_Greedy hm hwk, hac2]
      have hrg := fun r => hrg (s.push r) (hs.push r)
      have hsame : ∀ m : Sig, Ok m → callL AP (.fn 9) [.slice o e ((grdG w).map rowP), .slice o2 e2 ((rGr w).map rowP)] m = some (B true, m) := fun m hm => by
        have hrq := rGr_eq hwk
        have := r_Same (s := m) (a := grdG w) (b := rGr w) (o1 := o) (e1 := e) (o2 := o2) (e2 := e2) hm he he2
          ⟨by omega, fun p hp => ⟨(hpin p hp).ok, by have := (hpl.ok p hp).2; omega⟩⟩
          (by rw [hrq]; exact ⟨by rw [List.length_map]; omega, fun p hp => by
            obtain ⟨q, hq, rfl⟩ := List.mem_map.1 hp
            exact ⟨stS_ok, by show q.an.l.length ≤ 1000; have := (hpl.ok q hq).2; omega⟩⟩)
        rw [this, hrq]
        have hm := sameF_map (f := id) (g := reP w) (fun p => rfl) (l := grdG w)
        rw [List.map_id] at hm
        rw [hm]
      have hsame := fun r => hsame (s.push r) (hs.push r)
      obtain ⟨x1, g1, tk1, hc1, hA1, _⟩ := r_Copy (o := o) (Q := s) (tk := []) hs hpl he
      obtain ⟨o1, e1, rfl, he1⟩ := acc_val hA1
      have he1' : (grdG w).map cP = [] ∨ e1 = 3 := by rcases he1 with h | h; exact .inl (by simpa using h); exact .inr h
      have hcl : ∀ r, callL AP (.fn 11) [(cW w).v, .slice o1 e1 (((grdG w).map cP).map rowP)] (s.push r) = some (.tuple [I 0, I 0], s.push r) := fun r => by
        rw [s_CheckPlan (hs.push r) cW_Ok (cW_Few hF) (cP_ok hpl) he1', planE_c, hpe]
      have hpo : ∀ (i : Int) (m : Sig), callL AP (.fn 13) [.slice o e ((grdG w).map rowP), I i] m = some (I (findI (fun p : P => decide (p.req = i)) (grdG w)), m) := fun i m => r_PassOf he (by omega)
      have hrp : ∀ (i : Int) m, Ok m → 0 ≤ i → i < w.rs.l.length → callL AP (.fn 14) [w.v, .slice o e ((grdG w).map rowP), I i] m = some (accV 3 (((plcs w (grdG w) i).map (reS (w.rq i).need.toNat)).map rowP), m) := fun i m hm h0 h1 => r_Placements hm hwk h0 h1 he (by omega) hpin
      have hmax := fun {i : Int} (h0 : 0 ≤ i) (h1 : i < w.rs.l.length) => grdG_max hwk h0 h1
      rw [h0] at hwe
      generalize (((grdG w).map cP).map rowP) = Z1 at *
      have hrl := hwk.v.rl
      have key : ∀ (k : Nat) ρ m, k ≤ w.rs.l.length → (ρ 1 = .ptr s.acts.length 0 0 ∧ ρ 3 = .slice o e ((grdG w).map rowP) ∧ ρ 8 = I k ∧ ∃ bx tk, m = s.push ⟨rowW w :: bx, tk⟩) →
          go AP f_l_ScheduleGreedy (.c (.loop b_l_ScheduleGreedy_l0) :: k_l_ScheduleGreedy_0) ⟨ρ, m⟩ = some (B true, s) := by
        refine loop_up w.rs.l.length _ _ ?_ ?_
        · rintro k ρ m hk ⟨q1, q3, q8, bx, tk, rfl⟩ ih
          have hwk1 := wrap_succ hk (show (w.rs.l.length : Int) < _ by omega)
          have hrp := fun m hm => hrp (k : Int) m hm (by omega) (by omega)
          have hpo := fun m => hpo (k : Int) m
          have hmax := hmax (i := (k : Int)) (by omega) (by omega)
          have hfc := findI_cases (fun p : P => decide (p.req = (k : Int))) (grdG w)
          generalize hZ : (grdG w).map rowP = Z at *
          rcases hfc with ⟨ha, hfi⟩ | ⟨ha, j, x, hj, _, hfi, _⟩
          · have hem : plcs w (grdG w) (k : Int) = [] := by
              rcases hmax with ⟨p, hp, e⟩ | h
              · exact absurd (List.any_eq_false.1 ha p hp) (by simp [e])
              · exact h
            rw [hem] at hrp
            rw [hfi] at hpo
            have hrp : ∀ m, Ok m → callL AP (.fn 14) [w.v, .slice o e Z, I (k : Int)] m = some (.slice .nilS 0 [], m) := hrp
            have hd1 : decide ((-1 : Int) < 0) = true := rfl
            have hd2 : decide ((0 : Int) < 0) = false := rfl
            simp only [W.v, rowW, Sl.v] at hrp
            have hrp := fun r => hrp (s.push r) (hs.push r)
            simp (maxSteps := 1000000) only [go_sem, b_l_ScheduleGreedy_l0, q1, q3, q8, lt_dec hk, hpo, hrp, hwk1, Nat.reduceEqDiff, Nat.reduceAdd, Int.reduceLT, Int.reduceNeg, Int.cast_ofNat_Int, ↓reduceIte]
            refine ih _ _ ?_
            exact ⟨q1, q3, rfl, bx, tk, rfl⟩
          · rw [hfi] at hpo
            have hd1 : decide ((j : Int) < 0) = false := by simp
            simp (maxSteps := 1000000) only [go_sem, b_l_ScheduleGreedy_l0, q1, q3, q8, lt_dec hk, hpo, hd1, hwk1, Nat.reduceEqDiff, Nat.reduceAdd, ↓reduceIte]
            refine ih _ _ ?_
            exact ⟨q1, q3, rfl, bx, tk, rfl⟩
        · rintro ρ m ⟨q1, q3, q8, bx, tk, rfl⟩
          simp (maxSteps := 1000000) only [go_sem, b_l_ScheduleGreedy_l0, b_l_ScheduleGreedy_r0, q1, q8, ge_dec, Nat.reduceEqDiff, Nat.reduceAdd, ↓reduceIte]
      simp only [W.v, rowW, Sl.v] at hfe hcp hsg hrg hwe hcl key
      generalize (grdG w).map rowP = Z at *
      rw [callL_go (show AP 3 = some c_l_ScheduleGreedy from rfl) rfl]
      simp (maxSteps := 1000000) only [go_sem, b_l_ScheduleGreedy, haw, hfe, hf, hcp, hsg, hwe, hrg, hsame, hc1, hcl, ne_eq, not_true, Bool.not_true, Nat.reduceEqDiff, Nat.reduceAdd, ↓reduceIte]
      refine key 0 _ _ (Nat.zero_le _) ?_
      exact ⟨rfl, rfl, rfl, _, _, rfl⟩
    · have hsg : ∀ r, callL AP (.fn 6) [(cW w).v] (s.push r) = some (.tuple [.slice .nilS 0 [], I (weekE w).2.2], s.push r) := fun r => by
        rw [s_Greedy (hs.push r) cW_Ok (cW_Few hF), weekE_c, if_neg h0]; rfl
      simp only [W.v, rowW, Sl.v] at hfe hcp hsg hwe
      rw [callL_go (show AP 3 = some c_l_ScheduleGreedy from rfl) rfl]
      simp (maxSteps := 1000000) only [go_sem, b_l_ScheduleGreedy, haw, hfe, hf, hcp, hsg, hwe, h0, ne_eq, not_false_iff, decide_true, Bool.not_true, Nat.reduceEqDiff, Nat.reduceAdd, Int.cast_ofNat_Int, ↓reduceIte]
end
end Go.Ax.Sx.Sc

namespace Go.Ax.Sx.Sc
open Go.Ax

section
variable {P : Program} {d : Nat}

def Flds (P : Program) (t : TypeId) (ts : List TypeId) : Prop := ∃ fs : Array Field, P.underlying t = some (.struct fs) ∧ fs.toList.map (·.type) = ts

theorem shp_flds {t : TypeId} {ts : List TypeId} {avs : List AV} (hf : Flds P t ts) (h : Shp P (d + 1) t avs) :
    ∃ ps : List (List AV), avs = ps.flatten ∧ ps.length = ts.length ∧ ∀ (i : Nat) (u : TypeId) (p : List AV), ts[i]? = some u → ps[i]? = some p → Shp P d u p := by
  obtain ⟨fs, hu, rfl⟩ := hf
  obtain ⟨ps, h1, h2, h3⟩ := shp_struct hu h
  refine ⟨ps, h1, by simp [h2], fun i u p hi hp => ?_⟩
  rw [List.getElem?_map] at hi
  obtain ⟨f, hf, rfl⟩ := Option.map_eq_some_iff.1 hi
  exact h3 i f p (by simpa using hf) hp

/-- The types of a week. -/
structure WkT (P : Program) (ti ts tg tgs tis ta tas tr trs tw : TypeId) : Prop where
  i : P.underlying ti = some (.int .i64)
  s : P.underlying ts = some .string
  g : Flds P tg [ti, ti]
  gs : P.underlying tgs = some (.slice tg)
  gc : P.cellsOf tg = 2
  is : P.underlying tis = some (.slice ti)
  ic : P.cellsOf ti = 1
  a : Flds P ta [ts, ti, tgs]
  sa : P.underlying tas = some (.slice ta)
  ac : P.cellsOf ta = 3
  r : Flds P tr [ts, tg, ti, ti, tis, ti]
  sr : P.underlying trs = some (.slice tr)
  rc : P.cellsOf tr = 7
  w : Flds P tw [ti, tas, trs]

variable {ti ts tg tgs tis ta tas tr trs tw : TypeId}

theorem maxLen_lt {n : Nat} (h : n ≤ maxLen) : (n : Int) < 9223372036854775808 := by unfold maxLen at h; omega

theorem shp_rng (T : WkT P ti ts tg tgs tis ta tas tr trs tw) {avs : List AV} (h : Shp P (d + 2) tg avs) : ∃ x : Int × Int, avs = rowG x ∧ True := by
  obtain ⟨ps, rfl, hl, hp⟩ := shp_flds T.g h
  match ps, hl, hp with
  | [p0, p1], _, hp =>
    obtain ⟨a, rfl, _⟩ := shp_int T.i (hp 0 _ p0 rfl rfl)
    obtain ⟨b, rfl, _⟩ := shp_int T.i (hp 1 _ p1 rfl rfl)
    exact ⟨(a, b), rfl, trivial⟩

theorem own_ok {o : Own} {rows : List (List AV)} (h : o = .any ∨ (o = .nilS ∧ rows = [])) : o = .any ∨ (o = .nilS ∧ rows = []) := h

theorem shp_ints (T : WkT P ti ts tg tgs tis ta tas tr trs tw) {avs : List AV} (h : Shp P (d + 2) tis avs) : ∃ x : Sl Int, avs = [x.v rowI] ∧ x.ok 1 ∧ (x.l.length : Int) < 9223372036854775808 := by
  obtain ⟨o, rows, rfl, ho, hlen, hrows⟩ := shp_slice T.is h
  obtain ⟨l, rfl, _⟩ := rows_eq (f := rowI) (g := fun _ => True) (fun r hr => by
    obtain ⟨x, hx, _⟩ := shp_int T.i (hrows r hr)
    exact ⟨x, hx, trivial⟩)
  rw [List.length_map] at hlen
  rw [T.ic]
  refine ⟨⟨o, 1, l⟩, rfl, ?_, maxLen_lt hlen⟩
  rcases ho with rfl | ⟨rfl, h⟩
  · exact ⟨.inr rfl, .inl rfl⟩
  · exact ⟨.inr rfl, .inr (.inr ⟨rfl, List.map_eq_nil_iff.1 (by assumption)⟩)⟩

theorem shp_rngs (T : WkT P ti ts tg tgs tis ta tas tr trs tw) {avs : List AV} (h : Shp P (d + 3) tgs avs) : ∃ x : Sl (Int × Int), avs = [x.v rowG] ∧ x.ok 2 ∧ (x.l.length : Int) < 9223372036854775808 := by
  obtain ⟨o, rows, rfl, ho, hlen, hrows⟩ := shp_slice T.gs h
  obtain ⟨l, rfl, _⟩ := rows_eq (f := rowG) (g := fun _ => True) (fun r hr => shp_rng T (hrows r hr))
  rw [List.length_map] at hlen
  rw [T.gc]
  refine ⟨⟨o, 2, l⟩, rfl, ?_, maxLen_lt hlen⟩
  rcases ho with rfl | ⟨rfl, h⟩
  · exact ⟨.inr rfl, .inl rfl⟩
  · exact ⟨.inr rfl, .inr (.inr ⟨rfl, List.map_eq_nil_iff.1 (by assumption)⟩)⟩

theorem shp_ant (T : WkT P ti ts tg tgs tis ta tas tr trs tw) {avs : List AV} (h : Shp P (d + 4) ta avs) :
    ∃ a : A, avs = rowA a ∧ (a.cl.ok 2 ∧ (a.name.size : Int) < 9223372036854775808 ∧ (a.cl.l.length : Int) < 9223372036854775808) := by
  obtain ⟨ps, rfl, hl, hp⟩ := shp_flds T.a h
  match ps, hl, hp with
  | [p0, p1, p2], _, hp =>
    obtain ⟨n, rfl, hn⟩ := shp_str T.s (hp 0 _ p0 rfl rfl)
    obtain ⟨b, rfl, _⟩ := shp_int T.i (hp 1 _ p1 rfl rfl)
    obtain ⟨c, rfl, hc, hcl⟩ := shp_rngs T (hp 2 _ p2 rfl rfl)
    exact ⟨⟨n, b, c⟩, rfl, hc, maxLen_lt hn, hcl⟩

theorem shp_req (T : WkT P ti ts tg tgs tis ta tas tr trs tw) {avs : List AV} (h : Shp P (d + 4) tr avs) :
    ∃ r : R, avs = rowR r ∧ (r.an.ok 1 ∧ (r.mis.size : Int) < 9223372036854775808 ∧ (r.an.l.length : Int) < 9223372036854775808) := by
  obtain ⟨ps, rfl, hl, hp⟩ := shp_flds T.r h
  match ps, hl, hp with
  | [p0, p1, p2, p3, p4, p5], _, hp =>
    obtain ⟨n, rfl, hn⟩ := shp_str T.s (hp 0 _ p0 rfl rfl)
    obtain ⟨g, rfl, _⟩ := shp_rng T (hp 1 _ p1 rfl rfl)
    obtain ⟨b, rfl, _⟩ := shp_int T.i (hp 2 _ p2 rfl rfl)
    obtain ⟨c, rfl, _⟩ := shp_int T.i (hp 3 _ p3 rfl rfl)
    obtain ⟨x, rfl, hx, hxl⟩ := shp_ints T (hp 4 _ p4 rfl rfl)
    obtain ⟨e, rfl, _⟩ := shp_int T.i (hp 5 _ p5 rfl rfl)
    exact ⟨⟨n, g.1, g.2, b, c, x, e⟩, rfl, hx, maxLen_lt hn, hxl⟩

theorem shp_week (T : WkT P ti ts tg tgs tis ta tas tr trs tw) {avs : List AV} (h : Shp P (d + 6) tw avs) : ∃ w : W, AV.agg avs = w.v ∧ w.Ok ∧ w.Big := by
  obtain ⟨ps, rfl, hl, hp⟩ := shp_flds T.w h
  match ps, hl, hp with
  | [p0, p1, p2], _, hp =>
    obtain ⟨n, rfl, _⟩ := shp_int T.i (hp 0 _ p0 rfl rfl)
    obtain ⟨o1, r1, rfl, ho1, hl1, hr1⟩ := shp_slice T.sa (hp 1 _ p1 rfl rfl)
    obtain ⟨o2, r2, rfl, ho2, hl2, hr2⟩ := shp_slice T.sr (hp 2 _ p2 rfl rfl)
    obtain ⟨as, rfl, has⟩ := rows_eq (fun r hr => shp_ant T (hr1 r hr))
    obtain ⟨rs, rfl, hrs⟩ := rows_eq (fun r hr => shp_req T (hr2 r hr))
    rw [List.length_map] at hl1 hl2
    rw [T.ac, T.rc]
    refine ⟨⟨n, ⟨o1, 3, as⟩, ⟨o2, 7, rs⟩⟩, rfl, ⟨?_, fun a ha => (has a ha).1, ?_, fun r hr => (hrs r hr).1⟩, ⟨maxLen_lt hl1, maxLen_lt hl2, fun a ha => (has a ha).2.1, fun a ha => (has a ha).2.2, fun r hr => (hrs r hr).2.1, fun r hr => (hrs r hr).2.2⟩⟩
    · rcases ho1 with rfl | ⟨rfl, h⟩
      · exact ⟨.inr rfl, .inl rfl⟩
      · exact ⟨.inr rfl, .inr (.inr ⟨rfl, List.map_eq_nil_iff.1 (by assumption)⟩)⟩
    · rcases ho2 with rfl | ⟨rfl, h⟩
      · exact ⟨.inr rfl, .inl rfl⟩
      · exact ⟨.inr rfl, .inr (.inr ⟨rfl, List.map_eq_nil_iff.1 (by assumption)⟩)⟩
end
end Go.Ax.Sx.Sc
