/-
  What a week is among the values that an argument may read as.
-/
import Derived.Test.YtchenadpkldjdaaGreatDoorT13
import Derived.Test.YtchenadpkldjdaaGreatDoorT12
import Derived.Test.YtchenadpkldjdaaGreatDoorT7
namespace Go.Ax.Sx.Sc
open Go.Ax
set_option linter.unusedSimpArgs false
set_option linter.unusedVariables false
set_option maxRecDepth 100000
section
variable {s : Sig} {w : W}

/-- An appending that may be of nothing. -/
theorem acc_app {es : Nat} {xs : List (List AV)} {x : AV} {og : Option Nat} {toks : List (Option Nat)} (h : Acc s.acts.length es xs x og toks) (hs : Ok s) (o : Own) {ys : List (List AV)} (hl : xs.length + ys.length ≤ 4294967296) :
    ∃ x' og' toks', (∀ boxes, appendOp (s.push ⟨boxes, toks⟩) es x (.slice o es ys) = some (x', s.push ⟨boxes, toks'⟩)) ∧ Acc s.acts.length es (xs ++ ys) x' og' toks' := by
  by_cases hy : ys = []
  · subst hy
    obtain ⟨oa, ea, ra, rfl⟩ := Acc.sl h
    exact ⟨.slice oa ea ra, og, toks, fun b => by simp [appendOp], by rw [List.append_nil]; exact h⟩
  · obtain ⟨x', og', tk, h1, h2, _, _⟩ := h.append hs o hy hl
    exact ⟨x', og', tk, h1, h2⟩

theorem l_SchedulePlacements {l : List P} {o : Own} {e : Nat} {i : Int} (hs : Ok s) (hw : w.Ok) (hb : w.Big) (hl : PBig l) (he : e = 3) (hi : inI i) : callL AP (.fn 3) [w.v, .slice o e (l.map rowP), I i] s = some (B true, s) := by
  subst he
  have haw : ∀ r, callL AP (.fn 4) [] (s.push r) = some (B true, s.push r) := fun r => l_awake (hs.push r)
  have hfe : ∀ r, callL AP (.fn 5) [w.v] (s.push r) = some (B (fewB w), s.push r) := fun r => l_Few (hs.push r) hw hb
  have hsh : ∀ m : Sig, callL AP (.fn 6) [.slice o 3 (l.map rowP)] m = some (B (shortB l), m) := fun m => l_short hl (.inr rfl)
  by_cases hf : fewB w = true
  · by_cases hf2 : shortB l = true
    · have hF := fewB_iff hf
      have hP := shortB_ok hl hf2
      have hcp : ∀ r, callL AP (.fn 8) [w.v] (s.push r) = some ((cW w).v, s.push r) := fun r => r_CopyWeek (hs.push r) hw hF
      obtain ⟨x1, q1, tk1, hc1, hA1, _⟩ := r_Copy (o := o) (e := 3) (Q := s) (tk := []) hs hP (.inr rfl)
      obtain ⟨o1, e1, rfl, he1⟩ := acc_val hA1
      have he1' : l.map cP = [] ∨ e1 = 3 := by rcases he1 with h | h; exact .inl (by simpa using h); exact .inr h
      have hpl : ∀ r, callL AP (.fn 7) [(cW w).v, .slice o1 e1 ((l.map cP).map rowP), I i] (s.push r) = some (.tuple [accV 3 ((if plcE w l i = 0 then plcs (cW w) (l.map cP) i else []).map rowP), I (plcE w l i)], s.push r) := fun r => by
        rw [s_Placements (hs.push r) cW_Ok (cW_Few hF) (cP_ok hP) he1', plcE_c]
      have hpe : ∀ r, callL AP (.fn 10) [w.v, .slice o 3 (l.map rowP)] (s.push r) = some (I (planE w l).2, s.push r) := fun r => r_PlanErr (hs.push r) hw hF hP (.inr rfl)
      have hnil : lenOp false (accV 3 (([] : List P).map rowP)) = some (I 0) := rfl
      simp only [W.v, rowW, Sl.v] at hfe hcp hpl hpe
      by_cases h0 : (planE w l).2 = 0
      · have hwz : (weekE w).2.2 = 0 := by
          by_cases h : (weekE w).2.2 = 0
          · exact h
          · unfold planE at h0; rw [if_neg h] at h0; exact absurd h0 h
        have hwk : Wk w := ⟨hw, hF, weekE_ok hwz⟩
        have hcz : (chkE w l).2 = 0 := by unfold planE at h0; rwa [if_pos hwz] at h0
        have hin := chk_pin hwk hP hcz
        rw [h0] at hpe
        have hre : ∀ r, callL AP (.fn 11) [w.v, .slice .full 1 [[I i]]] (s.push r) = some (I (reqsE w.rs.l.length (-1) [i]), s.push r) := fun r => r_RequestsErr (l := [i]) (hs.push r) hF.rs (.inr rfl) (by simp)
        have hpa : ∀ m : Sig, callL AP (.fn 12) [.slice o 3 (l.map rowP), I i] m = some (I (findI (fun p : P => decide (p.req = i)) l), m) := fun m => r_PassOf (.inr rfl) (by have := hP.len; omega)
        simp only [W.v, rowW, Sl.v] at hre
        cases h1 : wi i 0 (w.rs.l.length - 1) with
        | false =>
          have hr1 : reqsE w.rs.l.length (-1) [i] = 6 := by simp only [reqsE]; rw [if_neg (by rw [h1]; decide)]
          have hpz : plcE w l i = 6 := by unfold plcE; rw [if_pos h0, if_neg (by rw [h1]; decide)]
          rw [hpz, if_neg (by decide)] at hpl
          rw [hr1] at hre
          rw [callL_go (show AP 3 = some c_l_SchedulePlacements from rfl) rfl]
          simp (maxSteps := 1000000) only [go_sem, b_l_SchedulePlacements, hs, haw, hfe, hf, hsh, hf2, hcp, hc1, hpl, hpe, hre, hnil, W.v, rowW, Sl.v, ne_eq, not_true, not_false_iff, decide_true, decide_not, Bool.not_true, Nat.reduceEqDiff, reduceCtorEq, Nat.reduceAdd, Nat.reduceMul, Nat.reduceSub, Int.reduceLT, Int.reduceLE, Int.reduceEq, Int.reduceAdd, Int.reduceSub, Int.reduceNeg, Int.reduceToNat, Int.cast_ofNat_Int, ↓reduceIte]
        | true =>
          obtain ⟨hi0, hi1⟩ := wi_iff.1 h1
          have hi1' : i < w.rs.l.length := by omega
          have hr1 : reqsE w.rs.l.length (-1) [i] = 0 := by simp only [reqsE]; rw [if_pos h1, if_pos (by omega)]
          rw [hr1] at hre
          have hfo := findI_pOf (l := l) (i := i)
          cases h2 : (pOf l i).isSome with
          | true =>
            have hpz : plcE w l i = 25 := by unfold plcE; rw [if_pos h0, if_pos h1, if_pos h2]
            rw [hpz, if_neg (by decide)] at hpl
            rw [h2] at hfo
            rw [callL_go (show AP 3 = some c_l_SchedulePlacements from rfl) rfl]
            simp (maxSteps := 1000000) only [go_sem, b_l_SchedulePlacements, hs, haw, hfe, hf, hsh, hf2, hcp, hc1, hpl, hpe, hre, hpa, hfo, hnil, W.v, rowW, Sl.v, ne_eq, not_true, not_false_iff, decide_true, decide_not, Bool.not_true, Nat.reduceEqDiff, reduceCtorEq, Nat.reduceAdd, Nat.reduceMul, Nat.reduceSub, Int.reduceLT, Int.reduceLE, Int.reduceEq, Int.reduceAdd, Int.reduceSub, Int.reduceNeg, Int.reduceToNat, Int.cast_ofNat_Int, ↓reduceIte]
          | false =>
            have hpz : plcE w l i = 0 := by unfold plcE; rw [if_pos h0, if_pos h1, if_neg (by rw [h2]; decide)]
            rw [hpz, if_pos rfl, plcs_c hwk hi0 hi1' (fun x hx => ⟨(hin x hx).r0, (hin x hx).r1⟩)] at hpl
            rw [h2] at hfo
            have hrp : ∀ r, callL AP (.fn 13) [w.v, .slice o 3 (l.map rowP), I i] (s.push r) = some (accV 3 (((plcs w l i).map (reS (w.rq i).need.toNat)).map rowP), s.push r) := fun r => r_Placements (hs.push r) hwk hi0 hi1' (.inr rfl) hP.len hin
            have hins := fun x hx => ins_ok (n := (w.rq i).need.toNat) hwk hP hi0 hi1' hcz h2 (x := x) hx
            have hXl : (plcs w l i).length ≤ 13000 := Nat.le_trans (List.length_filter_le _ _) (poss_count hwk hi0 hi1')
            have hXo : ∀ x ∈ plcs w l i, x.an.ok 1 ∧ x.an.l.length ≤ 6 := by
              intro x hx
              obtain ⟨hxp, _⟩ := List.mem_filter.1 hx
              obtain ⟨hpin, _, _, _, _, _, hsub, _⟩ := poss_in hwk hi0 hi1' hxp
              have := hF.an _ (W.rq_mem hi0 hi1')
              have := hsub.length_le
              exact ⟨hpin.ok, by omega⟩
            generalize (w.rq i).need.toNat = n at *
            generalize plcs w l i = X at *
            have hsm1 : SmOk X := ⟨by omega, fun p hp => ⟨(hXo p hp).1, by have := (hXo p hp).2; omega⟩⟩
            have hsm2 : SmOk (X.map (reS n)) := ⟨by rw [List.length_map]; omega, fun p hp => by
              obtain ⟨q, hq, rfl⟩ := List.mem_map.1 hp
              exact ⟨stS_ok, by show q.an.l.length ≤ 1000; have := (hXo q hq).2; omega⟩⟩
            obtain ⟨oa, ea, hva, hea⟩ : ∃ o e, accV 3 (X.map rowP) = .slice o e (X.map rowP) ∧ (X = [] ∨ e = 3) := by
              cases X with
              | nil => exact ⟨_, _, rfl, .inl rfl⟩
              | cons a r => exact ⟨_, _, rfl, .inr rfl⟩
            obtain ⟨ob, eb, hvb, heb⟩ : ∃ o e, accV 3 ((X.map (reS n)).map rowP) = .slice o e ((X.map (reS n)).map rowP) ∧ (X.map (reS n) = [] ∨ e = 3) := by
              cases X with
              | nil => exact ⟨_, _, rfl, .inl rfl⟩
              | cons a r => exact ⟨_, _, rfl, .inr rfl⟩
            have hsame : ∀ r, callL AP (.fn 14) [.slice oa ea (X.map rowP), .slice ob eb ((X.map (reS n)).map rowP)] (s.push r) = some (B true, s.push r) := fun r => by
              rw [r_Same (hs.push r) hea heb hsm1 hsm2]
              have := sameF_map (f := id) (g := reS n) (fun p => rfl) (l := X)
              rw [List.map_id] at this
              rw [this]
            rw [hva] at hpl
            rw [hvb] at hrp
            have loop : ∀ (k : Nat) ρ m, k ≤ min X.length 20 → (ρ 1 = .slice o 3 (l.map rowP) ∧ ρ 2 = I i ∧ ρ 3 = .ptr s.acts.length 0 0 ∧ ρ 10 = .slice ob eb ((X.map (reS n)).map rowP) ∧ ρ 11 = I k ∧ ∃ tk, m = s.push ⟨[rowW w], tk⟩) →
                go AP f_l_SchedulePlacements (.c (.loop b_l_SchedulePlacements_l0) :: k_l_SchedulePlacements_0) ⟨ρ, m⟩ = some (B true, s) := by
              refine loop_up (min X.length 20) _ _ ?_ ?_
              · rintro k ρ m hk ⟨g1, g2, g3, g10, g11, tk, rfl⟩ ih
                obtain ⟨x, hx⟩ := get_some (l := X) (k := k) (by omega)
                have heb3 : eb = 3 := by rcases heb with h | h; (rw [List.map_eq_nil_iff] at h; rw [h] at hx; simp at hx); exact h
                subst heb3
                obtain ⟨hmc, hmP⟩ := hins x (List.mem_of_getElem? hx)
                have hxi : indexAddrOp none 3 (.slice ob 3 ((X.map (reS n)).map rowP)) (I k) = some (.eptr (rowP (reS n x)) 0) := ix_map (f := rowP) (by rw [List.getElem?_map, hx]; rfl)
                have hcl : closeAll [I x.req, I x.start, (stS n x.an.l).v rowI] = some (rowP (reS n x)) := by
                  simp only [closeAll_cons, closeAll_nil, close_int, Sl.close (f := rowI) (stS_ok (n := n) (g := x.an.l))]; rfl
                have d1 : decide ((k : Int) < (X.length : Int)) = true := by simp; omega
                have d2 : decide ((k : Int) < 20) = true := by simp; omega
                have hat := atN_le (l := l) (i := i)
                have hlen := hP.len
                obtain ⟨od, hsl⟩ := slice_drop (f := rowP) (o := o) (es := 3) (k := atN l i) (l := l) hat
                simp only [rowP, Sl.v, reS] at hcl hxi
                have inner : ∀ (j : Nat) ρ m, j ≤ atN l i → (ρ 1 = .slice o 3 (l.map rowP) ∧ ρ 2 = I i ∧ ρ 3 = .ptr s.acts.length 0 0 ∧ ρ 10 = .slice ob 3 ((X.map (reS n)).map rowP) ∧ ρ 11 = I k ∧ ρ 13 = I j ∧ ∃ y og tk, Acc s.acts.length 3 ((l.take j).map rowP) y og tk ∧ ρ 12 = y ∧ m = s.push ⟨[rowW w], tk⟩) →
                    go AP f_l_SchedulePlacements (.c (.loop b_l_SchedulePlacements_l1) :: k_l_SchedulePlacements_1) ⟨ρ, m⟩ = some (B true, s) := by
                  refine loop_up (atN l i) _ _ ?_ ?_
                  · rintro j ρ m hj ⟨g1, g2, g3, g10, g11, g13, y, og, tk, hA, g12, rfl⟩ ih2
                    obtain ⟨p, hp⟩ := get_some (l := l) (k := j) (by omega)
                    have hpr := atN_lt hj hp
                    have d3 : decide ((j : Int) < (l.length : Int)) = true := by simp; omega
                    have hpx := ix_map (f := rowP) (o := o) (es := 3) hp
                    have hpo := (hP.ok p (List.mem_of_getElem? hp)).1
                    have hcq : closeAll [I p.req, I p.start, p.an.v rowI] = some (rowP p) := by
                      simp only [closeAll_cons, closeAll_nil, close_int, Sl.close (f := rowI) hpo]; rfl
                    obtain ⟨y2, og2, tk2, ha1, ha2, _, _⟩ := hA.append hs .full (ys := [rowP p]) (by simp) (by rw [List.length_map, List.length_take, List.length_singleton]; omega)
                    obtain ⟨oc, ec, rc, rfl⟩ := Acc.sl hA
                    obtain ⟨oe, ee, re, rfl⟩ := Acc.sl ha2
                    simp only [rowP, Sl.v] at ha1 hcq hpx
                    simp (maxSteps := 1000000) only [go_sem, b_l_SchedulePlacements_l1, g1, g2, g3, g10, g11, g12, g13, hs, d3, hpx, hpr, hcq, ha1, wrap_succ hj (show ((atN l i : Nat) : Int) < _ by omega), Nat.reduceEqDiff, reduceCtorEq, Nat.reduceAdd, Nat.reduceMul, Nat.reduceSub, Int.reduceLT, Int.reduceLE, Int.reduceEq, Int.reduceAdd, Int.reduceSub, Int.reduceNeg, Int.reduceToNat, Int.cast_ofNat_Int, ↓reduceIte]
                    refine ih2 _ _ ?_
                    refine ⟨g1, g2, g3, g10, g11, rfl, _, og2, tk2, ?_, rfl, rfl⟩
                    rw [take_get hp, List.map_append]; exact ha2
                  · rintro ρ m ⟨g1, g2, g3, g10, g11, g13, y, og, tk, hA, g12, rfl⟩
                    have htl : (l.take (atN l i)).length = atN l i := by rw [List.length_take]; omega
                    have hyl : lenOp false y = some (I (atN l i)) := by rw [hA.len, List.length_map, htl]
                    obtain ⟨y2, og2, tk2, ha1, ha2, _, _⟩ := hA.append hs .full (ys := [rowP (reS n x)]) (by simp) (by rw [List.length_map, htl, List.length_singleton]; omega)
                    obtain ⟨y3, og3, tk3, hb1, hb2⟩ := acc_app ha2 hs od (ys := (l.drop (atN l i)).map rowP) (by rw [List.length_append, List.length_map, htl, List.length_singleton, List.length_map, List.length_drop]; omega)
                    have hmore : (l.take (atN l i)).map rowP ++ [rowP (reS n x)] ++ (l.drop (atN l i)).map rowP = (l.take (atN l i) ++ reS n x :: l.drop (atN l i)).map rowP := by simp
                    rw [hmore] at hb2
                    obtain ⟨o3, e3, rfl, he3⟩ := acc_val hb2
                    have he3' : e3 = 3 := by rcases he3 with h | h; exact absurd h (by simp); exact h
                    subst he3'
                    generalize hmm : l.take (atN l i) ++ reS n x :: l.drop (atN l i) = more at *
                    obtain ⟨x4, q4, tk4, hc3, hA4, _⟩ := r_Copy (o := o3) (e := 3) (Q := s) (tk := tk3) hs hmP (.inr rfl)
                    obtain ⟨o4, e4, rfl, he4⟩ := acc_val hA4
                    have he4' : more.map cP = [] ∨ e4 = 3 := by rcases he4 with h | h; exact .inl (by simpa using h); exact .inr h
                    have hpz4 : planE w more = chkE w more := by unfold planE; rw [if_pos hwz]
                    have hck : ∀ r, callL AP (.fn 15) [(cW w).v, .slice o4 e4 ((more.map cP).map rowP)] (s.push r) = some (.tuple [I (chkE w more).1, I 0], s.push r) := fun r => by
                      rw [s_CheckPlan (hs.push r) cW_Ok (cW_Few hF) (cP_ok hmP) he4', planE_c, hpz4, hmc]
                    obtain ⟨oc, ec, rc, rfl⟩ := Acc.sl hA
                    obtain ⟨oe, ee, re, rfl⟩ := Acc.sl ha2
                    simp only [rowP, Sl.v, W.v, rowW, reS] at ha1 hck hsl hb1
                    rcases Nat.lt_or_ge (atN l i) l.length with hlt | hge
                    · obtain ⟨p, hp⟩ := get_some (l := l) (k := atN l i) hlt
                      have hpr := atN_ge hp
                      have d3 : decide ((atN l i : Int) < (l.length : Int)) = true := by simp; omega
                      have hpx := ix_map (f := rowP) (o := o) (es := 3) hp
                      simp only [rowP, Sl.v] at hpx
                      have d4 : decide (p.req < i) = false := by simp; omega
                      simp (maxSteps := 1000000) only [go_sem, b_l_SchedulePlacements_l1, b_l_SchedulePlacements_r1, b_l_SchedulePlacements_r2, g1, g2, g3, g10, g11, g12, g13, hs, d3, hpx, d4, hyl, hxi, hcl, ha1, hsl, hb1, hcp, hc3, hck, ne_eq, not_true, wrap_succ hk (show ((min X.length 20 : Nat) : Int) < _ by omega), Nat.reduceEqDiff, reduceCtorEq, Nat.reduceAdd, Nat.reduceMul, Nat.reduceSub, Int.reduceLT, Int.reduceLE, Int.reduceEq, Int.reduceAdd, Int.reduceSub, Int.reduceNeg, Int.reduceToNat, Int.cast_ofNat_Int, ↓reduceIte]
                      refine ih _ _ ?_
                      exact ⟨g1, g2, g3, g10, rfl, _, rfl⟩
                    · have d3 : decide ((atN l i : Int) < (l.length : Int)) = false := by simp; omega
                      simp (maxSteps := 1000000) only [go_sem, b_l_SchedulePlacements_l1, b_l_SchedulePlacements_r1, b_l_SchedulePlacements_r2, g1, g2, g3, g10, g11, g12, g13, hs, d3, hyl, hxi, hcl, ha1, hsl, hb1, hcp, hc3, hck, ne_eq, not_true, wrap_succ hk (show ((min X.length 20 : Nat) : Int) < _ by omega), Nat.reduceEqDiff, reduceCtorEq, Nat.reduceAdd, Nat.reduceMul, Nat.reduceSub, Int.reduceLT, Int.reduceLE, Int.reduceEq, Int.reduceAdd, Int.reduceSub, Int.reduceNeg, Int.reduceToNat, Int.cast_ofNat_Int, ↓reduceIte]
                      refine ih _ _ ?_
                      exact ⟨g1, g2, g3, g10, rfl, _, rfl⟩
                simp (maxSteps := 1000000) only [go_sem, b_l_SchedulePlacements_l0, b_l_SchedulePlacements_r0, g1, g2, g3, g10, g11, hs, d1, d2, List.length_map, Nat.reduceEqDiff, reduceCtorEq, Nat.reduceAdd, Nat.reduceMul, Nat.reduceSub, Int.reduceLT, Int.reduceLE, Int.reduceEq, Int.reduceAdd, Int.reduceSub, Int.reduceNeg, Int.reduceToNat, Int.cast_ofNat_Int, ↓reduceIte]
                refine inner 0 _ _ (Nat.zero_le _) ?_
                exact ⟨g1, g2, g3, g10, g11, rfl, _, none, tk, Acc.start, rfl, rfl⟩
              · rintro ρ m ⟨g1, g2, g3, g10, g11, tk, rfl⟩
                have hd : decide (((min X.length 20 : Nat) : Int) < (X.length : Int)) = false ∨ (decide (((min X.length 20 : Nat) : Int) < (X.length : Int)) = true ∧ decide (((min X.length 20 : Nat) : Int) < 20) = false) := by
                  by_cases h : X.length ≤ 20
                  · left; simp; omega
                  · right; constructor <;> simp <;> omega
                rcases hd with hd | ⟨hd, hd2⟩
                · simp (maxSteps := 1000000) only [go_sem, b_l_SchedulePlacements_l0, b_l_SchedulePlacements_r0, g1, g2, g3, g10, g11, hs, hd, List.length_map, Nat.reduceEqDiff, reduceCtorEq, Nat.reduceAdd, Nat.reduceMul, Nat.reduceSub, Int.reduceLT, Int.reduceLE, Int.reduceEq, Int.reduceAdd, Int.reduceSub, Int.reduceNeg, Int.reduceToNat, Int.cast_ofNat_Int, ↓reduceIte]
                · simp (maxSteps := 1000000) only [go_sem, b_l_SchedulePlacements_l0, b_l_SchedulePlacements_r0, g1, g2, g3, g10, g11, hs, hd, hd2, List.length_map, Nat.reduceEqDiff, reduceCtorEq, Nat.reduceAdd, Nat.reduceMul, Nat.reduceSub, Int.reduceLT, Int.reduceLE, Int.reduceEq, Int.reduceAdd, Int.reduceSub, Int.reduceNeg, Int.reduceToNat, Int.cast_ofNat_Int, ↓reduceIte]
            simp only [W.v, rowW, Sl.v] at hrp
            rw [callL_go (show AP 3 = some c_l_SchedulePlacements from rfl) rfl]
            simp (maxSteps := 1000000) only [go_sem, b_l_SchedulePlacements, hs, haw, hfe, hf, hsh, hf2, hcp, hc1, hpl, hpe, hre, hpa, hfo, hrp, hsame, W.v, rowW, Sl.v, ne_eq, not_true, not_false_iff, decide_true, decide_not, Bool.not_true, Nat.reduceEqDiff, reduceCtorEq, Nat.reduceAdd, Nat.reduceMul, Nat.reduceSub, Int.reduceLT, Int.reduceLE, Int.reduceEq, Int.reduceAdd, Int.reduceSub, Int.reduceNeg, Int.reduceToNat, Int.cast_ofNat_Int, ↓reduceIte]
            refine loop 0 _ _ (Nat.zero_le _) ?_
            exact ⟨rfl, rfl, rfl, rfl, rfl, _, rfl⟩
      · have hpz : plcE w l i = (planE w l).2 := by unfold plcE; rw [if_neg h0]
        rw [hpz, if_neg h0] at hpl
        rw [callL_go (show AP 3 = some c_l_SchedulePlacements from rfl) rfl]
        simp (maxSteps := 1000000) only [go_sem, b_l_SchedulePlacements, hs, haw, hfe, hf, hsh, hf2, hcp, hc1, hpl, hpe, h0, hnil, W.v, rowW, Sl.v, ne_eq, not_true, not_false_iff, decide_true, decide_not, Bool.not_true, Nat.reduceEqDiff, reduceCtorEq, Nat.reduceAdd, Nat.reduceMul, Nat.reduceSub, Int.reduceLT, Int.reduceLE, Int.reduceEq, Int.reduceAdd, Int.reduceSub, Int.reduceNeg, Int.reduceToNat, Int.cast_ofNat_Int, ↓reduceIte]
    · have hf2 : shortB l = false := by simpa using hf2
      rw [callL_go (show AP 3 = some c_l_SchedulePlacements from rfl) rfl]
      simp only [W.v, rowW, Sl.v] at hfe
      simp (maxSteps := 1000000) only [go_sem, b_l_SchedulePlacements, hs, haw, hfe, hf, hsh, hf2, W.v, rowW, Sl.v, Nat.reduceEqDiff, reduceCtorEq, Nat.reduceAdd, Nat.reduceMul, Nat.reduceSub, Int.reduceLT, Int.reduceLE, Int.reduceEq, Int.reduceAdd, Int.reduceSub, Int.reduceNeg, Int.reduceToNat, Int.cast_ofNat_Int, ↓reduceIte]
  · have hf : fewB w = false := by simpa using hf
    rw [callL_go (show AP 3 = some c_l_SchedulePlacements from rfl) rfl]
    simp only [W.v, rowW, Sl.v] at hfe
    simp (maxSteps := 1000000) only [go_sem, b_l_SchedulePlacements, hs, haw, hfe, hf, W.v, rowW, Sl.v, Nat.reduceEqDiff, reduceCtorEq, Nat.reduceAdd, Nat.reduceMul, Nat.reduceSub, Int.reduceLT, Int.reduceLE, Int.reduceEq, Int.reduceAdd, Int.reduceSub, Int.reduceNeg, Int.reduceToNat, Int.cast_ofNat_Int, ↓reduceIte]
end
end Go.Ax.Sx.Sc

namespace Go.Ax.Sx.Sc
open Go.Ax

section
variable {P : Program} {d : Nat}

def Flds (P : Program) (t : TypeId) (ts : List TypeId) : Prop := ∃ fs : Array Field, P.underlying t = some (.struct fs) ∧ fs.toList.map (·.type) = ts

theorem shp_flds {t : TypeId} {ts : List TypeId} {avs : List AV} (hf : Flds P t ts) (h : Shp P (d + 1) t avs) :
    ∃ ps : List (List AV), avs = ps.flatten ∧ ps.length = ts.length ∧ ∀ (i : Nat) (u : TypeId) (p : List AV), ts[i]? = some u → ps[i]? = some p → Shp P d u p := by
  obtain ⟨fs, hu, rfl⟩ := hf
  obtain ⟨ps, h1, h2, h3⟩ := shp_struct hu h
  refine ⟨ps, h1, by simp [h2], fun i u p hi hp => ?_⟩
  rw [List.getElem?_map] at hi
  obtain ⟨f, hf, rfl⟩ := Option.map_eq_some_iff.1 hi
  exact h3 i f p (by simpa using hf) hp

/-- The types of a week. -/
structure WkT (P : Program) (ti ts tg tgs tis ta tas tr trs tw : TypeId) : Prop where
  i : P.underlying ti = some (.int .i64)
  s : P.underlying ts = some .string
  g : Flds P tg [ti, ti]
  gs : P.underlying tgs = some (.slice tg)
  gc : P.cellsOf tg = 2
  is : P.underlying tis = some (.slice ti)
  ic : P.cellsOf ti = 1
  a : Flds P ta [ts, ti, tgs]
  sa : P.underlying tas = some (.slice ta)
  ac : P.cellsOf ta = 3
  r : Flds P tr [ts, tg, ti, ti, tis, ti]
  sr : P.underlying trs = some (.slice tr)
  rc : P.cellsOf tr = 7
  w : Flds P tw [ti, tas, trs]

variable {ti ts tg tgs tis ta tas tr trs tw : TypeId}

theorem maxLen_lt {n : Nat} (h : n ≤ maxLen) : (n : Int) < 9223372036854775808 := by unfold maxLen at h; omega

theorem shp_rng (T : WkT P ti ts tg tgs tis ta tas tr trs tw) {avs : List AV} (h : Shp P (d + 2) tg avs) : ∃ x : Int × Int, avs = rowG x ∧ True := by
  obtain ⟨ps, rfl, hl, hp⟩ := shp_flds T.g h
  match ps, hl, hp with
  | [p0, p1], _, hp =>
    obtain ⟨a, rfl, _⟩ := shp_int T.i (hp 0 _ p0 rfl rfl)
    obtain ⟨b, rfl, _⟩ := shp_int T.i (hp 1 _ p1 rfl rfl)
    exact ⟨(a, b), rfl, trivial⟩

theorem own_ok {o : Own} {rows : List (List AV)} (h : o = .any ∨ (o = .nilS ∧ rows = [])) : o = .any ∨ (o = .nilS ∧ rows = []) := h

theorem shp_ints (T : WkT P ti ts tg tgs tis ta tas tr trs tw) {avs : List AV} (h : Shp P (d + 2) tis avs) : ∃ x : Sl Int, avs = [x.v rowI] ∧ x.ok 1 ∧ (x.l.length : Int) < 9223372036854775808 := by
  obtain ⟨o, rows, rfl, ho, hlen, hrows⟩ := shp_slice T.is h
  obtain ⟨l, rfl, _⟩ := rows_eq (f := rowI) (g := fun _ => True) (fun r hr => by
    obtain ⟨x, hx, _⟩ := shp_int T.i (hrows r hr)
    exact ⟨x, hx, trivial⟩)
  rw [List.length_map] at hlen
  rw [T.ic]
  refine ⟨⟨o, 1, l⟩, rfl, ?_, maxLen_lt hlen⟩
  rcases ho with rfl | ⟨rfl, h⟩
  · exact ⟨.inr rfl, .inl rfl⟩
  · exact ⟨.inr rfl, .inr (.inr ⟨rfl, List.map_eq_nil_iff.1 (by assumption)⟩)⟩

theorem shp_rngs (T : WkT P ti ts tg tgs tis ta tas tr trs tw) {avs : List AV} (h : Shp P (d + 3) tgs avs) : ∃ x : Sl (Int × Int), avs = [x.v rowG] ∧ x.ok 2 ∧ (x.l.length : Int) < 9223372036854775808 := by
  obtain ⟨o, rows, rfl, ho, hlen, hrows⟩ := shp_slice T.gs h
  obtain ⟨l, rfl, _⟩ := rows_eq (f := rowG) (g := fun _ => True) (fun r hr => shp_rng T (hrows r hr))
  rw [List.length_map] at hlen
  rw [T.gc]
  refine ⟨⟨o, 2, l⟩, rfl, ?_, maxLen_lt hlen⟩
  rcases ho with rfl | ⟨rfl, h⟩
  · exact ⟨.inr rfl, .inl rfl⟩
  · exact ⟨.inr rfl, .inr (.inr ⟨rfl, List.map_eq_nil_iff.1 (by assumption)⟩)⟩

theorem shp_ant (T : WkT P ti ts tg tgs tis ta tas tr trs tw) {avs : List AV} (h : Shp P (d + 4) ta avs) :
    ∃ a : A, avs = rowA a ∧ (a.cl.ok 2 ∧ (a.name.size : Int) < 9223372036854775808 ∧ (a.cl.l.length : Int) < 9223372036854775808) := by
  obtain ⟨ps, rfl, hl, hp⟩ := shp_flds T.a h
  match ps, hl, hp with
  | [p0, p1, p2], _, hp =>
    obtain ⟨n, rfl, hn⟩ := shp_str T.s (hp 0 _ p0 rfl rfl)
    obtain ⟨b, rfl, _⟩ := shp_int T.i (hp 1 _ p1 rfl rfl)
    obtain ⟨c, rfl, hc, hcl⟩ := shp_rngs T (hp 2 _ p2 rfl rfl)
    exact ⟨⟨n, b, c⟩, rfl, hc, maxLen_lt hn, hcl⟩

theorem shp_req (T : WkT P ti ts tg tgs tis ta tas tr trs tw) {avs : List AV} (h : Shp P (d + 4) tr avs) :
    ∃ r : R, avs = rowR r ∧ (r.an.ok 1 ∧ (r.mis.size : Int) < 9223372036854775808 ∧ (r.an.l.length : Int) < 9223372036854775808) := by
  obtain ⟨ps, rfl, hl, hp⟩ := shp_flds T.r h
  match ps, hl, hp with
  | [p0, p1, p2, p3, p4, p5], _, hp =>
    obtain ⟨n, rfl, hn⟩ := shp_str T.s (hp 0 _ p0 rfl rfl)
    obtain ⟨g, rfl, _⟩ := shp_rng T (hp 1 _ p1 rfl rfl)
    obtain ⟨b, rfl, _⟩ := shp_int T.i (hp 2 _ p2 rfl rfl)
    obtain ⟨c, rfl, _⟩ := shp_int T.i (hp 3 _ p3 rfl rfl)
    obtain ⟨x, rfl, hx, hxl⟩ := shp_ints T (hp 4 _ p4 rfl rfl)
    obtain ⟨e, rfl, _⟩ := shp_int T.i (hp 5 _ p5 rfl rfl)
    exact ⟨⟨n, g.1, g.2, b, c, x, e⟩, rfl, hx, maxLen_lt hn, hxl⟩

theorem shp_week (T : WkT P ti ts tg tgs tis ta tas tr trs tw) {avs : List AV} (h : Shp P (d + 6) tw avs) : ∃ w : W, AV.agg avs = w.v ∧ w.Ok ∧ w.Big := by
  obtain ⟨ps, rfl, hl, hp⟩ := shp_flds T.w h
  match ps, hl, hp with
  | [p0, p1, p2], _, hp =>
    obtain ⟨n, rfl, _⟩ := shp_int T.i (hp 0 _ p0 rfl rfl)
    obtain ⟨o1, r1, rfl, ho1, hl1, hr1⟩ := shp_slice T.sa (hp 1 _ p1 rfl rfl)
    obtain ⟨o2, r2, rfl, ho2, hl2, hr2⟩ := shp_slice T.sr (hp 2 _ p2 rfl rfl)
    obtain ⟨as, rfl, has⟩ := rows_eq (fun r hr => shp_ant T (hr1 r hr))
    obtain ⟨rs, rfl, hrs⟩ := rows_eq (fun r hr => shp_req T (hr2 r hr))
    rw [List.length_map] at hl1 hl2
    rw [T.ac, T.rc]
    refine ⟨⟨n, ⟨o1, 3, as⟩, ⟨o2, 7, rs⟩⟩, rfl, ⟨?_, fun a ha => (has a ha).1, ?_, fun r hr => (hrs r hr).1⟩, ⟨maxLen_lt hl1, maxLen_lt hl2, fun a ha => (has a ha).2.1, fun a ha => (has a ha).2.2, fun r hr => (hrs r hr).2.1, fun r hr => (hrs r hr).2.2⟩⟩
    · rcases ho1 with rfl | ⟨rfl, h⟩
      · exact ⟨.inr rfl, .inl rfl⟩
      · exact ⟨.inr rfl, .inr (.inr ⟨rfl, List.map_eq_nil_iff.1 (by assumption)⟩)⟩
    · rcases ho2 with rfl | ⟨rfl, h⟩
      · exact ⟨.inr rfl, .inl rfl⟩
      · exact ⟨.inr rfl, .inr (.inr ⟨rfl, List.map_eq_nil_iff.1 (by assumption)⟩)⟩
end
end Go.Ax.Sx.Sc

/-
  What a plan is among the values that an argument may read as.
-/
namespace Go.Ax.Sx.Sc
open Go.Ax

section
variable {P : Program} {d : Nat} {ti tis tp tps : TypeId}

/-- The types of a plan. -/
structure PlT (P : Program) (ti tis tp tps : TypeId) : Prop where
  i : P.underlying ti = some (.int .i64)
  ic : P.cellsOf ti = 1
  is : P.underlying tis = some (.slice ti)
  p : Flds P tp [ti, ti, tis]
  ps : P.underlying tps = some (.slice tp)
  pc : P.cellsOf tp = 3

theorem shp_ints2 (T : PlT P ti tis tp tps) {avs : List AV} (h : Shp P (d + 2) tis avs) : ∃ x : Sl Int, avs = [x.v rowI] ∧ x.ok 1 ∧ (x.l.length : Int) < 9223372036854775808 := by
  obtain ⟨o, rows, rfl, ho, hlen, hrows⟩ := shp_slice T.is h
  obtain ⟨l, rfl, _⟩ := rows_eq (f := rowI) (g := fun _ => True) (fun r hr => by
    obtain ⟨x, hx, _⟩ := shp_int T.i (hrows r hr)
    exact ⟨x, hx, trivial⟩)
  rw [List.length_map] at hlen
  rw [T.ic]
  refine ⟨⟨o, 1, l⟩, rfl, ?_, maxLen_lt hlen⟩
  rcases ho with rfl | ⟨rfl, h⟩
  · exact ⟨.inr rfl, .inl rfl⟩
  · exact ⟨.inr rfl, .inr (.inr ⟨rfl, List.map_eq_nil_iff.1 (by assumption)⟩)⟩

theorem shp_pass (T : PlT P ti tis tp tps) {avs : List AV} (h : Shp P (d + 4) tp avs) : ∃ p : Sc.P, avs = rowP p ∧ (p.an.ok 1 ∧ (p.an.l.length : Int) < 9223372036854775808) := by
  obtain ⟨ps, rfl, hl, hp⟩ := shp_flds T.p h
  match ps, hl, hp with
  | [p0, p1, p2], _, hp =>
    obtain ⟨a, rfl, _⟩ := shp_int T.i (hp 0 _ p0 rfl rfl)
    obtain ⟨b, rfl, _⟩ := shp_int T.i (hp 1 _ p1 rfl rfl)
    obtain ⟨x, rfl, hx, hxl⟩ := shp_ints2 T (hp 2 _ p2 rfl rfl)
    exact ⟨⟨a, b, x⟩, rfl, hx, hxl⟩

theorem shp_plan (T : PlT P ti tis tp tps) {avs : List AV} (h : Shp P (d + 5) tps avs) : ∃ (l : List Sc.P) (o : Own) (e : Nat), avs = [.slice o e (l.map rowP)] ∧ e = 3 ∧ PBig l := by
  obtain ⟨o, rows, rfl, ho, hlen, hrows⟩ := shp_slice T.ps h
  obtain ⟨l, rfl, hr⟩ := rows_eq (fun r hr => shp_pass T (hrows r hr))
  rw [List.length_map] at hlen
  rw [T.pc]
  exact ⟨l, o, 3, rfl, rfl, ⟨maxLen_lt hlen, fun p hp => (hr p hp).1, fun p hp => (hr p hp).2⟩⟩
end
end Go.Ax.Sx.Sc
