/- The codes that are computed with are those of the program: each one is what compFn gives; what is taken from the library is what the shelf says of it. -/
import Derived.Test.YtolmeamlfkbafaaT14
import Derived.Test.YtolmeamlfkbafaaT10
import Derived.Test.YtolmeamlfkbafaaT9
import Derived.Test.YtolmeamlfkbafaaProg
import Derived.KernelRfl
namespace Go.Ax.Sx.Cm
open Go.Ax
set_option linter.unusedSimpArgs false
set_option linter.unusedVariables false
set_option maxRecDepth 100000
section
variable {s : Sig}
theorem pre_box {bx T : List (List AV)} {tk : List (Option Nat)} {b : Nat} {row : List AV} (h : bx[b]? = some row) : (s.push ⟨bx ++ T, tk⟩).box s.acts.length b = some row := by rw [box_push]; exact box_app h
theorem pre_N {bx T : List (List AV)} {tk : List (Option Nat)} {N : Nat} {y : List AV} (h : bx.length = N) : (s.push ⟨bx ++ y :: T, tk⟩).box s.acts.length N = some y := by rw [box_push, ← h]; simp
theorem pre_N1 {bx T : List (List AV)} {tk : List (Option Nat)} {N : Nat} {y z : List AV} (h : bx.length = N) : (s.push ⟨bx ++ y :: z :: T, tk⟩).box s.acts.length (N + 1) = some z := by rw [box_push, ← h]; exact at_len1
theorem pre_st {bx T : List (List AV)} {tk : List (Option Nat)} {b off n : Nat} {row row' : List AV} {y : AV} (hs : Ok s) (h : bx[b]? = some row) (hf : fitN n y.cells = true) (ho : overN row off y.cells = some row') :
  (s.push ⟨bx ++ T, tk⟩).store n (.ptr s.acts.length b off) y = some (s.push ⟨bx.set b row' ++ T, tk⟩) := by
 have hl := (List.getElem?_eq_some_iff.1 h).1
 rw [store_ptr hs, show (bx ++ T)[b]? = some row from box_app h, hf, cond_true, Option.bind_some, ho]
 show some (s.push ⟨(bx ++ T).set b row', tk⟩) = _
 rw [List.set_append_left _ _ hl]
def nmR1 : Option Ru → ByteArray
 | some r => r.name
 | none => ⟨#[]⟩
structure LawI (s : Sig) (u : Upl) (x : StV) (log : List (Int × Int)) (nm na : Int) (last : List Int) (bL : Nat) (bx : List (List AV)) : Prop where
 b0 : bx[0]? = some (rowUp u)
 b1 : bx[1]? = some x.row
 b2 : bx[2]? = some [I nm, I na, .rsl s.acts.length bL 0 1 last.length 0]
 bl : bx[bL]? = some (last.map I)
 l3 : 3 ≤ bL
 mom : momQ (cpUp u) x.done.l = (nm, last)
 ok : x.Ok
 cut : x.Cut
 run : RunI (cpUp u) x.q log
theorem law_l2 {u : Upl} {evs : Sl (Int × Int)} (hs : Ok s) (hu : u.Ok) (hv : UpVal u) (he : evs.ok 2) (hel : evs.l.length ≤ 50) :
  ∀ k ρ m, k ≤ evs.l.length → (ρ 1 = evs.v rowDn ∧ ρ 2 = .ptr s.acts.length 0 0 ∧ ρ 5 = .ptr s.acts.length 1 0 ∧ ρ 7 = .ptr s.acts.length 2 0 ∧ ρ 11 = I k ∧
   ∃ (bx : List (List AV)) (tk : List (Option Nat)) (x : StV) (log : List (Int × Int)) (nm na : Int) (last : List Int) (bL : Nat) (rs : ByteArray) (og : Option Nat), m = s.push ⟨bx, tk⟩ ∧ LawI s u x log nm na last bL bx ∧ ρ 10 = S rs ∧ Acc s.acts.length 2 (log.map rowDn) (ρ 9) og tk ∧ log.length ≤ k) →
   go AP f_t_TopCommandNeverForbidden (.c (.loop b_t_TopCommandNeverForbidden_l2) :: k_t_TopCommandNeverForbidden_2) ⟨ρ, m⟩ = some (B true, s) := by
 have hcok := cpUp_Ok hu
 have hcv := cp_val hv
 have huv := hcv.uval
 refine loop_up evs.l.length _ (fun _ => some (B true, s)) ?_ ?_
 ·rintro k ρ m hk ⟨g1, g2, g5, g7, g11, bx, tk, x, log, nm, na, last, bL, rs, og, rfl, hI, g10, hA, hlk⟩ ih
  obtain ⟨e, hev⟩ := get_some hk
  have hix := Sl.ix (f := rowDn) he hev
  have hwk := wrap_succ hk (show (evs.l.length : Int) < _ by omega)
  have l1 := ld_res (tk := tk) (n := 6) hs hI.b0 rfl
  have l2 := ld_res (tk := tk) (n := 8) hs hI.b1 rfl
  obtain ⟨c1, c2, c3⟩ := ev_call (bx := bx) (tk := tk) (k := e.1) (n := e.2) hs hu.src hcok huv hI.ok hI.run.ok
  have c4 := slot_res (s := s) (bx := bx) (tk := tk) (zs := z8) rfl
  by_cases hE : apE (cpUp u) x.q e.1 e.2 = 0
  ·obtain ⟨s1, s2⟩ := step_ok huv hI.run.ok hE
   have hrun := hI.run.step huv hE
   obtain ⟨q', hq'0⟩ : ∃ q', q' = apQ (cpUp u) x.q e.1 e.2 := ⟨_, rfl⟩
   rw [← hq'0] at s1 s2 hrun
   obtain ⟨y, hy⟩ : ∃ y', y' = apY (cpUp u) (cpSt x) e.1 e.2 := ⟨_, rfl⟩
   have hy2 : y = outSt (cpSt x) q' := by
    rw [hy, hq'0]; unfold apY
    rw [cpSt_q, if_pos hE]
   have hyq : y.q = q' := by rw [hy2, outSt_q]
   have yok : y.Ok := by rw [hy2]; exact outSt_Ok huv s1
   have ycut : y.Cut := by rw [hy2]; exact outL_cut
   rw [← hy, hE] at c3
   rw [← hyq] at s1 s2 hrun
   clear hy hy2 hq'0 hyq
   have c5 := fill_res (s := s) (bx := bx) (tk := tk) (x := y) hs
   have hxq := hI.run.ok
   have fA : decide ((u.file.l.length : Int) < (y.done.l.length : Int)) = false := decide_eq_false (by have h1 : y.done.l.length ≤ u.file.l.length := s1.dl; omega)
   have fB : wi y.at_ 0 1000000000000 = true := wi_iff.2 ⟨s1.a0, s1.a1⟩
   have hxl : x.done.l.length ≤ 12 := by have h1 : x.done.l.length ≤ u.file.l.length := hxq.dl; have h2 : u.file.l.length ≤ 12 := hcv.f1; omega
   have hw1 : IntKind.i64.wrap ((x.done.l.length : Int) + 1) = (x.done.l.length : Int) + 1 := wrap_id (by omega) (by omega)
   obtain ⟨x9, og9, tk9, ha1, ha2, _, _⟩ := hA.append hs .full (ys := [rowDn e]) (by simp) (by simp; omega)
   have b0 : ∀ T tk, (s.push ⟨bx ++ T, tk⟩).box s.acts.length 0 = some [u.m.modes.v rowS, u.m.kinds.v rowKd, u.m.rules.v rowRu, u.file.v rowAc, I u.win, I u.fl] := fun T tk => pre_box hI.b0
   have b1 : ∀ T tk, (s.push ⟨bx ++ T, tk⟩).box s.acts.length 1 = some x.row := fun T tk => pre_box hI.b1
   have b2 : ∀ T tk, (s.push ⟨bx ++ T, tk⟩).box s.acts.length 2 = some [I nm, I na, .rsl s.acts.length bL 0 1 last.length 0] := fun T tk => pre_box hI.b2
   have hl1 := (List.getElem?_eq_some_iff.1 hI.b1).1
   have hl2 := (List.getElem?_eq_some_iff.1 hI.b2).1
   have hlL := (List.getElem?_eq_some_iff.1 hI.bl).1
   have hL3 := hI.l3
   have hlog : (log ++ [e]).length ≤ k + 1 := by simp; omega
   have hA' : Acc s.acts.length 2 ((log ++ [e]).map rowDn) x9 og9 tk9 := by rw [List.map_append]; exact ha2
   generalize rowUp u = UR at c1 l1
   generalize rowUp (cpUp u) = UR1 at c1 c3
   generalize (cpSt x).row = YR1 at c2 c3
   cases s2 with
   | same h1 h2 =>
    have h1 : y.done.l = x.done.l := h1
    have h2 : y.halted = x.halted := h2
    have hne : decide ((y.done.l.length : Int) = (x.done.l.length : Int) + 1) = false := decide_eq_false (by rw [h1]; omega)
    have hst : ∀ T tk, (s.push ⟨bx ++ T, tk⟩).store 8 (.ptr s.acts.length 1 0) (.agg y.row) = some (s.push ⟨bx.set 1 y.row ++ T, tk⟩) := fun T tk => pre_st hs hI.b1 rfl rfl
    have ih2 : ∀ ρ', ρ' 1 = evs.v rowDn → ρ' 2 = .ptr s.acts.length 0 0 → ρ' 5 = .ptr s.acts.length 1 0 → ρ' 7 = .ptr s.acts.length 2 0 → ρ' 11 = I (k + 1 : Nat) → ρ' 10 = S rs → ρ' 9 = x9 → go AP f_t_TopCommandNeverForbidden (.c (.loop b_t_TopCommandNeverForbidden_l2) :: k_t_TopCommandNeverForbidden_2) ⟨ρ', s.push ⟨bx.set 1 y.row ++ [y.row], tk9⟩⟩ = some (B true, s) := fun ρ' a1 a2 a3 a4 a5 a6 a7 => by
     refine ih ρ' _ ⟨a1, a2, a3, a4, a5, _, tk9, y, log ++ [e], nm, na, last, bL, rs, og9, rfl, ⟨?_, ?_, ?_, ?_, hL3, ?_, yok, ycut, hrun⟩, a6, by rw [a7]; exact hA', hlog⟩
     ·refine box_app ?_; rw [List.getElem?_set_ne (by decide)]; exact hI.b0
     ·refine box_app ?_; rw [List.getElem?_set_self hl1]
     ·refine box_app ?_; rw [List.getElem?_set_ne (by decide)]; exact hI.b2
     ·refine box_app ?_; rw [List.getElem?_set_ne (by omega)]; exact hI.bl
     ·rw [h1]; exact hI.mom
    generalize x.row = XR at l2 c2
    have b1e : ∀ T tk, (s.push ⟨bx ++ T, tk⟩).box s.acts.length 1 = some [I x.at_, I x.mode, x.done.v rowDn, B x.halted, I x.base, B x.told, x.down.v rowI, x.up.v rowUp2] := b1
    simp only [StV.v, StV.row, rowSt, z8, rowDn, Sl.v] at c1 c2 c3 c4 c5 hix hst g1 ih2 b0 b1e ha1
    cases hh : x.halted with
    | true =>
     have hyh : y.halted = true := by rw [h2, hh]
     rw [hyh] at c3 c5 hst ih2
     simp (maxSteps := 1000000) only [go_sem, b_t_TopCommandNeverForbidden_l2, g1, g2, g5, g11, lt_dec hk, l1, l2, hix, rep1, c1, c2, c3, c4, c5, ha1, b0, b1e, fA, fB, b_Within, hh, hw1, hne, hst, hwk, ne_eq, not_true, decide_false, Nat.reduceEqDiff, Nat.reduceAdd, Int.reduceNeg, ↓reduceIte, ne_eq, not_true]
     refine ih2 _ ?_ ?_ ?_ ?_ ?_ ?_ ?_
     all_goals first | exact g1 | exact g2 | exact g5 | exact g7 | exact g10 | rfl
    | false =>
     have hyh : y.halted = false := by rw [h2, hh]
     rw [hyh] at c3 c5 hst ih2
     simp (maxSteps := 1000000) only [go_sem, b_t_TopCommandNeverForbidden_l2, g1, g2, g5, g11, lt_dec hk, l1, l2, hix, rep1, c1, c2, c3, c4, c5, ha1, b0, b1e, fA, fB, b_Within, hh, hw1, hne, hst, hwk, ne_eq, not_true, decide_false, Nat.reduceEqDiff, Nat.reduceAdd, Int.reduceNeg, ↓reduceIte, ne_eq, not_true]
     refine ih2 _ ?_ ?_ ?_ ?_ ?_ ?_ ?_
     all_goals first | exact g1 | exact g2 | exact g5 | exact g7 | exact g10 | rfl
   | exec h0 h1 h2 h3 a h4 h5 =>
    have h0 : x.halted = false := h0
    have h1 : y.halted = false := h1
    have h2 : y.at_ = x.at_ := h2
    have h3 : y.done.l = x.done.l ++ [((x.done.l.length : Int), x.at_)] := h3
    have h4 : u.file.l[x.done.l.length]? = some a := h4
    have hne : decide ((y.done.l.length : Int) = (x.done.l.length : Int) + 1) = true := decide_eq_true (by rw [h3]; simp)
    have hia := Sl.ix (f := rowAc) hu.file h4
    obtain ⟨⟨ak0, ak1⟩, al0, ah1⟩ := huv.acts a (List.mem_of_getElem? h4)
    have ak1 : a.kind < u.m.kinds.l.length := ak1
    obtain ⟨ki, hki⟩ : ∃ ki : Nat, a.kind = ki := ⟨a.kind.toNat, by omega⟩
    obtain ⟨kd, hkd⟩ := get_some (l := u.m.kinds.l) (k := ki) (by omega)
    have hik := Sl.ix (f := rowKd) hu.m.kinds hkd
    have hll : last.length = u.m.kinds.l.length := by
     have := momF_len (u := cpUp u) (l := x.done.l) (i := 0) (pm := 0) (last := last0 (cpUp u).m.kinds.l.length)
     have h6 := congrArg (fun p : Int × List Int => p.2.length) hI.mom
     simp only at h6
     rw [← h6]
     show (momF (cpUp u) 0 0 (last0 (cpUp u).m.kinds.l.length) x.done.l).2.length = _
     rw [this]
     simp [last0]; rfl
    have hixL := ix_rsl (d := s.acts.length) (b := bL) (es := 1) (n := last.length) (cap := 0) (i := ki) (by omega)
    have gg5 : stepL last a y.at_ = last.set ki y.at_ := by unfold stepL; rw [hki, Int.toNat_natCast]
    have gg6 : stepM (cpUp u).m nm a = if kd.to = -1 then nm else kd.to := by
     have : (cpUp u).m.kinds.l[ki]? = some kd := hkd
     unfold stepM; rw [hki, Int.toNat_natCast, this]
    have hsl : (stepL last a y.at_).length = last.length := by rw [gg5]; simp
    have hmom : momQ (cpUp u) y.done.l = (stepM (cpUp u).m nm a, stepL last a y.at_) := by
     rw [h3, h2]
     have hm := hI.mom
     unfold momQ at hm ⊢
     rw [momF_app (doneOk_file hxq.done) (by rw [Nat.zero_add]; exact h4), hm]
    have q21 : ((2 : Nat) == bx.length + 1) = false := by simp; omega
    have q20 : ((2 : Nat) == bx.length) = false := by simp; omega
    have st1 : ∀ T tk, (s.push ⟨bx ++ T, tk⟩).store 1 (.ptr s.acts.length 2 1) (I y.at_) = some (s.push ⟨bx.set 2 [I nm, I y.at_, .rsl s.acts.length bL 0 1 last.length 0] ++ T, tk⟩) := fun T tk => pre_st hs hI.b2 rfl rfl
    obtain ⟨bx2, hbx2⟩ : ∃ bx2, bx2 = bx.set 2 [I nm, I y.at_, .rsl s.acts.length bL 0 1 last.length 0] := ⟨_, rfl⟩
    rw [← hbx2] at st1
    have e20 : bx2[0]? = some (rowUp u) := by rw [hbx2, List.getElem?_set_ne (by decide)]; exact hI.b0
    have e21 : bx2[1]? = some x.row := by rw [hbx2, List.getElem?_set_ne (by decide)]; exact hI.b1
    have e22 : bx2[2]? = some [I nm, I y.at_, .rsl s.acts.length bL 0 1 last.length 0] := by rw [hbx2, List.getElem?_set_self hl2]
    have e2L : bx2[bL]? = some (last.map I) := by rw [hbx2, List.getElem?_set_ne (by omega)]; exact hI.bl
    have n2 : bx2.length = bx.length := by rw [hbx2]; simp
    have st2 : ∀ T tk, (s.push ⟨bx2 ++ T, tk⟩).store 1 (.ptr s.acts.length bL (ki * 1)) (I y.at_) = some (s.push ⟨bx2.set bL ((stepL last a y.at_).map I) ++ T, tk⟩) := fun T tk => pre_st hs e2L rfl (by rw [Nat.mul_one, gg5]; exact overN_at (by omega))
    obtain ⟨bx3, hbx3⟩ : ∃ bx3, bx3 = bx2.set bL ((stepL last a y.at_).map I) := ⟨_, rfl⟩
    rw [← hbx3] at st2
    have e30 : bx3[0]? = some (rowUp u) := by rw [hbx3, List.getElem?_set_ne (by omega)]; exact e20
    have e31 : bx3[1]? = some x.row := by rw [hbx3, List.getElem?_set_ne (by omega)]; exact e21
    have e32 : bx3[2]? = some [I nm, I y.at_, .rsl s.acts.length bL 0 1 last.length 0] := by rw [hbx3, List.getElem?_set_ne (by omega)]; exact e22
    have e3L : bx3[bL]? = some ((stepL last a y.at_).map I) := by rw [hbx3, List.getElem?_set_self (by omega)]
    have n3 : bx3.length = bx.length := by rw [hbx3]; simp [n2]
    have b30 : ∀ T tk, (s.push ⟨bx3 ++ T, tk⟩).box s.acts.length 0 = some [u.m.modes.v rowS, u.m.kinds.v rowKd, u.m.rules.v rowRu, u.file.v rowAc, I u.win, I u.fl] := fun T tk => pre_box e30
    have b3N1 : ∀ y z T tk, (s.push ⟨bx3 ++ y :: z :: T, tk⟩).box s.acts.length (bx.length + 1) = some z := fun y z T tk => pre_N1 n3
    have b3N : ∀ y T tk, (s.push ⟨bx3 ++ y :: T, tk⟩).box s.acts.length bx.length = some y := fun y T tk => pre_N n3
    have fin : ∀ bx4 : List (List AV), bx4.length = bx.length → bx4[0]? = some (rowUp u) → bx4[1]? = some x.row → bx4[2]? = some [I (stepM (cpUp u).m nm a), I y.at_, .rsl s.acts.length bL 0 1 last.length 0] → bx4[bL]? = some ((stepL last a y.at_).map I) →
      ∀ ρ' T, ρ' 1 = evs.v rowDn → ρ' 2 = .ptr s.acts.length 0 0 → ρ' 5 = .ptr s.acts.length 1 0 → ρ' 7 = .ptr s.acts.length 2 0 → ρ' 11 = I (k + 1 : Nat) → ρ' 10 = S rs → ρ' 9 = x9 → go AP f_t_TopCommandNeverForbidden (.c (.loop b_t_TopCommandNeverForbidden_l2) :: k_t_TopCommandNeverForbidden_2) ⟨ρ', s.push ⟨bx4.set 1 y.row ++ T, tk9⟩⟩ = some (B true, s) := fun bx4 n4 i0 i1 i2 iL ρ' T a1 a2 a3 a4 a5 a6 a7 => by
     refine ih ρ' _ ⟨a1, a2, a3, a4, a5, _, tk9, y, log ++ [e], stepM (cpUp u).m nm a, y.at_, stepL last a y.at_, bL, rs, og9, rfl, ⟨?_, ?_, ?_, ?_, hL3, hmom, yok, ycut, hrun⟩, a6, by rw [a7]; exact hA', hlog⟩
     ·refine box_app ?_; rw [List.getElem?_set_ne (by decide)]; exact i0
     ·refine box_app ?_; rw [List.getElem?_set_self (by omega)]
     ·refine box_app ?_; rw [List.getElem?_set_ne (by decide), hsl]; exact i2
     ·refine box_app ?_; rw [List.getElem?_set_ne (by omega)]; exact iL
    by_cases hto : kd.to = -1
    ·rw [gg6, if_pos hto] at fin
     have st4 : ∀ T tk, (s.push ⟨bx3 ++ T, tk⟩).store 8 (.ptr s.acts.length 1 0) (.agg y.row) = some (s.push ⟨bx3.set 1 y.row ++ T, tk⟩) := fun T tk => pre_st hs e31 rfl rfl
     have ih2 := fin bx3 n3 e30 e31 e32 e3L
     generalize x.row = XR at l2 c2
     have b1e : ∀ T tk, (s.push ⟨bx ++ T, tk⟩).box s.acts.length 1 = some [I x.at_, I x.mode, x.done.v rowDn, B x.halted, I x.base, B x.told, x.down.v rowI, x.up.v rowUp2] := b1
     simp only [StV.v, StV.row, rowSt, z8, rowDn, rowAc, rowKd, Sl.v] at c1 c2 c3 c4 c5 hix hia hik g1 ih2 b0 b1e b30 st4 ha1
     rw [h1] at c3 c5 st4 ih2
     simp (maxSteps := 1000000) only [go_sem, b_t_TopCommandNeverForbidden_l2, g1, g2, g5, g7, g11, hs, lt_dec hk, l1, l2, hix, rep1, c1, c2, c3, c4, c5, ha1, b0, b1e, b2, fA, fB, b_Within, h0, hw1, hne, hia, hki, hixL, q21, q20, st1, st2, b30, b3N, b3N1, hik, hto, st4, hwk, ne_eq, not_true, decide_false, Option.getD_some, beq_self_eq_true, Bool.and_false, Bool.not_false, Bool.true_or, Nat.reduceEqDiff, Nat.reduceAdd, Int.reduceNeg, ↓reduceIte, Nat.reduceLeDiff, ne_eq, not_true]
     refine ih2 _ _ ?_ ?_ ?_ ?_ ?_ ?_ ?_
     all_goals first | exact g1 | exact g2 | exact g5 | exact g7 | exact g10 | rfl
    ·have hto' : decide (kd.to = -1) = false := decide_eq_false hto
     rw [gg6, if_neg hto] at fin
     have st3 : ∀ T tk, (s.push ⟨bx3 ++ T, tk⟩).store 1 (.ptr s.acts.length 2 0) (I kd.to) = some (s.push ⟨bx3.set 2 [I kd.to, I y.at_, .rsl s.acts.length bL 0 1 last.length 0] ++ T, tk⟩) := fun T tk => pre_st hs e32 rfl rfl
     obtain ⟨bx4, hbx4⟩ : ∃ bx4, bx4 = bx3.set 2 [I kd.to, I y.at_, .rsl s.acts.length bL 0 1 last.length 0] := ⟨_, rfl⟩
     rw [← hbx4] at st3
     have e40 : bx4[0]? = some (rowUp u) := by rw [hbx4, List.getElem?_set_ne (by omega)]; exact e30
     have e41 : bx4[1]? = some x.row := by rw [hbx4, List.getElem?_set_ne (by omega)]; exact e31
     have e42 : bx4[2]? = some [I kd.to, I y.at_, .rsl s.acts.length bL 0 1 last.length 0] := by rw [hbx4, List.getElem?_set_self (by omega)]
     have e4L : bx4[bL]? = some ((stepL last a y.at_).map I) := by rw [hbx4, List.getElem?_set_ne (by omega)]; exact e3L
     have n4 : bx4.length = bx.length := by rw [hbx4]; simp [n3]
     have b4N : ∀ y T tk, (s.push ⟨bx4 ++ y :: T, tk⟩).box s.acts.length bx.length = some y := fun y T tk => pre_N n4
     have st4 : ∀ T tk, (s.push ⟨bx4 ++ T, tk⟩).store 8 (.ptr s.acts.length 1 0) (.agg y.row) = some (s.push ⟨bx4.set 1 y.row ++ T, tk⟩) := fun T tk => pre_st hs e41 rfl rfl
     have ih2 := fin bx4 n4 e40 e41 e42 e4L
     generalize x.row = XR at l2 c2
     have b1e : ∀ T tk, (s.push ⟨bx ++ T, tk⟩).box s.acts.length 1 = some [I x.at_, I x.mode, x.done.v rowDn, B x.halted, I x.base, B x.told, x.down.v rowI, x.up.v rowUp2] := b1
     simp only [StV.v, StV.row, rowSt, z8, rowDn, rowAc, rowKd, Sl.v] at c1 c2 c3 c4 c5 hix hia hik g1 ih2 b0 b1e b30 st4 ha1
     rw [h1] at c3 c5 st4 ih2
     simp (maxSteps := 1000000) only [go_sem, b_t_TopCommandNeverForbidden_l2, g1, g2, g5, g7, g11, hs, lt_dec hk, l1, l2, hix, rep1, c1, c2, c3, c4, c5, ha1, b0, b1e, b2, fA, fB, b_Within, h0, hw1, hne, hia, hki, hixL, q21, q20, st1, st2, b30, b3N1, hik, hto, st3, b4N, st4, hwk, ne_eq, not_true, not_false_iff, decide_true, decide_false, Option.getD_some, beq_self_eq_true, Bool.and_false, Bool.not_false, Bool.true_or, Nat.reduceEqDiff, Nat.reduceAdd, Int.reduceNeg, ↓reduceIte, Nat.reduceLeDiff, ne_eq, not_true]
     refine ih2 _ _ ?_ ?_ ?_ ?_ ?_ ?_ ?_
     all_goals first | exact g1 | exact g2 | exact g5 | exact g7 | exact g10 | rfl
   | halt h0 h1 h2 h3 a h4 h5 =>
    have h0 : x.halted = false := h0
    have h1 : y.halted = true := h1
    have h2 : y.at_ = x.at_ := h2
    have h3 : y.done.l = x.done.l := h3
    have h4 : u.file.l[x.done.l.length]? = some a := h4
    have hne : decide ((y.done.l.length : Int) = (x.done.l.length : Int) + 1) = false := decide_eq_false (by rw [h3]; omega)
    have hfl := (List.getElem?_eq_some_iff.1 h4).1
    have hgf : decide ((u.file.l.length : Int) ≤ (x.done.l.length : Int)) = false := decide_eq_false (by omega)
    have hia := Sl.ix (f := rowAc) hu.file h4
    obtain ⟨⟨ak0, ak1⟩, al0, ah1⟩ := huv.acts a (List.mem_of_getElem? h4)
    have ak1 : a.kind < u.m.kinds.l.length := ak1
    have hll : last.length = u.m.kinds.l.length := by
     have := momF_len (u := cpUp u) (l := x.done.l) (i := 0) (pm := 0) (last := last0 (cpUp u).m.kinds.l.length)
     have h6 := congrArg (fun p : Int × List Int => p.2.length) hI.mom
     simp only at h6
     rw [← h6]
     show (momF (cpUp u) 0 0 (last0 (cpUp u).m.kinds.l.length) x.done.l).2.length = _
     rw [this]
     simp [last0]; rfl
    have hmq : x.mode = nm := by have := hxq.mode; rw [show (x.q).done = x.done.l from rfl, hI.mom] at this; exact this
    have hA5 : accB (cpUp u).m nm y.at_ last a = false := by
     have h6 : accB (cpUp u).m x.mode x.at_ (momQ (cpUp u) x.done.l).2 a = false := h5
     rw [hI.mom, hmq] at h6
     rw [h2]; exact h6
    have hlast : ∀ v ∈ last, v = -1 ∨ (0 ≤ v ∧ v ≤ y.at_) := fun v hv' => by
     have h6 := doneOk_last huv hxq.done (fun v hv => .inl (List.mem_replicate.1 hv).2)
     have h7 := congrArg Prod.snd hI.mom
     simp only at h7
     have h8 : (momF (cpUp u) 0 0 (last0 (cpUp u).m.kinds.l.length) x.q.done).2 = last := h7
     rw [h8] at h6
     rw [h2]
     exact h6 v hv'
    have hnm := momF_mode (u := cpUp u) huv (l := x.done.l) (i := 0) (pm := 0) (last := last0 (cpUp u).m.kinds.l.length) (Int.le_refl _) (by have := huv.m0; omega)
    have hnm0 : 0 ≤ nm ∧ nm < (u.m.modes.l.length : Int) := by
     have h7 := congrArg Prod.fst hI.mom
     have h8 : (momF (cpUp u) 0 0 (last0 (cpUp u).m.kinds.l.length) x.done.l).1 = nm := h7
     rw [h8] at hnm
     exact hnm
    have hmE : momE (cpMo u.m) nm y.at_ last a.kind = 0 := by
     unfold momE
     rw [firstErr_0]
     have t1 : wi nm 0 ((cpMo u.m).modes.l.length - 1) = true := wi_iff.2 ⟨hnm0.1, by have h := hnm0.2; show nm ≤ (u.m.modes.l.length : Int) - 1; omega⟩
     have t2 : wi y.at_ 0 1000000000000 = true := fB
     have t3 : decide ((last.length : Int) = ((cpMo u.m).kinds.l.length : Int)) = true := decide_eq_true (by show (last.length : Int) = (u.m.kinds.l.length : Int); omega)
     have t4 : (last.any fun n => !decide (n = -1) && !wi n 0 y.at_) = false := by
      rw [List.any_eq_false]
      intro v hv'
      rcases hlast v hv' with h | h
      ·simp [h]
      ·have : wi v 0 y.at_ = true := wi_iff.2 h
       simp [this]
     have t5 : wi a.kind 0 ((cpMo u.m).kinds.l.length - 1) = true := wi_iff.2 ⟨ak0, by show a.kind ≤ (u.m.kinds.l.length : Int) - 1; omega⟩
     have t0 : (modC (cpMo u.m)).2.2 = 0 := hcv.m.mod
     rw [t0, t1, t2, t3, t4, t5]
     intro z hz
     simpa using hz
    have hpo : PrOk (cpMo u.m) y.at_ last := ⟨fun r hr => by have h7 := huv.after r hr; have h8 : (cpUp u).m.kinds.l.length = u.m.kinds.l.length := rfl; omega, fun v hv' => by rcases hlast v hv' with h | h <;> (have := s1.a1; simp only at this; omega), s1.a0, s1.a1⟩
    have hfb := fun q (hq : Ok q) => command_ForbiddenBy (s := q) (m := cpMo u.m) (mode := nm) (at_ := y.at_) (kind := a.kind) (o := (cpS 1 last).o) (e := 1) (last := last) hq hcok.m (.inr rfl) (by rw [hll]; exact hu.m.kl) (fun _ => hpo)
    rw [hmE] at hfb
    simp only [if_true] at hfb
    have hfb : ∀ q, Ok q → callL AP (.fn 11) [(cpMo u.m).v, .agg [I nm, I y.at_, .slice (cpS 1 last).o 1 (last.map rowI)], I a.kind] q = some (.tuple [S (nmR1 (forbF (cpMo u.m) nm y.at_ last a.kind)), I 0], q) := fun q hq => by
     rw [hfb q hq]; cases forbF (cpMo u.m) nm y.at_ last a.kind <;> rfl
    obtain ⟨name, hname⟩ : ∃ name : ByteArray, name = nmR1 (forbF (cpMo u.m) nm y.at_ last a.kind) := ⟨_, rfl⟩
    rw [← hname] at hfb
    have hwin : name = ⟨#[]⟩ → wi y.at_ a.lo a.hi = false := fun hn => by
     unfold accB at hA5
     cases hw : wi y.at_ a.lo a.hi with
     | false => rfl
     | true =>
      rw [hw, Bool.true_and] at hA5
      cases hf : forbF (cpUp u).m nm y.at_ last a.kind with
      | none => rw [hf] at hA5; cases hA5
      | some r =>
       have hf' : forbF (cpMo u.m) nm y.at_ last a.kind = some r := hf
       rw [hf'] at hname
       have hmem : r ∈ (cpUp u).m.rules.l := List.mem_of_find?_eq_some hf
       exact absurd (hname.symm.trans hn) (huv.names r hmem)
    have st1 : ∀ T tk, (s.push ⟨bx ++ T, tk⟩).store 1 (.ptr s.acts.length 2 1) (I y.at_) = some (s.push ⟨bx.set 2 [I nm, I y.at_, .rsl s.acts.length bL 0 1 last.length 0] ++ T, tk⟩) := fun T tk => pre_st hs hI.b2 rfl rfl
    obtain ⟨bx2, hbx2⟩ : ∃ bx2, bx2 = bx.set 2 [I nm, I y.at_, .rsl s.acts.length bL 0 1 last.length 0] := ⟨_, rfl⟩
    rw [← hbx2] at st1
    have e20 : bx2[0]? = some (rowUp u) := by rw [hbx2, List.getElem?_set_ne (by decide)]; exact hI.b0
    have e21 : bx2[1]? = some x.row := by rw [hbx2, List.getElem?_set_ne (by decide)]; exact hI.b1
    have e22 : bx2[2]? = some [I nm, I y.at_, .rsl s.acts.length bL 0 1 last.length 0] := by rw [hbx2, List.getElem?_set_self hl2]
    have e2L : bx2[bL]? = some (last.map I) := by rw [hbx2, List.getElem?_set_ne (by omega)]; exact hI.bl
    have n2 : bx2.length = bx.length := by rw [hbx2]; simp
    have b20 : ∀ T tk, (s.push ⟨bx2 ++ T, tk⟩).box s.acts.length 0 = some [u.m.modes.v rowS, u.m.kinds.v rowKd, u.m.rules.v rowRu, u.file.v rowAc, I u.win, I u.fl] := fun T tk => pre_box e20
    have b22 : ∀ T tk, (s.push ⟨bx2 ++ T, tk⟩).box s.acts.length 2 = some [I nm, I y.at_, .rsl s.acts.length bL 0 1 last.length 0] := fun T tk => pre_box e22
    have b2N1 : ∀ y z T tk, (s.push ⟨bx2 ++ y :: z :: T, tk⟩).box s.acts.length (bx.length + 1) = some z := fun y z T tk => pre_N1 n2
    have b2N : ∀ y T tk, (s.push ⟨bx2 ++ y :: T, tk⟩).box s.acts.length bx.length = some y := fun y T tk => pre_N n2
    have hcm : ∀ q : Sig, callL AP (.fn 12) [.agg (rowMo u.m)] (roS q) = some ((cpMo u.m).v, roS q) := fun q => r_CopyModel ok_roS hu.m.src
    have hct : ∀ T tk, callL AP (.fn 13) [.agg [I nm, I y.at_, .rsl s.acts.length bL 0 1 last.length 0]] (roS (s.push ⟨bx2 ++ T, tk⟩)) = some (.agg [I nm, I y.at_, (cpS 1 last).v rowI], roS (s.push ⟨bx2 ++ T, tk⟩)) := fun T tk =>
     r_CopyMoment ok_roS (by rw [hll]; exact hu.m.kl) (by rw [roS_box, box_push]; exact box_app e2L) rfl
    have hfb2 : ∀ r, callL AP (.fn 11) [(cpMo u.m).v, .agg [I nm, I y.at_, (cpS 1 last).v rowI], I a.kind] (s.push r) = some (.tuple [S name, I 0], s.push r) := fun r => hfb _ (hs.push r)
    have st4 : ∀ T tk, (s.push ⟨bx2 ++ T, tk⟩).store 8 (.ptr s.acts.length 1 0) (.agg y.row) = some (s.push ⟨bx2.set 1 y.row ++ T, tk⟩) := fun T tk => pre_st hs e21 rfl rfl
    have b21 : ∀ T tk, (s.push ⟨bx2 ++ T, tk⟩).box s.acts.length 1 = some [I x.at_, I x.mode, x.done.v rowDn, B x.halted, I x.base, B x.told, x.down.v rowI, x.up.v rowUp2] := fun T tk => pre_box e21
    have ih2 : ∀ ρ' T, ρ' 1 = evs.v rowDn → ρ' 2 = .ptr s.acts.length 0 0 → ρ' 5 = .ptr s.acts.length 1 0 → ρ' 7 = .ptr s.acts.length 2 0 → ρ' 11 = I (k + 1 : Nat) → ρ' 10 = S name → ρ' 9 = x9 → go AP f_t_TopCommandNeverForbidden (.c (.loop b_t_TopCommandNeverForbidden_l2) :: k_t_TopCommandNeverForbidden_2) ⟨ρ', s.push ⟨bx2.set 1 y.row ++ T, tk9⟩⟩ = some (B true, s) := fun ρ' T a1 a2 a3 a4 a5 a6 a7 => by
     refine ih ρ' _ ⟨a1, a2, a3, a4, a5, _, tk9, y, log ++ [e], nm, y.at_, last, bL, name, og9, rfl, ⟨?_, ?_, ?_, ?_, hL3, ?_, yok, ycut, hrun⟩, a6, by rw [a7]; exact hA', hlog⟩
     ·refine box_app ?_; rw [List.getElem?_set_ne (by decide)]; exact e20
     ·refine box_app ?_; rw [List.getElem?_set_self (by omega)]
     ·refine box_app ?_; rw [List.getElem?_set_ne (by decide)]; exact e22
     ·refine box_app ?_; rw [List.getElem?_set_ne (by omega)]; exact e2L
     ·rw [h3]; exact hI.mom
    clear hfb
    generalize x.row = XR at l2 c2
    have b1e : ∀ T tk, (s.push ⟨bx ++ T, tk⟩).box s.acts.length 1 = some [I x.at_, I x.mode, x.done.v rowDn, B x.halted, I x.base, B x.told, x.down.v rowI, x.up.v rowUp2] := b1
    generalize (cpMo u.m).v = CM at hcm hfb2
    generalize (cpS 1 last).v rowI = CL at hct hfb2
    simp only [StV.v, StV.row, rowSt, rowMo, z8, rowDn, rowAc, Sl.v] at c1 c2 c3 c4 c5 hix hia g1 ih2 b0 b1e b20 b21 st4 ha1 hcm
    rw [h1] at c3 c5 st4 ih2
    by_cases hn : name = ⟨#[]⟩
    ·have hnd : decide (name = ⟨#[]⟩) = true := decide_eq_true hn
     have hwf := hwin hn
     simp (maxSteps := 1000000) only [go_sem, b_t_TopCommandNeverForbidden_l2, g1, g2, g5, g7, g11, hs, lt_dec hk, l1, l2, hix, rep1, c1, c2, c3, c4, c5, ha1, b0, b1e, fA, fB, b_Within, h0, hw1, hne, hgf, hia, st1, b20, b21, b22, b2N, b2N1, hcm, hct, hfb2, hnd, hwf, st4, hwk, ne_eq, not_true, decide_false, Nat.reduceEqDiff, Nat.reduceAdd, Int.reduceNeg, ↓reduceIte, ne_eq, not_true]
     refine ih2 _ _ ?_ ?_ ?_ ?_ ?_ ?_ ?_
     all_goals first | exact g1 | exact g2 | exact g5 | exact g7 | exact g10 | rfl
    ·have hnd : decide (name = ⟨#[]⟩) = false := decide_eq_false hn
     simp (maxSteps := 1000000) only [go_sem, b_t_TopCommandNeverForbidden_l2, g1, g2, g5, g7, g11, hs, lt_dec hk, l1, l2, hix, rep1, c1, c2, c3, c4, c5, ha1, b0, b1e, fA, fB, b_Within, h0, hw1, hne, hgf, hia, st1, b20, b21, b22, b2N, b2N1, hcm, hct, hfb2, hnd, st4, hwk, ne_eq, not_true, decide_false, Nat.reduceEqDiff, Nat.reduceAdd, Int.reduceNeg, ↓reduceIte, ne_eq, not_true]
     refine ih2 _ _ ?_ ?_ ?_ ?_ ?_ ?_ ?_
     all_goals first | exact g1 | exact g2 | exact g5 | exact g7 | exact g10 | rfl
  ·obtain ⟨y', hy'⟩ : ∃ y', y' = apY (cpUp u) (cpSt x) e.1 e.2 := ⟨_, rfl⟩
   rw [← hy'] at c3
   have c5 := fill_res (s := s) (bx := bx) (tk := tk) (x := y') hs
   have ih2 : ∀ ρ', ρ' 1 = evs.v rowDn → ρ' 2 = .ptr s.acts.length 0 0 → ρ' 5 = .ptr s.acts.length 1 0 → ρ' 7 = .ptr s.acts.length 2 0 → ρ' 11 = I (k + 1 : Nat) → ρ' 10 = S rs → ρ' 9 = ρ 9 → go AP f_t_TopCommandNeverForbidden (.c (.loop b_t_TopCommandNeverForbidden_l2) :: k_t_TopCommandNeverForbidden_2) ⟨ρ', s.push ⟨bx ++ [y'.row], tk⟩⟩ = some (B true, s) := fun ρ' a1 a2 a3 a4 a5 a6 a7 =>
    ih ρ' _ ⟨a1, a2, a3, a4, a5, _, tk, x, log, nm, na, last, bL, rs, og, rfl, ⟨box_app hI.b0, box_app hI.b1, box_app hI.b2, box_app hI.bl, hI.l3, hI.mom, hI.ok, hI.cut, hI.run⟩, a6, by rw [a7]; exact hA, by omega⟩
   generalize hyr : y'.row = YR at *
   have hyv : y'.v = .agg YR := by rw [← hyr]
   rw [hyv] at c3 c5
   generalize x.row = YR0 at *
   generalize (cpSt x).row = YR1 at *
   simp only [z8, rowDn] at c1 c2 c3 c4 c5 hix
   generalize rowUp u = UR at *
   generalize rowUp (cpUp u) = UR1 at *
   generalize apE (cpUp u) x.q e.1 e.2 = E at *
   simp only [Sl.v] at hix g1 ih2
   simp (maxSteps := 1000000) only [go_sem, b_t_TopCommandNeverForbidden_l2, g1, g2, g5, g11, lt_dec hk, l1, l2, hix, rep1, c1, c2, c3, c4, c5, hE, hwk, ne_eq, not_false_iff, decide_true, Nat.reduceEqDiff, Int.reduceNeg, ↓reduceIte, ne_eq]
   refine ih2 _ ?_ ?_ ?_ ?_ ?_ ?_ ?_
   all_goals first | exact g1 | exact g2 | exact g5 | exact g7 | exact g10 | rfl
 ·rintro ρ m ⟨g1, g2, g5, g7, g11, bx, tk, x, log, nm, na, last, bL, rs, og, rfl, hI, g10, hA, hlk⟩
  obtain ⟨o', e', hx9, hRe⟩ := Acc.sl hA
  have hq := hI.run.ok
  have hr := law_r2 (bx := bx) (tk := tk) (nm := rs) (log := log) (oL := o') (eL := e') hs hu hv hI.ok (by have h1 : x.done.l.length ≤ (cpUp u).file.l.length := hq.dl; have := hcv.f1; omega) (by omega) (by
   rcases hRe with h | h
   ·left; simpa using h
   ·exact .inr h) hI.run.pre hI.b0 hI.b1
  have h3 : go AP f_t_TopCommandNeverForbidden (.c b_t_TopCommandNeverForbidden_l2 :: .lp b_t_TopCommandNeverForbidden_l2 :: k_t_TopCommandNeverForbidden_2) ⟨ρ, s.push ⟨bx, tk⟩⟩ = some (B true, s) := by
   simp (maxSteps := 1000000) only [go_sem, b_t_TopCommandNeverForbidden_l2, g1, g11, ge_dec, Nat.reduceEqDiff, Int.reduceNeg, ↓reduceIte]
   exact hr _ ⟨hx9, g5, g2, g10⟩
  exact h3
end
end Go.Ax.Sx.Cm

namespace Go.Ax.Sx.Cm
open Go.Ax
set_option linter.unusedSimpArgs false
set_option linter.unusedVariables false
set_option maxRecDepth 100000
section
variable {s : Sig}
theorem law_r3 {u : Upl} {evs : Sl (Int × Int)} {bx : List (List AV)} {tk : List (Option Nat)} {bL : Nat} (hs : Ok s) (hu : u.Ok) (hv : UpVal u) (he : evs.ok 2) (hel : evs.l.length ≤ 50)
  (h0 : bx[0]? = some (rowUp u)) (h1 : bx[1]? = some zeroSt.row) (h2 : bx[2]? = some [I 0, I 0, .rsl s.acts.length bL 0 1 u.m.kinds.l.length 0]) (hL : bx[bL]? = some ((last0 u.m.kinds.l.length).map I)) (h3 : 3 ≤ bL) :
  ∀ ρ, (ρ 1 = evs.v rowDn ∧ ρ 2 = .ptr s.acts.length 0 0 ∧ ρ 5 = .ptr s.acts.length 1 0 ∧ ρ 7 = .ptr s.acts.length 2 0) → go AP f_t_TopCommandNeverForbidden [.c b_t_TopCommandNeverForbidden_r3] ⟨ρ, s.push ⟨bx, tk⟩⟩ = some (B true, s) := by
 rintro ρ ⟨g1, g2, g5, g7⟩
 have hll : (last0 u.m.kinds.l.length).length = u.m.kinds.l.length := by simp [last0]
 have hk := law_l2 (s := s) hs hu hv he hel
 have h4 : ∀ ρ', ρ' 1 = evs.v rowDn → ρ' 2 = .ptr s.acts.length 0 0 → ρ' 5 = .ptr s.acts.length 1 0 → ρ' 7 = .ptr s.acts.length 2 0 → ρ' 11 = I 0 → ρ' 10 = S ⟨#[]⟩ → ρ' 9 = .slice .nilS 0 [] → go AP f_t_TopCommandNeverForbidden (.c (.loop b_t_TopCommandNeverForbidden_l2) :: k_t_TopCommandNeverForbidden_2) ⟨ρ', s.push ⟨bx, tk⟩⟩ = some (B true, s) := fun ρ' a1 a2 a3 a4 a5 a6 a7 =>
  hk 0 ρ' _ (Nat.zero_le _) ⟨a1, a2, a3, a4, a5, bx, tk, zeroSt, [], 0, 0, last0 u.m.kinds.l.length, bL, ⟨#[]⟩, none, rfl, ⟨h0, h1, by rw [hll]; exact h2, hL, h3, rfl, ⟨⟨.inl rfl, .inr (.inr ⟨rfl, rfl⟩)⟩, ⟨.inl rfl, .inr (.inr ⟨rfl, rfl⟩)⟩, ⟨.inl rfl, .inr (.inr ⟨rfl, rfl⟩)⟩, by decide, by decide, by decide⟩, .inl rfl, RunI.start (cp_val hv).uval⟩, a6, by rw [a7]; exact Acc.start, Nat.le_refl _⟩
 simp (maxSteps := 1000000) only [go_sem, b_t_TopCommandNeverForbidden_r3]
 refine h4 _ ?_ ?_ ?_ ?_ ?_ ?_ ?_
 all_goals first | exact g1 | exact g2 | exact g5 | exact g7 | rfl
theorem law_l3 {u : Upl} {evs : Sl (Int × Int)} (hs : Ok s) (hu : u.Ok) (hv : UpVal u) (he : evs.ok 2) (hel : evs.l.length ≤ 50) :
  ∀ k ρ m, k ≤ u.m.kinds.l.length → (ρ 1 = evs.v rowDn ∧ ρ 2 = .ptr s.acts.length 0 0 ∧ ρ 5 = .ptr s.acts.length 1 0 ∧ ρ 7 = .ptr s.acts.length 2 0 ∧ ρ 8 = I k ∧
   ∃ (bx : List (List AV)) (tk : List (Option Nat)) (x : AV), m = s.push ⟨bx, tk⟩ ∧ bx[0]? = some (rowUp u) ∧ bx[1]? = some zeroSt.row ∧ bx[2]? = some [I 0, I 0, x] ∧ GX s.acts.length 1 ((last0 k).map I) k x bx ∧ (∀ b es n, x = .rsl s.acts.length b 0 es n 0 → 3 ≤ b)) →
   go AP f_t_TopCommandNeverForbidden (.c (.loop b_t_TopCommandNeverForbidden_l3) :: k_t_TopCommandNeverForbidden_3) ⟨ρ, m⟩ = some (B true, s) := by
 have hkl := hv.m.k1
 refine loop_up u.m.kinds.l.length _ (fun _ => some (B true, s)) ?_ ?_
 ·rintro k ρ m hk ⟨g1, g2, g5, g7, g8, bx, tk, x, rfl, h0, h1, h2, hG, h3⟩ ih
  have hwk := wrap_succ hk (show (u.m.kinds.l.length : Int) < _ by omega)
  have b0 : (s.push ⟨bx, tk⟩).box s.acts.length 0 = some (rowUp u) := by rw [box_push]; exact h0
  have b2 : (s.push ⟨bx, tk⟩).box s.acts.length 2 = some [I 0, I 0, x] := by rw [box_push]; exact h2
  have rb := rowBox_i (s := s) (tk := tk) (bs := bx) (n := -1)
  have hG1 : GX s.acts.length 1 ((last0 k).map I) k x (bx ++ [[I (-1)]]) := by
   rcases hG with h | ⟨hn, b, hb, hx⟩
   ·exact .inl h
   ·exact .inr ⟨hn, b, box_app hb, hx⟩
  obtain ⟨x', bs', tk', e1, e2, e3, b', e4, e5, e6⟩ := appendh_cur (tk := tk) (p := 2) (q := 2) (c := 1) hs hG1 (b0 := bx.length) (r2 := [I (-1)]) (by simp) rfl (by simp [last0]) (by omega)
  have hbl : 3 ≤ bx.length := by have := (List.getElem?_eq_some_iff.1 h2).1; omega
  have hkeep : ∀ j, j < 3 → bs'[j]? = bx[j]? := fun j hj => by
   rw [e3.2 j (by simp; omega) (fun es n hx => by have := h3 j es n hx; omega), List.getElem?_append_left (by omega)]
  have c2 : bs'[2]? = some [I 0, I 0, x] := by rw [hkeep 2 (by decide)]; exact h2
  have hl2 := (List.getElem?_eq_some_iff.1 c2).1
  have hst : (s.push ⟨bs', tk'⟩).store 1 (.ptr s.acts.length 2 2) x' = some (s.push ⟨bs'.set 2 [I 0, I 0, x'], tk'⟩) := by
   rw [store_ptr hs, c2, e5]; rfl
  have hb3 : 3 ≤ b' := by simp at e6; omega
  have ih2 : ∀ ρ', ρ' 1 = evs.v rowDn → ρ' 2 = .ptr s.acts.length 0 0 → ρ' 5 = .ptr s.acts.length 1 0 → ρ' 7 = .ptr s.acts.length 2 0 → ρ' 8 = I (k + 1 : Nat) → go AP f_t_TopCommandNeverForbidden (.c (.loop b_t_TopCommandNeverForbidden_l3) :: k_t_TopCommandNeverForbidden_3) ⟨ρ', s.push ⟨bs'.set 2 [I 0, I 0, x'], tk'⟩⟩ = some (B true, s) := fun ρ' a1 a2 a3 a4 a5 => by
   refine ih ρ' _ ⟨a1, a2, a3, a4, a5, _, tk', x', rfl, ?_, ?_, ?_, ?_, fun b es n hx => ?_⟩
   ·rw [List.getElem?_set_ne (by decide), hkeep 0 (by decide)]; exact h0
   ·rw [List.getElem?_set_ne (by decide), hkeep 1 (by decide)]; exact h1
   ·rw [List.getElem?_set_self hl2]
   ·refine .inr ⟨by omega, b', ?_, e5⟩
    rw [List.getElem?_set_ne (by omega), e4]
    have : last0 (k + 1) = last0 k ++ [-1] := by unfold last0; rw [List.replicate_succ']
    rw [this, List.map_append]; rfl
   ·rw [e5] at hx
    injection hx with _ hx
    omega
  simp only [rowUp, Sl.v] at b0
  simp (maxSteps := 1000000) only [go_sem, b_t_TopCommandNeverForbidden_l3, g2, g7, g8, lt_dec hk, b0, b2, rb, e1, hst, hwk, Nat.reduceEqDiff, Nat.reduceAdd, Int.reduceNeg, ↓reduceIte]
  refine ih2 _ ?_ ?_ ?_ ?_ ?_
  all_goals first | exact g1 | exact g2 | exact g5 | exact g7 | rfl
 ·rintro ρ m ⟨g1, g2, g5, g7, g8, bx, tk, x, rfl, h0, h1, h2, hG, h3⟩
  have b0 : (s.push ⟨bx, tk⟩).box s.acts.length 0 = some (rowUp u) := by rw [box_push]; exact h0
  have hk0 := hv.m.k0
  obtain ⟨_, b, hb, rfl⟩ : 0 < u.m.kinds.l.length ∧ ∃ b, bx[b]? = some ((last0 u.m.kinds.l.length).map I) ∧ x = .rsl s.acts.length b 0 1 u.m.kinds.l.length 0 := by
   rcases hG with ⟨h, _⟩ | h
   ·omega
   ·exact h
  have hr := law_r3 (tk := tk) hs hu hv he hel h0 h1 h2 hb (h3 b _ _ rfl)
  have h4 : go AP f_t_TopCommandNeverForbidden (.c b_t_TopCommandNeverForbidden_l3 :: .lp b_t_TopCommandNeverForbidden_l3 :: k_t_TopCommandNeverForbidden_3) ⟨ρ, s.push ⟨bx, tk⟩⟩ = some (B true, s) := by
   simp only [rowUp, Sl.v] at b0
   simp (maxSteps := 1000000) only [go_sem, b_t_TopCommandNeverForbidden_l3, g2, g8, ge_dec, b0, Nat.reduceEqDiff, Nat.reduceAdd, Int.reduceNeg, ↓reduceIte]
   exact hr _ ⟨g1, g2, g5, g7⟩
  exact h4
theorem t_TopCommandNeverForbidden {u : Upl} {evs : Sl (Int × Int)} (hs : Ok s) (hu : u.Raw) (he : evs.ok 2) (hel : (evs.l.length : Int) < 9223372036854775808) : callL AP (.fn 3) [u.v, evs.v rowDn] s = some (B true, s) := by
 show callL AP (.fn 3) [.agg (rowUp u), evs.v rowDn] s = some (B true, s)
 have hcs : ∀ q, callL AP (.fn 4) [] (s.push q) = some (B true, s.push q) := fun q => t_commandShown (hs.push q)
 obtain ⟨b, h1, h2⟩ := t_commandSmall (s := s.push ⟨[rowUp u], []⟩) (hs.push _) hu
 have h1 : callL AP (.fn 5) [.agg (rowUp u)] (s.push ⟨[rowUp u], []⟩) = some (B b, s.push ⟨[rowUp u], []⟩) := h1
 have hpt : cutN 0 6 (rowUp u) = some (rowUp u) := rfl
 have bx0 : (AV.agg (rowUp u)).cells = rowUp u := rfl
 have hbox : ∀ r : Rec, boxOp (s.push r) 6 (.agg (rowUp u)) = some (.ptr s.acts.length r.boxes.length 0, s.push ⟨r.boxes ++ [rowUp u], r.toks⟩) := fun r => by
  obtain ⟨x, y⟩ := r
  unfold boxOp
  rw [if_pos ⟨rfl, rfl, by decide⟩]
  simp only [AV.cells, newBox_push]
 cases b with
 | false =>
  generalize rowUp u = UR at *
  rw [callL_go (show AP 3 = some c_t_TopCommandNeverForbidden from rfl) rfl]
  simp (maxSteps := 1000000) only [go_sem, b_t_TopCommandNeverForbidden, hcs, hbox, hpt, h1, Nat.reduceEqDiff, ↓reduceIte]
 | true =>
  obtain ⟨hok, hval⟩ := h2 rfl
  by_cases h50 : evs.l.length ≤ 50
  ·have d50 : decide ((50 : Int) < (evs.l.length : Int)) = false := decide_eq_false (by omega)
   have hcu : callL AP (.fn 7) [.agg (rowUp u)] (s.push ⟨[rowUp u], []⟩) = some (.agg (rowUp (cpUp u)), s.push ⟨[rowUp u], []⟩) := r_CopyUplink (hs.push _) hok.src
   have hbg : callL AP (.fn 6) [.agg (rowUp (cpUp u))] (s.push ⟨[rowUp u], []⟩) = some (.tuple [.agg z8, I 0], s.push ⟨[rowUp u], []⟩) := by
    have := command_Begin (s := s.push ⟨[rowUp u], []⟩) (hs.push _) (cpUp_Ok hok)
    rw [(cp_val hval).uval.e] at this
    exact this
   have h3 := law_l3 (s := s) hs hok hval he h50
   have h4 : ∀ ρ', ρ' 1 = evs.v rowDn → ρ' 2 = .ptr s.acts.length 0 0 → ρ' 5 = .ptr s.acts.length 1 0 → ρ' 7 = .ptr s.acts.length 2 0 → ρ' 8 = I 0 → go AP f_t_TopCommandNeverForbidden (.c (.loop b_t_TopCommandNeverForbidden_l3) :: k_t_TopCommandNeverForbidden_3) ⟨ρ', s.push ⟨[rowUp u, z8, [I 0, I 0, .slice .nilS 0 []]], []⟩⟩ = some (B true, s) := fun ρ' a1 a2 a3 a4 a5 =>
    h3 0 ρ' _ (Nat.zero_le _) ⟨a1, a2, a3, a4, a5, _, [], .slice .nilS 0 [], rfl, rfl, rfl, rfl, .inl ⟨rfl, rfl, rfl⟩, fun b es n hx => by cases hx⟩
   generalize rowUp u = UR at *
   generalize rowUp (cpUp u) = UR1 at *
   simp only [z8, Sl.v] at hbg h4
   rw [callL_go (show AP 3 = some c_t_TopCommandNeverForbidden from rfl) rfl]
   simp (maxSteps := 1000000) only [go_sem, b_t_TopCommandNeverForbidden, hs, hcs, hbox, hpt, h1, d50, hcu, hbg, ne_eq, not_true, decide_false, Nat.reduceEqDiff, Nat.reduceAdd, ↓reduceIte, ne_eq, not_true]
   refine h4 _ ?_ ?_ ?_ ?_ ?_ <;> rfl
  ·have d50 : decide ((50 : Int) < (evs.l.length : Int)) = true := decide_eq_true (by omega)
   generalize rowUp u = UR at *
   rw [callL_go (show AP 3 = some c_t_TopCommandNeverForbidden from rfl) rfl]
   simp (maxSteps := 1000000) only [go_sem, b_t_TopCommandNeverForbidden, hcs, hbox, hpt, h1, d50, Nat.reduceEqDiff, ↓reduceIte]
end
end Go.Ax.Sx.Cm

namespace Go.Proofs.Ytolmeamlfkbafaa.AxOk
open Go.Ax Go.Ax.Sx Go.Ax.Sx.Cm
set_option maxRecDepth 100000

theorem k3 : compFn Try.prog false { grow := false, flat := [], nat := [], only := [55, 56], rows := true } Try.f3 = some c_t_TopCommandNeverForbidden := by kernel_rfl
theorem k4 : compFn Try.prog false { grow := false, flat := [], nat := [], only := [] } Try.f4 = some c_t_commandShown := by kernel_rfl
theorem k5 : compFn Try.prog false { grow := false, flat := [], nat := [], only := [] } Try.f5 = some c_t_commandSmall := by kernel_rfl
theorem k6 : compFn Try.prog false { grow := false, flat := [], nat := [], only := [] } Try.f6 = some c_command_Begin := by kernel_rfl
theorem k7 : compFn Try.prog false { grow := false, flat := [], nat := [], only := [] } Try.f7 = some c_r_CopyUplink := by kernel_rfl
theorem k8 : compFn Try.prog false { grow := false, flat := [23], nat := [], only := [] } Try.f8 = some c_command_Apply := by kernel_rfl
theorem k9 : compFn Try.prog false { grow := false, flat := [], nat := [], only := [] } Try.f9 = some c_r_Copy := by kernel_rfl
theorem k10 : compFn Try.prog false { grow := false, flat := [], nat := [], only := [] } Try.f10 = some c_b_Within := by kernel_rfl
theorem k11 : compFn Try.prog false { grow := false, flat := [], nat := [], only := [] } Try.f11 = some c_command_ForbiddenBy := by kernel_rfl
theorem k12 : compFn Try.prog false { grow := false, flat := [], nat := [], only := [] } Try.f12 = some c_r_CopyModel := by kernel_rfl
theorem k13 : compFn Try.prog false { grow := false, flat := [], nat := [], only := [] } Try.f13 = some c_r_CopyMoment := by kernel_rfl
theorem k14 : compFn Try.prog false { grow := false, flat := [], nat := [], only := [] } Try.f14 = some c_r_SameDone := by kernel_rfl
theorem k15 : compFn Try.prog false { grow := false, flat := [], nat := [], only := [] } Try.f15 = some c_l_Uplink := by kernel_rfl
theorem k16 : compFn Try.prog false { grow := false, flat := [37], nat := [], only := [] } Try.f16 = some c_command_ModesOf := by kernel_rfl
theorem k17 : compFn Try.prog false { grow := false, flat := [], nat := [], only := [] } Try.f17 = some c_command_Executed := by kernel_rfl
theorem k18 : compFn Try.prog false { grow := false, flat := [], nat := [], only := [] } Try.f18 = some c_b_Ints := by kernel_rfl
theorem k19 : compFn Try.prog false { grow := false, flat := [], nat := [], only := [] } Try.f19 = some c_l_Few := by kernel_rfl
theorem k20 : compFn Try.prog false { grow := false, flat := [], nat := [], only := [] } Try.f20 = some c_r_UplinkErr := by kernel_rfl
theorem k21 : compFn Try.prog false { grow := false, flat := [], nat := [], only := [] } Try.f21 = some c_command_CheckUplink := by kernel_rfl
theorem k22 : compFn Try.prog false { grow := false, flat := [], nat := [], only := [] } Try.f22 = some c_r_CopyFile := by kernel_rfl
theorem k23 : compFn Try.prog false { grow := false, flat := [41, 42], nat := [], only := [] } Try.f23 = some c_command_resume := by kernel_rfl
theorem k24 : compFn Try.prog false { grow := false, flat := [], nat := [], only := [] } Try.f24 = some c_command_first := by kernel_rfl
theorem k25 : compFn Try.prog false { grow := false, flat := [], nat := [], only := [] } Try.f25 = some c_command_CheckEvent := by kernel_rfl
theorem k26 : compFn Try.prog false { grow := false, flat := [], nat := [], only := [] } Try.f26 = some c_command_link_process := by kernel_rfl
theorem k27 : compFn Try.prog false { grow := false, flat := [], nat := [], only := [], place := true } Try.f27 = some c_b_CopyInts := by kernel_rfl
theorem k28 : compFn Try.prog false { grow := false, flat := [], nat := [], only := [] } Try.f28 = some c_command_ForbiddenBy_1 := by kernel_rfl
theorem k29 : compFn Try.prog false { grow := false, flat := [], nat := [], only := [] } Try.f29 = some c_command_within := by kernel_rfl
theorem k30 : compFn Try.prog false { grow := false, flat := [], nat := [], only := [] } Try.f30 = some c_command_modelErr := by kernel_rfl
theorem k31 : compFn Try.prog false { grow := false, flat := [], nat := [], only := [] } Try.f31 = some c_command_unless := by kernel_rfl
theorem k32 : compFn Try.prog false { grow := false, flat := [], nat := [], only := [] } Try.f32 = some c_command_isTick := by kernel_rfl
theorem k33 : compFn Try.prog false { grow := false, flat := [], nat := [], only := [] } Try.f33 = some c_z_ContainsFunc_int := by kernel_rfl
theorem k34 : compFn Try.prog false { grow := false, flat := [], nat := [], only := [] } Try.f34 = some c_command_probe_forbids := by kernel_rfl
theorem k35 : compFn Try.prog false { grow := false, flat := [], nat := [], only := [] } Try.f35 = some c_b_CopyTexts := by kernel_rfl
theorem k36 : compFn Try.prog false { grow := false, flat := [], nat := [], only := [] } Try.f36 = some c_command_CheckFile := by kernel_rfl
theorem k37 : compFn Try.prog false { grow := false, flat := [], nat := [], only := [], boxed := [50] } Try.f37 = some c_command_newProbe := by kernel_rfl
theorem k38 : compFn Try.prog false { grow := false, flat := [], nat := [], only := [] } Try.f38 = some c_command_probe_execute := by kernel_rfl
theorem k39 : compFn Try.prog false { grow := false, flat := [41], nat := [], only := [] } Try.f39 = some c_command_Replay := by kernel_rfl
theorem k40 : compFn Try.prog false { grow := false, flat := [], nat := [], only := [] } Try.f40 = some c_r_FileErr := by kernel_rfl
theorem k41 : compFn Try.prog false { grow := false, flat := [37], nat := [], only := [], watch := [37] } Try.f41 = some c_command_begin := by kernel_rfl
theorem k42 : compFn Try.prog false { grow := false, flat := [], nat := [], only := [], boxed := [53, 54, 55] } Try.f42 = some c_command_link_state := by kernel_rfl
theorem k43 : compFn Try.prog false { grow := false, flat := [], nat := [], only := [] } Try.f43 = some c_command_probe_accepts := by kernel_rfl
theorem k44 : compFn Try.prog false { grow := false, flat := [], nat := [], only := [] } Try.f44 = some c_command_resume_1 := by kernel_rfl
theorem k45 : compFn Try.prog false { grow := false, flat := [], nat := [], only := [] } Try.f45 = some c_command_kinds := by kernel_rfl
theorem k46 : compFn Try.prog false { grow := false, flat := [], nat := [], only := [] } Try.f46 = some c_command_CheckModel := by kernel_rfl
theorem k47 : compFn Try.prog false { grow := false, flat := [], nat := [], only := [] } Try.f47 = some c_z_IndexFunc_int := by kernel_rfl
theorem k48 : compFn Try.prog false { grow := false, flat := [], nat := [], only := [] } Try.f48 = some c_command_probe_concerns := by kernel_rfl
theorem k49 : compFn Try.prog false { grow := false, flat := [], nat := [], only := [] } Try.f49 = some c_command_actErr := by kernel_rfl
theorem k50 : compFn Try.prog true { grow := true, flat := [], nat := [], only := [30] } Try.f50 = some c_z_Repeat_int := by kernel_rfl
theorem k51 : compFn Try.prog false { grow := false, flat := [], nat := [], only := [] } Try.f51 = some c_r_ModelErr := by kernel_rfl
theorem k52 : compFn Try.prog false { grow := false, flat := [], nat := [], only := [] } Try.f52 = some c_r_CheckFile := by kernel_rfl
theorem k53 : compFn Try.prog true { grow := false, flat := [], nat := [], only := [], place := true } Try.f53 = some c_z_Clone_CommandDone := by kernel_rfl
theorem k54 : compFn Try.prog true { grow := false, flat := [], nat := [], only := [], place := true } Try.f54 = some c_z_Clone_int := by kernel_rfl
theorem k55 : compFn Try.prog true { grow := false, flat := [], nat := [], only := [], place := true } Try.f55 = some c_z_Clone_CommandReport := by kernel_rfl
theorem k56 : compFn Try.prog false { grow := false, flat := [], nat := [], only := [] } Try.f56 = some c_command_link_pass := by kernel_rfl
theorem k57 : compFn Try.prog false { grow := true, flat := [], nat := [], only := [], rows := true } Try.f57 = some c_command_link_send := by kernel_rfl
theorem k58 : compFn Try.prog false { grow := true, flat := [], nat := [], only := [], rows := true } Try.f58 = some c_command_link_arrive := by kernel_rfl
theorem k59 : compFn Try.prog false { grow := false, flat := [], nat := [], only := [] } Try.f59 = some c_command_link_hear := by kernel_rfl
theorem k60 : compFn Try.prog false { grow := false, flat := [], nat := [], only := [] } Try.f60 = some c_command_link_lose := by kernel_rfl
theorem k61 : compFn Try.prog false { grow := false, flat := [], nat := [], only := [] } Try.f61 = some c_command_link_drop := by kernel_rfl
theorem k62 : compFn Try.prog false { grow := true, flat := [], nat := [], only := [], rows := true } Try.f62 = some c_command_link_repeat := by kernel_rfl
theorem k63 : compFn Try.prog false { grow := false, flat := [], nat := [], only := [] } Try.f63 = some c_command_link_restart := by kernel_rfl
theorem k64 : compFn Try.prog false { grow := false, flat := [], nat := [], only := [] } Try.f64 = some c_command_link_reboot := by kernel_rfl
theorem k65 : compFn Try.prog false { grow := false, flat := [], nat := [], only := [] } Try.f65 = some c_command_CheckModel_1 := by kernel_rfl
theorem k66 : compFn Try.prog false { grow := false, flat := [], nat := [], only := [] } Try.f66 = some c_command_checker_list := by kernel_rfl
theorem k67 : compFn Try.prog false { grow := false, flat := [], nat := [], only := [] } Try.f67 = some c_command_CheckModel_2 := by kernel_rfl
theorem k68 : compFn Try.prog false { grow := false, flat := [], nat := [], only := [] } Try.f68 = some c_command_CheckModel_3 := by kernel_rfl
theorem k69 : compFn Try.prog false { grow := false, flat := [], nat := [], only := [] } Try.f69 = some c_command_CheckModel_4 := by kernel_rfl
theorem k70 : compFn Try.prog false { grow := false, flat := [], nat := [], only := [] } Try.f70 = some c_command_CheckModel_5 := by kernel_rfl
theorem k71 : compFn Try.prog false { grow := false, flat := [], nat := [], only := [] } Try.f71 = some c_command_CheckModel_6 := by kernel_rfl
theorem k72 : compFn Try.prog false { grow := false, flat := [], nat := [], only := [] } Try.f72 = some c_command_CheckModel_7 := by kernel_rfl
theorem k73 : compFn Try.prog false { grow := false, flat := [], nat := [], only := [] } Try.f73 = some c_math_bits_Mul := by kernel_rfl
theorem k74 : compFn Try.prog false { grow := false, flat := [], nat := [], only := [] } Try.f74 = some c_r_CheckModel := by kernel_rfl
theorem k75 : compFn Try.prog false { grow := false, flat := [], nat := [], only := [] } Try.f75 = some c_command_take_int := by kernel_rfl
theorem k76 : compFn Try.prog false { grow := true, flat := [], nat := [], only := [], rows := true } Try.f76 = some c_command_link_report := by kernel_rfl
theorem k77 : compFn Try.prog false { grow := false, flat := [], nat := [], only := [] } Try.f77 = some c_command_take_api_CommandReport := by kernel_rfl
theorem k78 : compFn Try.prog false { grow := false, flat := [], nat := [], only := [] } Try.f78 = some c_command_isName := by kernel_rfl
theorem k79 : compFn Try.prog false { grow := false, flat := [], nat := [], only := [] } Try.f79 = some c_math_bits_Mul32 := by kernel_rfl
theorem k80 : compFn Try.prog false { grow := false, flat := [], nat := [], only := [] } Try.f80 = some c_math_bits_Mul64 := by kernel_rfl
theorem k81 : compFn Try.prog false { grow := false, flat := [], nat := [], only := [] } Try.f81 = some c_r_mark := by kernel_rfl
theorem k82 : compFn Try.prog false { grow := false, flat := [], nat := [], only := [] } Try.f82 = some c_b_IsName := by kernel_rfl
theorem k83 : compFn Try.prog false { grow := false, flat := [], nat := [], only := [] } Try.f83 = some c_b_HasText := by kernel_rfl
theorem k84 : compFn Try.prog false { grow := false, flat := [], nat := [], only := [], place := true } Try.f84 = some c_z_Delete_int := by kernel_rfl
theorem k85 : compFn Try.prog false { grow := false, flat := [], nat := [], only := [], place := true } Try.f85 = some c_z_Delete_CommandReport := by kernel_rfl

theorem code_ok (f : FuncId) (np nt : Nat) (b : ACode) (rs : List ARes) (own : Bool) (h : AP f = some (.code np nt b rs own)) : ∃ fn mu, Try.prog.funcs[f]? = some fn ∧ compFn Try.prog own mu fn = some (.code np nt b rs own) := by
  match f, h with
  | 0, h => have e : AP 0 = none := rfl; rw [e] at h; cases h
  | 1, h => have e : AP 1 = none := rfl; rw [e] at h; cases h
  | 2, h => have e : AP 2 = none := rfl; rw [e] at h; cases h
  | 3, h => have e : c_t_TopCommandNeverForbidden = .code np nt b rs own := Option.some.inj h; unfold c_t_TopCommandNeverForbidden at e; cases e; exact ⟨_, _, Try.func3, k3⟩
  | 4, h => have e : c_t_commandShown = .code np nt b rs own := Option.some.inj h; unfold c_t_commandShown at e; cases e; exact ⟨_, _, Try.func4, k4⟩
  | 5, h => have e : c_t_commandSmall = .code np nt b rs own := Option.some.inj h; unfold c_t_commandSmall at e; cases e; exact ⟨_, _, Try.func5, k5⟩
  | 6, h => have e : c_command_Begin = .code np nt b rs own := Option.some.inj h; unfold c_command_Begin at e; cases e; exact ⟨_, _, Try.func6, k6⟩
  | 7, h => have e : c_r_CopyUplink = .code np nt b rs own := Option.some.inj h; unfold c_r_CopyUplink at e; cases e; exact ⟨_, _, Try.func7, k7⟩
  | 8, h => have e : c_command_Apply = .code np nt b rs own := Option.some.inj h; unfold c_command_Apply at e; cases e; exact ⟨_, _, Try.func8, k8⟩
  | 9, h => have e : c_r_Copy = .code np nt b rs own := Option.some.inj h; unfold c_r_Copy at e; cases e; exact ⟨_, _, Try.func9, k9⟩
  | 10, h => have e : c_b_Within = .code np nt b rs own := Option.some.inj h; unfold c_b_Within at e; cases e; exact ⟨_, _, Try.func10, k10⟩
  | 11, h => have e : c_command_ForbiddenBy = .code np nt b rs own := Option.some.inj h; unfold c_command_ForbiddenBy at e; cases e; exact ⟨_, _, Try.func11, k11⟩
  | 12, h => have e : c_r_CopyModel = .code np nt b rs own := Option.some.inj h; unfold c_r_CopyModel at e; cases e; exact ⟨_, _, Try.func12, k12⟩
  | 13, h => have e : c_r_CopyMoment = .code np nt b rs own := Option.some.inj h; unfold c_r_CopyMoment at e; cases e; exact ⟨_, _, Try.func13, k13⟩
  | 14, h => have e : c_r_SameDone = .code np nt b rs own := Option.some.inj h; unfold c_r_SameDone at e; cases e; exact ⟨_, _, Try.func14, k14⟩
  | 15, h => have e : c_l_Uplink = .code np nt b rs own := Option.some.inj h; unfold c_l_Uplink at e; cases e; exact ⟨_, _, Try.func15, k15⟩
  | 16, h => have e : c_command_ModesOf = .code np nt b rs own := Option.some.inj h; unfold c_command_ModesOf at e; cases e; exact ⟨_, _, Try.func16, k16⟩
  | 17, h => have e : c_command_Executed = .code np nt b rs own := Option.some.inj h; unfold c_command_Executed at e; cases e; exact ⟨_, _, Try.func17, k17⟩
  | 18, h => have e : c_b_Ints = .code np nt b rs own := Option.some.inj h; unfold c_b_Ints at e; cases e; exact ⟨_, _, Try.func18, k18⟩
  | 19, h => have e : c_l_Few = .code np nt b rs own := Option.some.inj h; unfold c_l_Few at e; cases e; exact ⟨_, _, Try.func19, k19⟩
  | 20, h => have e : c_r_UplinkErr = .code np nt b rs own := Option.some.inj h; unfold c_r_UplinkErr at e; cases e; exact ⟨_, _, Try.func20, k20⟩
  | 21, h => have e : c_command_CheckUplink = .code np nt b rs own := Option.some.inj h; unfold c_command_CheckUplink at e; cases e; exact ⟨_, _, Try.func21, k21⟩
  | 22, h => have e : c_r_CopyFile = .code np nt b rs own := Option.some.inj h; unfold c_r_CopyFile at e; cases e; exact ⟨_, _, Try.func22, k22⟩
  | 23, h => have e : c_command_resume = .code np nt b rs own := Option.some.inj h; unfold c_command_resume at e; cases e; exact ⟨_, _, Try.func23, k23⟩
  | 24, h => have e : c_command_first = .code np nt b rs own := Option.some.inj h; unfold c_command_first at e; cases e; exact ⟨_, _, Try.func24, k24⟩
  | 25, h => have e : c_command_CheckEvent = .code np nt b rs own := Option.some.inj h; unfold c_command_CheckEvent at e; cases e; exact ⟨_, _, Try.func25, k25⟩
  | 26, h => have e : c_command_link_process = .code np nt b rs own := Option.some.inj h; unfold c_command_link_process at e; cases e; exact ⟨_, _, Try.func26, k26⟩
  | 27, h => have e : c_b_CopyInts = .code np nt b rs own := Option.some.inj h; unfold c_b_CopyInts at e; cases e; exact ⟨_, _, Try.func27, k27⟩
  | 28, h => have e : c_command_ForbiddenBy_1 = .code np nt b rs own := Option.some.inj h; unfold c_command_ForbiddenBy_1 at e; cases e; exact ⟨_, _, Try.func28, k28⟩
  | 29, h => have e : c_command_within = .code np nt b rs own := Option.some.inj h; unfold c_command_within at e; cases e; exact ⟨_, _, Try.func29, k29⟩
  | 30, h => have e : c_command_modelErr = .code np nt b rs own := Option.some.inj h; unfold c_command_modelErr at e; cases e; exact ⟨_, _, Try.func30, k30⟩
  | 31, h => have e : c_command_unless = .code np nt b rs own := Option.some.inj h; unfold c_command_unless at e; cases e; exact ⟨_, _, Try.func31, k31⟩
  | 32, h => have e : c_command_isTick = .code np nt b rs own := Option.some.inj h; unfold c_command_isTick at e; cases e; exact ⟨_, _, Try.func32, k32⟩
  | 33, h => have e : c_z_ContainsFunc_int = .code np nt b rs own := Option.some.inj h; unfold c_z_ContainsFunc_int at e; cases e; exact ⟨_, _, Try.func33, k33⟩
  | 34, h => have e : c_command_probe_forbids = .code np nt b rs own := Option.some.inj h; unfold c_command_probe_forbids at e; cases e; exact ⟨_, _, Try.func34, k34⟩
  | 35, h => have e : c_b_CopyTexts = .code np nt b rs own := Option.some.inj h; unfold c_b_CopyTexts at e; cases e; exact ⟨_, _, Try.func35, k35⟩
  | 36, h => have e : c_command_CheckFile = .code np nt b rs own := Option.some.inj h; unfold c_command_CheckFile at e; cases e; exact ⟨_, _, Try.func36, k36⟩
  | 37, h => have e : c_command_newProbe = .code np nt b rs own := Option.some.inj h; unfold c_command_newProbe at e; cases e; exact ⟨_, _, Try.func37, k37⟩
  | 38, h => have e : c_command_probe_execute = .code np nt b rs own := Option.some.inj h; unfold c_command_probe_execute at e; cases e; exact ⟨_, _, Try.func38, k38⟩
  | 39, h => have e : c_command_Replay = .code np nt b rs own := Option.some.inj h; unfold c_command_Replay at e; cases e; exact ⟨_, _, Try.func39, k39⟩
  | 40, h => have e : c_r_FileErr = .code np nt b rs own := Option.some.inj h; unfold c_r_FileErr at e; cases e; exact ⟨_, _, Try.func40, k40⟩
  | 41, h => have e : c_command_begin = .code np nt b rs own := Option.some.inj h; unfold c_command_begin at e; cases e; exact ⟨_, _, Try.func41, k41⟩
  | 42, h => have e : c_command_link_state = .code np nt b rs own := Option.some.inj h; unfold c_command_link_state at e; cases e; exact ⟨_, _, Try.func42, k42⟩
  | 43, h => have e : c_command_probe_accepts = .code np nt b rs own := Option.some.inj h; unfold c_command_probe_accepts at e; cases e; exact ⟨_, _, Try.func43, k43⟩
  | 44, h => have e : c_command_resume_1 = .code np nt b rs own := Option.some.inj h; unfold c_command_resume_1 at e; cases e; exact ⟨_, _, Try.func44, k44⟩
  | 45, h => have e : c_command_kinds = .code np nt b rs own := Option.some.inj h; unfold c_command_kinds at e; cases e; exact ⟨_, _, Try.func45, k45⟩
  | 46, h => have e : c_command_CheckModel = .code np nt b rs own := Option.some.inj h; unfold c_command_CheckModel at e; cases e; exact ⟨_, _, Try.func46, k46⟩
  | 47, h => have e : c_z_IndexFunc_int = .code np nt b rs own := Option.some.inj h; unfold c_z_IndexFunc_int at e; cases e; exact ⟨_, _, Try.func47, k47⟩
  | 48, h => have e : c_command_probe_concerns = .code np nt b rs own := Option.some.inj h; unfold c_command_probe_concerns at e; cases e; exact ⟨_, _, Try.func48, k48⟩
  | 49, h => have e : c_command_actErr = .code np nt b rs own := Option.some.inj h; unfold c_command_actErr at e; cases e; exact ⟨_, _, Try.func49, k49⟩
  | 50, h => have e : c_z_Repeat_int = .code np nt b rs own := Option.some.inj h; unfold c_z_Repeat_int at e; cases e; exact ⟨_, _, Try.func50, k50⟩
  | 51, h => have e : c_r_ModelErr = .code np nt b rs own := Option.some.inj h; unfold c_r_ModelErr at e; cases e; exact ⟨_, _, Try.func51, k51⟩
  | 52, h => have e : c_r_CheckFile = .code np nt b rs own := Option.some.inj h; unfold c_r_CheckFile at e; cases e; exact ⟨_, _, Try.func52, k52⟩
  | 53, h => have e : c_z_Clone_CommandDone = .code np nt b rs own := Option.some.inj h; unfold c_z_Clone_CommandDone at e; cases e; exact ⟨_, _, Try.func53, k53⟩
  | 54, h => have e : c_z_Clone_int = .code np nt b rs own := Option.some.inj h; unfold c_z_Clone_int at e; cases e; exact ⟨_, _, Try.func54, k54⟩
  | 55, h => have e : c_z_Clone_CommandReport = .code np nt b rs own := Option.some.inj h; unfold c_z_Clone_CommandReport at e; cases e; exact ⟨_, _, Try.func55, k55⟩
  | 56, h => have e : c_command_link_pass = .code np nt b rs own := Option.some.inj h; unfold c_command_link_pass at e; cases e; exact ⟨_, _, Try.func56, k56⟩
  | 57, h => have e : c_command_link_send = .code np nt b rs own := Option.some.inj h; unfold c_command_link_send at e; cases e; exact ⟨_, _, Try.func57, k57⟩
  | 58, h => have e : c_command_link_arrive = .code np nt b rs own := Option.some.inj h; unfold c_command_link_arrive at e; cases e; exact ⟨_, _, Try.func58, k58⟩
  | 59, h => have e : c_command_link_hear = .code np nt b rs own := Option.some.inj h; unfold c_command_link_hear at e; cases e; exact ⟨_, _, Try.func59, k59⟩
  | 60, h => have e : c_command_link_lose = .code np nt b rs own := Option.some.inj h; unfold c_command_link_lose at e; cases e; exact ⟨_, _, Try.func60, k60⟩
  | 61, h => have e : c_command_link_drop = .code np nt b rs own := Option.some.inj h; unfold c_command_link_drop at e; cases e; exact ⟨_, _, Try.func61, k61⟩
  | 62, h => have e : c_command_link_repeat = .code np nt b rs own := Option.some.inj h; unfold c_command_link_repeat at e; cases e; exact ⟨_, _, Try.func62, k62⟩
  | 63, h => have e : c_command_link_restart = .code np nt b rs own := Option.some.inj h; unfold c_command_link_restart at e; cases e; exact ⟨_, _, Try.func63, k63⟩
  | 64, h => have e : c_command_link_reboot = .code np nt b rs own := Option.some.inj h; unfold c_command_link_reboot at e; cases e; exact ⟨_, _, Try.func64, k64⟩
  | 65, h => have e : c_command_CheckModel_1 = .code np nt b rs own := Option.some.inj h; unfold c_command_CheckModel_1 at e; cases e; exact ⟨_, _, Try.func65, k65⟩
  | 66, h => have e : c_command_checker_list = .code np nt b rs own := Option.some.inj h; unfold c_command_checker_list at e; cases e; exact ⟨_, _, Try.func66, k66⟩
  | 67, h => have e : c_command_CheckModel_2 = .code np nt b rs own := Option.some.inj h; unfold c_command_CheckModel_2 at e; cases e; exact ⟨_, _, Try.func67, k67⟩
  | 68, h => have e : c_command_CheckModel_3 = .code np nt b rs own := Option.some.inj h; unfold c_command_CheckModel_3 at e; cases e; exact ⟨_, _, Try.func68, k68⟩
  | 69, h => have e : c_command_CheckModel_4 = .code np nt b rs own := Option.some.inj h; unfold c_command_CheckModel_4 at e; cases e; exact ⟨_, _, Try.func69, k69⟩
  | 70, h => have e : c_command_CheckModel_5 = .code np nt b rs own := Option.some.inj h; unfold c_command_CheckModel_5 at e; cases e; exact ⟨_, _, Try.func70, k70⟩
  | 71, h => have e : c_command_CheckModel_6 = .code np nt b rs own := Option.some.inj h; unfold c_command_CheckModel_6 at e; cases e; exact ⟨_, _, Try.func71, k71⟩
  | 72, h => have e : c_command_CheckModel_7 = .code np nt b rs own := Option.some.inj h; unfold c_command_CheckModel_7 at e; cases e; exact ⟨_, _, Try.func72, k72⟩
  | 73, h => have e : c_math_bits_Mul = .code np nt b rs own := Option.some.inj h; unfold c_math_bits_Mul at e; cases e; exact ⟨_, _, Try.func73, k73⟩
  | 74, h => have e : c_r_CheckModel = .code np nt b rs own := Option.some.inj h; unfold c_r_CheckModel at e; cases e; exact ⟨_, _, Try.func74, k74⟩
  | 75, h => have e : c_command_take_int = .code np nt b rs own := Option.some.inj h; unfold c_command_take_int at e; cases e; exact ⟨_, _, Try.func75, k75⟩
  | 76, h => have e : c_command_link_report = .code np nt b rs own := Option.some.inj h; unfold c_command_link_report at e; cases e; exact ⟨_, _, Try.func76, k76⟩
  | 77, h => have e : c_command_take_api_CommandReport = .code np nt b rs own := Option.some.inj h; unfold c_command_take_api_CommandReport at e; cases e; exact ⟨_, _, Try.func77, k77⟩
  | 78, h => have e : c_command_isName = .code np nt b rs own := Option.some.inj h; unfold c_command_isName at e; cases e; exact ⟨_, _, Try.func78, k78⟩
  | 79, h => have e : c_math_bits_Mul32 = .code np nt b rs own := Option.some.inj h; unfold c_math_bits_Mul32 at e; cases e; exact ⟨_, _, Try.func79, k79⟩
  | 80, h => have e : c_math_bits_Mul64 = .code np nt b rs own := Option.some.inj h; unfold c_math_bits_Mul64 at e; cases e; exact ⟨_, _, Try.func80, k80⟩
  | 81, h => have e : c_r_mark = .code np nt b rs own := Option.some.inj h; unfold c_r_mark at e; cases e; exact ⟨_, _, Try.func81, k81⟩
  | 82, h => have e : c_b_IsName = .code np nt b rs own := Option.some.inj h; unfold c_b_IsName at e; cases e; exact ⟨_, _, Try.func82, k82⟩
  | 83, h => have e : c_b_HasText = .code np nt b rs own := Option.some.inj h; unfold c_b_HasText at e; cases e; exact ⟨_, _, Try.func83, k83⟩
  | 84, h => have e : c_z_Delete_int = .code np nt b rs own := Option.some.inj h; unfold c_z_Delete_int at e; cases e; exact ⟨_, _, Try.func84, k84⟩
  | 85, h => have e : c_z_Delete_CommandReport = .code np nt b rs own := Option.some.inj h; unfold c_z_Delete_CommandReport at e; cases e; exact ⟨_, _, Try.func85, k85⟩
  | m + 86, h => have e : AP (m + 86) = none := rfl; rw [e] at h; cases h


abbrev KW : World → Prop := fun _ => True

theorem tab_at {p : AFn → Nat → Bool} (h : (tab.zipIdx.all fun q => match q.1 with | some a => p a q.2 | none => true) = true) {f : FuncId} {a : AFn} (e : AP f = some a) : p a f = true := by
  unfold AP at e
  have e2 : tab[f]? = some (some a) := by
    cases h2 : tab[f]? with
    | none => rw [h2] at e; cases e
    | some x => rw [h2] at e; cases x with
      | none => cases e
      | some y => injection e with e; rw [e]
  have := List.all_eq_true.1 h (some a, f) (List.mem_zipIdx_iff_getElem?.2 e2)
  exact this
def primB (a : AFn) (i : Nat) : Bool := match a with | .prim _ => [].contains i | _ => true
def natB (a : AFn) (i : Nat) : Bool := match a with | .nat _ => [].contains i | _ => true
theorem prims : (tab.zipIdx.all fun q => match q.1 with | some a => primB a q.2 | none => true) = true := by kernel_rfl
theorem nats : (tab.zipIdx.all fun q => match q.1 with | some a => natB a q.2 | none => true) = true := by kernel_rfl

theorem prim_ok (f : FuncId) (F : List AV → Option AV) (h : AP f = some (.prim F)) : HasBody Try.prog f ∧ PrimOk Try.prog KW f F := by
  have hb := tab_at prims h
  cases hb

theorem nat_ok (f : FuncId) (F : List AV → Option AV) (h : AP f = some (.nat F)) : NatOk Try.prog f F := by
  have hb := tab_at nats h
  cases hb

theorem prog_ok : ProgOk Try.prog AP KW := ⟨by kernel_rfl, code_ok, prim_ok, nat_ok⟩
end Go.Proofs.Ytolmeamlfkbafaa.AxOk
