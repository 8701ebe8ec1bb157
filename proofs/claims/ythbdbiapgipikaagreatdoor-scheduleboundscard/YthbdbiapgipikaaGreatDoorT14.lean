/-
  What a week is among the values that an argument may read as.
-/
import Derived.Test.YthbdbiapgipikaaGreatDoorT13
import Derived.Test.YthbdbiapgipikaaGreatDoorT12
import Derived.Test.YthbdbiapgipikaaGreatDoorT7
namespace Go.Ax.Sx.Sc
open Go.Ax
set_option linter.unusedSimpArgs false
set_option linter.unusedVariables false
set_option maxRecDepth 100000
section
variable {s : Sig} {w : W} {p : List (Sl Int)}
theorem Acc.form {d es : Nat} {α : Type} {f : α → List AV} {l : List α} {x : AV} {og : Option Nat} {tk : List (Option Nat)} (h : Acc d es (l.map f) x og tk) : ∃ o e, x = .slice o e (l.map f) ∧ (l = [] ∨ e = es) := by
 cases og with
 | none =>
  obtain ⟨h1, rfl⟩ := h
  have : l = [] := by simpa using h1
  subst this
  exact ⟨.nilS, 0, rfl, .inl rfl⟩
 | some g => exact ⟨_, es, h.2.1, .inr rfl⟩
def bestU (w : W) : Int × Int := scanU (boundS w) 100001
theorem s_UniformPrices (hs : Ok s) (hw : w.Ok) (hf : w.Few) : callL AP (.fn 10) [w.v] s = some (.tuple [accV 1 ((if (weekE w).2.2 = 0 then uniP w (bestU w).1 else []).map rowX), I (if (weekE w).2.2 = 0 then (bestU w).2 else 0), I (weekE w).2.2], s) := by
 by_cases hz : (weekE w).2.2 = 0
 ·have hwk : Wk w := ⟨hw, hf, weekE_ok hz⟩
  have ho : ∀ r, callL AP (.fn 22) [w.v] (s.push r) = some (.tuple [OW w, I 0], s.push r) := fun r => s_open (hs.push r) hw hf hz
  have hal := hwk.v.al
  have hrl := hwk.v.rl
  have hn1 := hwk.v.n1
  have hn2 := hwk.v.n2
  obtain ⟨N, hN⟩ : ∃ N : Nat, w.slots = N := ⟨w.slots.toNat, by omega⟩
  have hNn : w.slots.toNat = N := by omega
  have hop := opnS_bd hwk (k := w.as.l.length)
  have habl := ablR_len (w := w) (k := w.rs.l.length)
  have hRB := ablR_RB hwk (Nat.le_refl w.rs.l.length)
  rw [if_pos hz, if_pos hz, hz]
  obtain ⟨RES, hRES⟩ : ∃ RES, RES = some (AV.tuple [accV 1 ((uniP w (bestU w).1).map rowX), I (bestU w).2, I 0], s) := ⟨_, rfl⟩
  rw [← hRES]
  have k0 : ∀ (k : Nat) ρ m, k ≤ w.as.l.length → (ρ 1 = .ptr s.acts.length 0 0 ∧ ρ 13 = I (bestU w).1 ∧ ρ 14 = I (bestU w).2 ∧ ρ 72 = I w.as.l.length ∧ ρ 73 = I k ∧ ∃ og jk tk, Acc s.acts.length 1 ((List.replicate k (uniX N (bestU w).1)).map rowX) (ρ 17) og tk ∧ m = s.push ⟨rowW w :: jk, tk⟩) →
    go AP f_s_UniformPrices (.c (.loop b_s_UniformPrices_l0) :: k_s_UniformPrices_0) ⟨ρ, m⟩ = RES := by
   refine loop_up w.as.l.length _ (fun _ => RES) ?_ ?_
   ·rintro k ρ m hk ⟨g1, g13, g14, g72, g73, og, jk, tk, hA, rfl⟩ ih
    obtain ⟨x, hx⟩ : ∃ x, x = ρ 17 := ⟨_, rfl⟩
    rw [← hx] at hA
    obtain ⟨x', og', tk', ha, hA', _⟩ := hA.append hs .full (ys := [rowX (uniX N (bestU w).1)]) (by simp) (by simp; omega)
    obtain ⟨o1, e1, r1, hxs⟩ := Acc.sl hA
    have hrp : ∀ r, callL AP (.fn 32) [.slice .full 1 [[I (bestU w).1]], I (N : Int)] (s.push r) = some ((uniX N (bestU w).1).v rowI, s.push r) := fun r => z_Repeat (hs.push r) (by omega) (by omega)
    have hcs : (List.replicate (k + 1) (uniX N (bestU w).1)).map rowX = (List.replicate k (uniX N (bestU w).1)).map rowX ++ [rowX (uniX N (bestU w).1)] := by rw [List.replicate_succ', List.map_append]; rfl
    simp only [uniX, rowX, Sl.v] at ha hrp
    subst hxs
    simp (maxSteps := 1000000) only [go_sem, b_s_UniformPrices_l0, g1, g13, g72, g73, ← hx, hN, lt_dec hk, hrp, ha, wrap_succ hk (show (w.as.l.length : Int) < _ by omega), Nat.reduceEqDiff, Nat.reduceAdd, ↓reduceIte]
    refine ih _ _ ?_
    refine ⟨g1, g13, g14, g72, rfl, og', jk, tk', ?_, ?_⟩
    ·rw [hcs]; exact hA'
    ·simp only [rowW, Sl.v, hN]
   ·rintro ρ m ⟨g1, g13, g14, g72, g73, og, jk, tk, hA, rfl⟩
    have hlv := fun q : Sig => hA.leave q
    obtain ⟨o1, e1, r1, hxs⟩ := Acc.sl hA
    rw [hxs] at hlv
    have hup : uniP w (bestU w).1 = List.replicate w.as.l.length (uniX N (bestU w).1) := by unfold uniP; rw [hNn]
    rw [← hup] at hlv
    rw [hRES]
    generalize accV 1 ((uniP w (bestU w).1).map rowX) = Z at *
    simp (maxSteps := 1000000) only [go_sem, b_s_UniformPrices_l0, b_s_UniformPrices_r0, g14, g72, g73, hxs, ge_dec, hlv, Nat.reduceEqDiff, ↓reduceIte]
  have k1 : ∀ (v : AV) (jk : List (List AV)) (tk : List (Option Nat)) (o : Own) (e : Nat), v = .slice o e ((ablR w w.rs.l.length).map rowR) → ((ablR w w.rs.l.length) = [] ∨ e = 7) →
    ∀ (k : Nat) ρ m, k ≤ 100001 → (ρ 1 = .ptr s.acts.length 0 0 ∧ ρ 12 = .fn 31 [] [.ptr s.acts.length 1 0, .ptr s.acts.length 2 0] ∧ ρ 13 = I (scanU (boundS w) k).1 ∧ ρ 14 = I (scanU (boundS w) k).2 ∧ ρ 58 = I k ∧ m = s.push ⟨rowW w :: [I (opnS w w.as.l.length)] :: [v] :: jk, tk⟩) →
    go AP f_s_UniformPrices (.c (.loop b_s_UniformPrices_l1) :: k_s_UniformPrices_1) ⟨ρ, m⟩ = RES := by
   intro v jk tk o e hv he
   refine loop_up 100001 _ (fun _ => RES) ?_ ?_
   ·rintro k ρ m hk ⟨g1, g12, g13, g14, g58, rfl⟩ ih
    have hcl : ∀ q : List (List AV), callL AP (.fn 31) [I (k : Int), .ptr s.acts.length 1 0, .ptr s.acts.length 2 0] (s.push ⟨rowW w :: [I (opnS w w.as.l.length)] :: [v] :: q, tk⟩) = some (I (boundS w k), s.push ⟨rowW w :: [I (opnS w w.as.l.length)] :: [v] :: q, tk⟩) := fun q =>
     s_UniformPrices_1 (hs.push _) (by rw [box_push]; rfl) (by rw [box_push, hv]; rfl) he (by omega) hRB hop.1 (by omega) (by omega) (by omega)
    have hlt : decide ((k : Int) < 100001) = true := by simp; omega
    have hwk1 : IntKind.i64.wrap ((k : Int) + 1) = ((k + 1 : Nat) : Int) := by rw [wrap_id (by omega) (by omega)]; omega
    simp only [rowW, Sl.v] at hcl
    cases hd : decide (boundS w k < (scanU (boundS w) k).2) with
    | true =>
     have hst : scanU (boundS w) (k + 1) = ((k : Int), boundS w k) := by simp only [scanU]; rw [if_pos (by simpa using hd)]
     simp (maxSteps := 1000000) only [go_sem, b_s_UniformPrices_l1, g12, g14, g58, hlt, hcl, hd, hwk1, Nat.reduceEqDiff, ↓reduceIte]
     refine ih _ _ ?_
     exact ⟨g1, g12, by rw [hst]; rfl, by rw [hst]; rfl, rfl, rfl⟩
    | false =>
     have hst : scanU (boundS w) (k + 1) = scanU (boundS w) k := by simp only [scanU]; rw [if_neg (by simpa using hd)]
     simp (maxSteps := 1000000) only [go_sem, b_s_UniformPrices_l1, g12, g14, g58, hlt, hcl, hd, hwk1, Nat.reduceEqDiff, ↓reduceIte]
     refine ih _ _ ?_
     exact ⟨g1, g12, by rw [hst]; exact g13, by rw [hst]; exact g14, rfl, rfl⟩
   ·rintro ρ m ⟨g1, g12, g13, g14, g58, rfl⟩
    have hlt : decide (((100001 : Nat) : Int) < 100001) = false := by decide
    simp (maxSteps := 1000000) only [go_sem, b_s_UniformPrices_l1, b_s_UniformPrices_r1, g1, g58, Nat.reduceEqDiff, Nat.reduceAdd, Int.reduceLT, Int.cast_ofNat_Int, ↓reduceIte]
    refine k0 0 _ _ (Nat.zero_le _) ?_
    exact ⟨g1, g13, g14, rfl, rfl, none, _, tk, Acc.start, rfl⟩
  have k2 : ∀ (k : Nat) ρ m, k ≤ w.rs.l.length → (ρ 1 = .ptr s.acts.length 0 0 ∧ ρ 5 = OW w ∧ ρ 7 = .ptr s.acts.length 1 0 ∧ ρ 9 = .ptr s.acts.length 2 0 ∧ ρ 39 = w.rs.v rowR ∧ ρ 40 = I w.rs.l.length ∧ ρ 41 = I k ∧
    ∃ v og jk tk, Acc s.acts.length 7 ((ablR w k).map rowR) v og tk ∧ m = s.push ⟨rowW w :: [I (opnS w w.as.l.length)] :: [v] :: jk, tk⟩) → go AP f_s_UniformPrices (.c (.loop b_s_UniformPrices_l2) :: k_s_UniformPrices_2) ⟨ρ, m⟩ = RES := by
   refine loop_up w.rs.l.length _ (fun _ => RES) ?_ ?_
   ·rintro k ρ m hk ⟨g1, g5, g7, g9, g39, g40, g41, v, og, jk, tk, hA, rfl⟩ ih
    have hrs := ix_rs hwk (i := ((k : Nat) : Int)) (by omega) (by omega)
    have hro := hw.an _ (W.rq_mem (w := w) (i := ((k : Nat) : Int)) (by omega) (by omega))
    have hps : ∀ r, callL AP (.fn 26) [OW w, I (k : Int)] (s.push r) = some (.fn 50 [] [.eptr [OW w] 0, .eptr [I (k : Int)] 0], s.push r) := fun r => w_possible (hs.push r)
    have hkl := ablR_len (w := w) (k := k)
    have rg : ∀ ρ1 : Nat → AV, ρ1 1 = .ptr s.acts.length 0 0 → ρ1 5 = OW w → ρ1 7 = .ptr s.acts.length 1 0 → ρ1 9 = .ptr s.acts.length 2 0 → ρ1 11 = .ptr s.acts.length (rowW w :: [I (opnS w w.as.l.length)] :: [v] :: jk).length 0 → ρ1 39 = w.rs.v rowR → ρ1 40 = I w.rs.l.length → ρ1 41 = I k → ρ1 48 = .fn 50 [] [.eptr [OW w] 0, .eptr [I (k : Int)] 0] →
      go AP f_s_UniformPrices (.c (.rangeFunc (.tmp 48) [49] b_s_UniformPrices_a3 b_s_UniformPrices_y3) :: .blk 4 :: .blk 3 :: .c b_s_UniformPrices_r3 :: .lp b_s_UniformPrices_l2 :: k_s_UniformPrices_2) ⟨ρ1, s.push ⟨(rowW w :: [I (opnS w w.as.l.length)] :: [v] :: jk) ++ [rowR (w.rq k)], tk⟩⟩ = RES := by
     intro ρ1 q1 q5 q7 q9 q11 q39 q40 q41 q48
     obtain ⟨v', og', tk', hgo, hA'⟩ := abl_range (F := f_s_UniformPrices) (ks := .blk 3 :: .c b_s_UniformPrices_r3 :: .lp b_s_UniformPrices_l2 :: k_s_UniformPrices_2) (pre := rowW w :: [I (opnS w w.as.l.length)] :: [v] :: jk) (r := w.rq k) (v := v) hs hwk hk hro rfl hA (by simp; omega) q9 q11 q48
     rw [hgo]
     simp (maxSteps := 1000000) only [go_sem, b_s_UniformPrices_r3, q41, wrap_succ hk (show (w.rs.l.length : Int) < _ by omega), ↓reduceIte]
     refine ih _ _ ?_
     refine ⟨q1, q5, q7, q9, q39, q40, rfl, v', og', jk ++ [rowR (w.rq k)], tk', ?_, rfl⟩
     have hst : (ablR w (k + 1)).map rowR = if (poss w k).isEmpty = true then (ablR w k).map rowR else (ablR w k).map rowR ++ [rowR (w.rq k)] := by
      simp only [ablR]; split <;> simp
     rw [hst]; exact hA'
    simp only [rowR, Sl.v, OW, rowW] at hrs hps g5 g39 rg
    simp (maxSteps := 1000000) only [go_sem, b_s_UniformPrices_l2, g5, g39, g40, g41, hs, lt_dec hk, hrs, hps, Nat.reduceEqDiff, ↓reduceIte]
    refine rg _ ?_ ?_ ?_ ?_ ?_ ?_ ?_ ?_ ?_
    ·exact g1
    ·exact g5
    ·exact g7
    ·exact g9
    ·rfl
    ·exact g39
    ·exact g40
    ·exact g41
    ·rfl
   ·rintro ρ m ⟨g1, g5, g7, g9, g39, g40, g41, v, og, jk, tk, hA, rfl⟩
    obtain ⟨o, e, hv, he⟩ := Acc.form hA
    have hcl : ∀ q : List (List AV), callL AP (.fn 31) [I 0, .ptr s.acts.length 1 0, .ptr s.acts.length 2 0] (s.push ⟨rowW w :: [I (opnS w w.as.l.length)] :: [v] :: q, tk⟩) = some (I (boundS w 0), s.push ⟨rowW w :: [I (opnS w w.as.l.length)] :: [v] :: q, tk⟩) := fun q =>
     s_UniformPrices_1 (hs.push _) (by rw [box_push]; rfl) (by rw [box_push, hv]; rfl) he (by omega) hRB hop.1 (by omega) (by omega) (by omega)
    simp only [rowW, Sl.v] at hcl
    simp (maxSteps := 1000000) only [go_sem, b_s_UniformPrices_l2, b_s_UniformPrices_r2, g7, g9, g40, g41, ge_dec, hcl, Nat.reduceEqDiff, ↓reduceIte]
    refine k1 v jk tk o e hv he 0 _ _ (Nat.zero_le _) ?_
    exact ⟨g1, rfl, rfl, rfl, rfl, rfl⟩
  have k4 : ∀ (k : Nat) ρ m, k ≤ w.as.l.length → (ρ 1 = .ptr s.acts.length 0 0 ∧ ρ 5 = OW w ∧ ρ 7 = .ptr s.acts.length 1 0 ∧ ρ 28 = I w.as.l.length ∧ ρ 29 = I k ∧ m = s.push ⟨[rowW w, [I (opnS w k)]], []⟩) → go AP f_s_UniformPrices (.c (.loop b_s_UniformPrices_l4) :: k_s_UniformPrices_4) ⟨ρ, m⟩ = RES := by
   refine loop_up w.as.l.length _ (fun _ => RES) ?_ ?_
   ·rintro k ρ m hk ⟨g1, g5, g7, g28, g29, rfl⟩ ih
    have hos : ∀ q : Sig, callL AP (.fn 30) [OW w, I (k : Int)] (roS q) = some (I (((List.range w.slots.toNat).countP fun t => !clq w.as.l k t : Nat) : Int), roS q) := fun q => by
     rw [w_openSlots hwk (by omega) (by omega), Int.toNat_natCast]
    have hb := opnS_bd hwk (k := k)
    have hb1 := opnS_bd hwk (k := k + 1)
    have hst : opnS w (k + 1) = opnS w k + (((List.range w.slots.toNat).countP fun t => !clq w.as.l k t : Nat) : Int) := rfl
    have hw1 : IntKind.i64.wrap (opnS w k + (((List.range w.slots.toNat).countP fun t => !clq w.as.l k t : Nat) : Int)) = opnS w (k + 1) := by rw [hst]; exact wrap_id (by omega) (by omega)
    simp only [OW] at hos g5
    simp (maxSteps := 1000000) only [go_sem, b_s_UniformPrices_l4, g5, g7, g28, g29, hs, lt_dec hk, hos, hw1, wrap_succ hk (show (w.as.l.length : Int) < _ by omega), Nat.reduceEqDiff, ↓reduceIte]
    refine ih _ _ ?_
    exact ⟨g1, g5, g7, g28, rfl, rfl⟩
   ·rintro ρ m ⟨g1, g5, g7, g28, g29, rfl⟩
    simp (maxSteps := 1000000) only [go_sem, b_s_UniformPrices_l4, b_s_UniformPrices_r4, g1, g28, g29, ge_dec, Nat.reduceEqDiff, Nat.reduceAdd, ↓reduceIte]
    refine k2 0 _ _ (Nat.zero_le _) ?_
    exact ⟨g1, g5, g7, rfl, rfl, rfl, rfl, _, none, [], [], Acc.start, rfl⟩
  have h00 : decide ((0 : Int) ≠ 0) = false := rfl
  simp only [W.v, rowW, Sl.v] at ho
  rw [callL_go (show AP 10 = some c_s_UniformPrices from rfl) rfl]
  simp (maxSteps := 1000000) only [go_sem, b_s_UniformPrices, hs, ho, h00, Nat.reduceEqDiff, Nat.reduceAdd, ↓reduceIte]
  refine k4 0 _ _ (Nat.zero_le _) ?_
  exact ⟨rfl, rfl, rfl, rfl, rfl, rfl⟩
 ·have ho : ∀ r, callL AP (.fn 22) [w.v] (s.push r) = some (.tuple [NP, I (weekE w).2.2], s.push r) := fun r => s_open_bad (hs.push r) hw hf hz
  rw [if_neg hz, if_neg hz]
  simp only [W.v, rowW, Sl.v] at ho
  rw [callL_go (show AP 10 = some c_s_UniformPrices from rfl) rfl]
  simp (maxSteps := 1000000) only [go_sem, b_s_UniformPrices, ho, hz, ne_eq, not_false_iff, Nat.reduceEqDiff, Nat.reduceAdd, ↓reduceIte]
  rfl
end
end Go.Ax.Sx.Sc

namespace Go.Ax.Sx.Sc
open Go.Ax
set_option linter.unusedSimpArgs false
set_option linter.unusedVariables false
set_option maxRecDepth 100000
section
variable {s : Sig} {w : W} {p : List (Sl Int)}
theorem prAt_uni {c : Int} {a t : Nat} (ha : a < w.as.l.length) (ht : t < w.slots.toNat) : prAt (uniP w c) a t = c := by
 have h1 : (uniP w c)[a]? = some (uniX w.slots.toNat c) := by simp [uniP, ha]
 simp only [prAt, h1, uniX]
 simp [ht]
theorem rowB_uni {c : Int} {a : Nat} (ha : a < w.as.l.length) : ∀ {k : Nat}, k ≤ w.slots.toNat → rowB w (uniP w c) a k = c * (((List.range k).countP fun t => !clq w.as.l a t : Nat) : Int)
 | 0, _ => by simp [rowB, sumN]
 | k + 1, hk => by
  have ih := rowB_uni (c := c) ha (k := k) (by omega)
  have e : rowB w (uniP w c) a (k + 1) = rowB w (uniP w c) a k + (if clq w.as.l a k = true then 0 else prAt (uniP w c) a k) := rfl
  rw [e, ih, prAt_uni ha (by omega), List.range_succ, List.countP_append, List.countP_singleton]
  cases clq w.as.l a k with
  | true => simp
  | false => simp [Int.mul_add]
theorem totB_uni {c : Int} : ∀ {k : Nat}, k ≤ w.as.l.length → totB w (uniP w c) k = c * opnS w k
 | 0, _ => by simp [totB, sumN, opnS]
 | k + 1, hk => by
  have ih := totB_uni (c := c) (k := k) (by omega)
  have e : totB w (uniP w c) (k + 1) = totB w (uniP w c) k + rowB w (uniP w c) k w.slots.toNat := rfl
  rw [e, ih, rowB_uni (by omega) (Nat.le_refl _)]
  simp only [opnS, Int.mul_add]
theorem strip_uni {c : Int} {a st : Nat} (ha : a < w.as.l.length) : ∀ {k : Nat}, st + k ≤ w.slots.toNat → strip (uniP w c) a st k = c * k
 | 0, _ => by simp [strip, sumN]
 | k + 1, hk => by
  have ih := strip_uni (c := c) (st := st) ha (k := k) (by omega)
  have e : strip (uniP w c) a st (k + 1) = strip (uniP w c) a st k + prAt (uniP w c) a (st + k) := rfl
  rw [e, ih, prAt_uni ha (by omega), Int.natCast_add, Int.mul_add]
  simp
theorem costL_uni {c : Int} {st len : Nat} (h : st + len ≤ w.slots.toNat) : ∀ {l : List Int}, (∀ a ∈ l, 0 ≤ a ∧ a < w.as.l.length) → costL (uniP w c) st len l = c * (len * l.length)
 | [], _ => by simp [costL]
 | a :: r, hl => by
  have ih := costL_uni (c := c) h (l := r) fun b hb => hl b (List.mem_cons_of_mem _ hb)
  have ha := hl a (by simp)
  simp only [costL, List.length_cons]
  rw [ih, strip_uni (by omega) h, ← Int.mul_add]
  congr 1
  rw [Int.natCast_add, Int.mul_add]; simp; omega
theorem surp_uni (hw : Wk w) {c : Int} {i : Nat} (hi : i < w.rs.l.length) {x : P} (hx : x ∈ poss w i) {m : Int} : surp w (uniP w c) i m x = max m ((w.rq i).val - c * unitC (w.rq i)) := by
 have h0 : (0 : Int) ≤ i := by omega
 have h1 : (i : Int) < w.rs.l.length := by omega
 obtain ⟨q1, q2, q3, q4⟩ := poss_slots hw h0 h1 hx
 obtain ⟨_, _, _, _, h5, _⟩ := poss_in hw h0 h1 hx
 have hl := (hw.rq h0 h1).len1
 have e : ((w.rq i).len.toNat : Int) = (w.rq i).len := by omega
 unfold surp
 rw [costL_uni q1 q3, h5, e]; rfl
theorem surpL_uni (hw : Wk w) {c : Int} {i : Nat} (hi : i < w.rs.l.length) : surpL w (uniP w c) i (poss w i) = if (poss w i).isEmpty = true then 0 else gain c (w.rq i) := by
 have key : ∀ (l : List P) (m : Int), (∀ x ∈ l, x ∈ poss w i) → l.foldl (surp w (uniP w c) i) m = if l.isEmpty = true then m else max m ((w.rq i).val - c * unitC (w.rq i)) := by
  intro l
  induction l with
  | nil => intro m _; rfl
  | cons x r ih =>
   intro m hl
   rw [List.foldl_cons, ih _ fun y hy => hl y (List.mem_cons_of_mem _ hy), surp_uni hw hi (hl x (by simp))]
   simp only [List.isEmpty_cons, Bool.false_eq_true, if_false]
   split
   ·rfl
   ·omega
 exact key _ 0 fun x hx => hx
theorem ubA_uni (hw : Wk w) {c : Int} : ∀ {k : Nat}, k ≤ w.rs.l.length → ubA (opnS w w.as.l.length) c (ablR w k) = c * opnS w w.as.l.length + sumS w (uniP w c) k
 | 0, _ => by simp [ablR, ubA, sumS, sumN]
 | k + 1, hk => by
  have ih := ubA_uni hw (c := c) (k := k) (by omega)
  have e : sumS w (uniP w c) (k + 1) = sumS w (uniP w c) k + surpL w (uniP w c) k (poss w k) := rfl
  rw [e, surpL_uni hw (by omega)]
  simp only [ablR]
  split
  ·rw [ih]; omega
  ·rw [ubA_snoc, ih]; omega
theorem ubF_eq (hw : Wk w) {c : Int} : ubF w c = boundS w c := by
 unfold ubF boundS bndV
 rw [ubA_uni hw (Nat.le_refl _), totB_uni (Nat.le_refl _)]
theorem scanU_ok {f : Int → Int} : ∀ {n : Nat}, 0 < n → (scanU f n).2 = f (scanU f n).1 ∧ 0 ≤ (scanU f n).1 ∧ (scanU f n).1 < n ∧ (∀ q : Nat, q < n → (scanU f n).2 ≤ f q) ∧ ∀ q : Int, 0 ≤ q → q < (scanU f n).1 → (scanU f n).2 < f q
 | 0, h => absurd h (Nat.lt_irrefl _)
 | n + 1, _ => by
  by_cases hn : n = 0
  ·subst hn
   have e : scanU f 1 = (0, f 0) := by simp [scanU]
   rw [e]
   refine ⟨rfl, by simp, by simp, fun q hq => ?_, fun q h0 h1 => by simp at h1; omega⟩
   obtain rfl : q = 0 := by omega
   exact Int.le_refl _
  ·obtain ⟨a1, a2, a3, a4, a5⟩ := scanU_ok (f := f) (n := n) (by omega)
   simp only [scanU]
   by_cases h : f n < (scanU f n).2
   ·rw [if_pos h]
    refine ⟨rfl, by simp, by simp; omega, fun q hq => ?_, fun q h0 h1 => ?_⟩
    ·by_cases e : q = n
     ·subst e; exact Int.le_refl _
     ·have := a4 q (by omega); simp only; omega
    ·have := a4 q.toNat (by simp only at h1; omega)
     rw [show ((q.toNat : Nat) : Int) = q by omega] at this
     simp only; omega
   ·rw [if_neg h]
    refine ⟨a1, a2, by omega, fun q hq => ?_, a5⟩
    by_cases e : q = n
    ·subst e; omega
    ·exact a4 q (by omega)
theorem betU_ok {f : Int → Int} : ∀ {l : List Int} {q : Int × Int}, q.2 = f q.1 → (l.foldl (betU f) q).2 = f (l.foldl (betU f) q).1 ∧ (l.foldl (betU f) q).1 ∈ q.1 :: l ∧ ∀ x ∈ q.1 :: l, f (l.foldl (betU f) q).1 ≤ f x ∧ (f x = f (l.foldl (betU f) q).1 → (l.foldl (betU f) q).1 ≤ x)
 | [], q, h => ⟨h, by simp, fun x hx => by
   obtain rfl : x = q.1 := by simpa using hx
   exact ⟨Int.le_refl _, fun _ => Int.le_refl _⟩⟩
 | c :: r, q, h => by
  have hq' : (betU f q c).2 = f (betU f q c).1 := by
   unfold betU; split
   ·rfl
   ·exact h
  obtain ⟨a1, a2, a3⟩ := betU_ok (f := f) (l := r) hq'
  rw [List.foldl_cons]
  have hb : (betU f q c).1 = q.1 ∨ (betU f q c).1 = c := by unfold betU; split <;> simp
  have hc : f (betU f q c).1 ≤ f c ∧ f (betU f q c).1 ≤ f q.1 ∧ (f c = f (betU f q c).1 → (betU f q c).1 ≤ c) ∧ (f q.1 = f (betU f q c).1 → (betU f q c).1 ≤ q.1) := by
   unfold betU
   by_cases h1 : f c < q.2 ∨ (f c = q.2 ∧ c < q.1)
   ·rw [if_pos h1]; simp only; omega
   ·rw [if_neg h1]; simp only
    refine ⟨by omega, by omega, fun e => ?_, fun _ => Int.le_refl _⟩
    have : f c = q.2 := by omega
    have : ¬ c < q.1 := fun hlt => h1 (.inr ⟨this, hlt⟩)
    omega
  generalize (r.foldl (betU f) (betU f q c)) = z at *
  have ha := a3 (betU f q c).1 (by simp)
  refine ⟨a1, ?_, fun x hx => ?_⟩
  ·rcases List.mem_cons.1 a2 with h2 | h2
   ·rw [h2]
    rcases hb with h3 | h3 <;> rw [h3] <;> simp
   ·exact List.mem_cons_of_mem _ (List.mem_cons_of_mem _ h2)
  ·rcases List.mem_cons.1 hx with rfl | hx
   ·refine ⟨by omega, fun e => ?_⟩
    have h4 : f q.1 = f (betU f q c).1 := by omega
    have h5 := hc.2.2.2 h4
    have h6 := ha.2 (by omega)
    omega
   ·rcases List.mem_cons.1 hx with rfl | hx
    ·refine ⟨by omega, fun e => ?_⟩
     have h5 := hc.2.2.1 (by omega)
     have h6 := ha.2 (by omega)
     omega
    ·exact a3 x (List.mem_cons_of_mem _ hx)
theorem gain_lin {r : R} {b : Int} (hu : 1 ≤ unitC r) (hv : 0 ≤ r.val) (h1 : b ≠ r.val / unitC r) (h2 : b ≠ cei r.val (unitC r)) : gain (b - 1) r + gain (b + 1) r = 2 * gain b r := by
 have e1 := Int.emod_add_mul_ediv r.val (unitC r)
 have e2 := Int.emod_nonneg r.val (b := unitC r) (by omega)
 have e3 := Int.emod_lt_of_pos r.val (b := unitC r) (by omega)
 unfold cei at h2
 unfold gain
 generalize unitC r = u at *
 generalize r.val = v at *
 generalize hq : v / u = q at *
 generalize v % u = m at *
 have m1 : (b - 1) * u = b * u - u := by rw [Int.sub_mul]; simp
 have m2 : (b + 1) * u = b * u + u := by rw [Int.add_mul]; simp
 rw [m1, m2]
 by_cases hlt : b < q
 ·have : b * u + u ≤ u * q := by
   have := Int.mul_le_mul_of_nonneg_right (show b + 1 ≤ q by omega) (show 0 ≤ u by omega)
   rw [m2, Int.mul_comm q u] at this; exact this
  omega
 ·by_cases hm : m = 0
  ·have : u * q ≤ b * u - u := by
    have := Int.mul_le_mul_of_nonneg_right (show q ≤ b - 1 by omega) (show 0 ≤ u by omega)
    rw [m1, Int.mul_comm q u] at this; exact this
   omega
  ·rw [if_neg hm] at h2
   have : u * q + u ≤ b * u - u := by
    have := Int.mul_le_mul_of_nonneg_right (show q + 1 ≤ b - 1 by omega) (show 0 ≤ u by omega)
    rw [m1, Int.add_mul, Int.mul_comm q u] at this; omega
   omega
theorem ubA_lin {S b : Int} {l : List R} (h : ∀ r ∈ l, 1 ≤ unitC r ∧ 0 ≤ r.val ∧ b ≠ r.val / unitC r ∧ b ≠ cei r.val (unitC r)) : ubA S (b - 1) l + ubA S (b + 1) l = 2 * ubA S b l := by
 have key : ∀ (l : List R) (x y z : Int), (∀ r ∈ l, 1 ≤ unitC r ∧ 0 ≤ r.val ∧ b ≠ r.val / unitC r ∧ b ≠ cei r.val (unitC r)) → x + y = 2 * z →
   l.foldl (fun t r => t + gain (b - 1) r) x + l.foldl (fun t r => t + gain (b + 1) r) y = 2 * l.foldl (fun t r => t + gain b r) z := by
  intro l
  induction l with
  | nil => intro x y z _ h; exact h
  | cons r q ih =>
   intro x y z hl h
   obtain ⟨a1, a2, a3, a4⟩ := hl r (by simp)
   have := gain_lin a1 a2 a3 a4
   exact ih _ _ _ (fun c hc => hl c (List.mem_cons_of_mem _ hc)) (by show x + gain (b - 1) r + (y + gain (b + 1) r) = 2 * (z + gain b r); omega)
 refine key l _ _ _ h ?_
 rw [Int.sub_mul, Int.add_mul]; omega
theorem ubA_far {S b : Int} {l : List R} (hb : 100000 ≤ b) (h : ∀ r ∈ l, 1 ≤ unitC r ∧ r.val ≤ 100000) : ubA S b l = b * S := by
 have key : ∀ (l : List R) (x : Int), (∀ r ∈ l, 1 ≤ unitC r ∧ r.val ≤ 100000) → l.foldl (fun t r => t + gain b r) x = x := by
  intro l
  induction l with
  | nil => intro x _; rfl
  | cons r q ih =>
   intro x hl
   obtain ⟨a1, a2⟩ := hl r (by simp)
   have h3 : b * 1 ≤ b * unitC r := Int.mul_le_mul_of_nonneg_left a1 (by omega)
   have h4 : gain b r = 0 := by unfold gain; omega
   rw [List.foldl_cons, h4, Int.add_zero]
   exact ih _ fun c hc => hl c (List.mem_cons_of_mem _ hc)
 exact key l _ h
theorem ablR_rq : ∀ {k : Nat} {r : R}, r ∈ ablR w k → ∃ i : Nat, i < k ∧ r = w.rq (i : Nat)
 | 0, r, h => by simp [ablR] at h
 | k + 1, r, h => by
  simp only [ablR] at h
  split at h
  ·obtain ⟨i, h1, h2⟩ := ablR_rq h; exact ⟨i, by omega, h2⟩
  ·rcases List.mem_append.1 h with h | h
   ·obtain ⟨i, h1, h2⟩ := ablR_rq h; exact ⟨i, by omega, h2⟩
   ·exact ⟨k, by omega, by simpa using h⟩
theorem cands_mem : ∀ {k i : Nat}, i < k → (w.rq (i : Nat)).val / unitC (w.rq (i : Nat)) ∈ cands w k ∧ cei (w.rq (i : Nat)).val (unitC (w.rq (i : Nat))) ∈ cands w k
 | 0, i, h => absurd h (Nat.not_lt_zero _)
 | k + 1, i, h => by
  simp only [cands]
  by_cases e : i = k
  ·subst e
   exact ⟨List.mem_append_right _ (by simp), List.mem_append_right _ (by simp)⟩
  ·obtain ⟨h1, h2⟩ := cands_mem (k := k) (i := i) (by omega)
   exact ⟨List.mem_append_left _ h1, List.mem_append_left _ h2⟩
theorem cands_0 : ∀ {k : Nat}, (0 : Int) ∈ cands w k
 | 0 => by simp [cands]
 | k + 1 => List.mem_append_left _ cands_0
theorem best_cand (hw : Wk w) : (bestU w).1 ∈ cands w w.rs.l.length := by
 obtain ⟨a1, a2, a3, a4, a5⟩ := scanU_ok (f := boundS w) (n := 100001) (by decide)
 have hb : bestU w = scanU (boundS w) 100001 := rfl
 rw [← hb] at a1 a2 a3 a4 a5
 generalize hbb : (bestU w).1 = b at *
 by_cases h0 : b = 0
 ·rw [h0]; exact cands_0
 ·apply Classical.byContradiction
  intro hn
  have hunit : ∀ r ∈ ablR w w.rs.l.length, 1 ≤ unitC r ∧ 0 ≤ r.val ∧ r.val ≤ 100000 ∧ b ≠ r.val / unitC r ∧ b ≠ cei r.val (unitC r) := fun r hr => by
   obtain ⟨i, hi, rfl⟩ := ablR_rq hr
   have hu := unitC_bd hw (i := ((i : Nat) : Int)) (by omega) (by omega)
   have hq := hw.rq (i := ((i : Nat) : Int)) (by omega) (by omega)
   obtain ⟨c1, c2⟩ := cands_mem (w := w) hi
   exact ⟨hu.1, hq.val0, hq.val1, fun e => hn (e ▸ c1), fun e => hn (e ▸ c2)⟩
  have hlin := ubA_lin (S := opnS w w.as.l.length) (b := b) (l := ablR w w.rs.l.length) fun r hr => ⟨(hunit r hr).1, (hunit r hr).2.1, (hunit r hr).2.2.2.1, (hunit r hr).2.2.2.2⟩
  have h1 := a5 (b - 1) (by omega) (by omega)
  have hs1 : boundS w (b - 1) = ubA (opnS w w.as.l.length) (b - 1) (ablR w w.rs.l.length) := rfl
  have hs2 : boundS w (b + 1) = ubA (opnS w w.as.l.length) (b + 1) (ablR w w.rs.l.length) := rfl
  have hs3 : boundS w b = ubA (opnS w w.as.l.length) b (ablR w w.rs.l.length) := rfl
  by_cases hbn : b = 100000
  ·have hop := (opnS_bd hw (k := w.as.l.length)).1
   have f1 := ubA_far (S := opnS w w.as.l.length) (b := b) (l := ablR w w.rs.l.length) (by omega) fun r hr => ⟨(hunit r hr).1, (hunit r hr).2.2.1⟩
   have f2 := ubA_far (S := opnS w w.as.l.length) (b := b + 1) (l := ablR w w.rs.l.length) (by omega) fun r hr => ⟨(hunit r hr).1, (hunit r hr).2.2.1⟩
   rw [Int.add_mul, Int.one_mul] at f2
   omega
  ·have h2 := a4 (b + 1).toNat (by omega)
   rw [show (((b + 1).toNat : Nat) : Int) = b + 1 by omega] at h2
   omega
theorem refU_eq (hw : Wk w) : refU w = bestU w := by
 obtain ⟨a1, a2, a3, a4, a5⟩ := scanU_ok (f := boundS w) (n := 100001) (by decide)
 have hb : bestU w = scanU (boundS w) 100001 := rfl
 rw [← hb] at a1 a2 a3 a4 a5
 have hfun : ubF w = boundS w := funext fun c => ubF_eq hw
 have hr : refU w = (cands w w.rs.l.length).foldl (betU (boundS w)) (0, boundS w 0) := by unfold refU; rw [hfun]
 obtain ⟨b1, b2, b3⟩ := betU_ok (f := boundS w) (l := cands w w.rs.l.length) (q := (0, boundS w 0)) rfl
 rw [← hr] at b1 b2 b3
 have hc := best_cand hw
 have hin : 0 ≤ (refU w).1 ∧ (refU w).1 ≤ 100000 := by
  rcases List.mem_cons.1 b2 with h | h
  ·rw [h]; simp
  ·exact cands_bd hw (Nat.le_refl _) _ h
 obtain ⟨c1, c2⟩ := b3 (bestU w).1 (List.mem_cons_of_mem _ hc)
 have c3 := a4 (refU w).1.toNat (by omega)
 rw [show (((refU w).1.toNat : Nat) : Int) = (refU w).1 by omega] at c3
 have c4 := c2 (by omega)
 have c5 : ¬ (refU w).1 < (bestU w).1 := fun h => by
  have := a5 (refU w).1 hin.1 h
  omega
 have e1 : (refU w).1 = (bestU w).1 := by omega
 have e2 : (refU w).2 = (bestU w).2 := by rw [b1, e1, ← a1]
 exact Prod.ext e1 e2
theorem bestU_bd : 0 ≤ (bestU w).1 ∧ (bestU w).1 ≤ 100000 := by
 obtain ⟨_, a2, a3, _, _⟩ := scanU_ok (f := boundS w) (n := 100001) (by decide)
 have hb : bestU w = scanU (boundS w) 100001 := rfl
 rw [← hb] at a2 a3
 omega
end
end Go.Ax.Sx.Sc

namespace Go.Ax.Sx.Sc
open Go.Ax
set_option linter.unusedSimpArgs false
set_option linter.unusedVariables false
set_option maxRecDepth 100000
section
variable {s : Sig} {w : W}
end
end Go.Ax.Sx.Sc

namespace Go.Ax.Sx.Sc
open Go.Ax
set_option linter.unusedSimpArgs false
set_option linter.unusedVariables false
set_option maxRecDepth 100000
section
variable {w : W}
theorem clq_c {i t : Nat} : clq (cW w).as.l i t = clq w.as.l i t := by
 unfold clq
 rw [cW_as, List.getElem?_map]
 cases w.as.l[i]? <;> rfl
end
end Go.Ax.Sx.Sc

namespace Go.Ax.Sx.Sc
open Go.Ax
set_option linter.unusedSimpArgs false
set_option linter.unusedVariables false
set_option maxRecDepth 100000
section
variable {s : Sig} {w : W} {p : List (Sl Int)}
theorem prAt_c {a t : Nat} : prAt (p.map cX) a t = prAt p a t := by
 unfold prAt
 rw [List.getElem?_map]
 cases p[a]? <;> rfl
theorem cW_asl : (cW w).as.l.length = w.as.l.length := by rw [cW_as, List.length_map]
theorem prcE_c : prcE (cW w) (p.map cX) = prcE w p := by
 have h1 : (p.map cX).length = p.length := by simp
 have h2 : (∀ x ∈ p.map cX, (x.l.length : Int) = w.slots) ↔ ∀ x ∈ p, (x.l.length : Int) = w.slots := by
  constructor
  ·intro h x hx; exact h (cX x) (List.mem_map.2 ⟨x, hx, rfl⟩)
  ·intro h x hx
   obtain ⟨y, hy, rfl⟩ := List.mem_map.1 hx
   exact h y hy
 have h3 : (p.map cX).all (fun x => x.l.all fun n => wi n 0 100000) = p.all fun x => x.l.all fun n => wi n 0 100000 := by
  rw [List.all_map]; rfl
 unfold prcE
 rw [cW_slots, cW_asl, h1, h3]
 simp only [h2]
theorem rowB_c {a : Nat} : ∀ {k : Nat}, rowB (cW w) (p.map cX) a k = rowB w p a k := by
 intro k
 exact sumN_congr fun i _ => by rw [clq_c, prAt_c]
theorem totB_c : ∀ {k : Nat}, totB (cW w) (p.map cX) k = totB w p k := by
 intro k
 exact sumN_congr fun i _ => by rw [rowB_c]; rfl
theorem strip_c {a st k : Nat} : strip (p.map cX) a st k = strip p a st k := sumN_congr fun i _ => prAt_c
theorem costL_c {st len : Nat} : ∀ {l : List Int}, costL (p.map cX) st len l = costL p st len l
 | [] => rfl
 | a :: r => by simp only [costL]; rw [strip_c, costL_c]
theorem surpL_c {i : Int} (h0 : 0 ≤ i) (h1 : i < w.rs.l.length) {l : List P} : surpL (cW w) (p.map cX) i l = surpL w p i l := by
 have : surp (cW w) (p.map cX) i = surp w p i := by
  funext m x
  unfold surp
  rw [cW_rq h0 h1, costL_c]; rfl
 unfold surpL; rw [this]
theorem bndV_c : bndV (cW w) (p.map cX) = bndV w p := by
 unfold bndV
 rw [cW_asl, cW_len, totB_c]
 congr 1
 exact sumN_congr fun i hi => by rw [poss_c (by omega) (by omega), surpL_c (by omega) (by omega)]
theorem bndE_c : bndE (cW w) (p.map cX) = bndE w p := by unfold bndE; rw [weekE_c, prcE_c]
theorem cX_ok2 (h : PrOk p) : PrOk (p.map cX) := ⟨by rw [List.length_map]; exact h.len, fun x hx => by
 obtain ⟨y, hy, rfl⟩ := List.mem_map.1 hx; exact cX_ok, fun x hx => by
 obtain ⟨y, hy, rfl⟩ := List.mem_map.1 hx; exact h.big y hy⟩
theorem opnS_c : ∀ {k : Nat}, opnS (cW w) k = opnS w k
 | 0 => rfl
 | k + 1 => by
  simp only [opnS, cW_slots, opnS_c (k := k)]
  congr 2
  congr 1
  funext t
  rw [clq_c]
theorem ablR_c : ∀ {k : Nat}, k ≤ w.rs.l.length → ablR (cW w) k = (ablR w k).map cR
 | 0, _ => rfl
 | k + 1, hk => by
  have ih := ablR_c (k := k) (by omega)
  simp only [ablR]
  rw [poss_c (by omega) (by omega), ih, cW_rq (by omega) (by omega)]
  split
  ·rfl
  ·simp
theorem boundS_c : boundS (cW w) = boundS w := by
 funext a
 unfold boundS
 rw [cW_asl, cW_len, opnS_c, ablR_c (Nat.le_refl _)]
 unfold ubA
 rw [List.foldl_map]; rfl
theorem bestU_c : bestU (cW w) = bestU w := by unfold bestU; rw [boundS_c]
theorem uniP_c {a : Int} : uniP (cW w) a = uniP w a := by unfold uniP; rw [cW_asl, cW_slots]
theorem acc_form {es : Nat} {α : Type} {f : α → List AV} {l : List α} : ∃ o e, accV es (l.map f) = .slice o e (l.map f) ∧ (l = [] ∨ e = es) := by
 cases l with
 | nil => exact ⟨.nilS, 0, rfl, .inl rfl⟩
 | cons x r => exact ⟨.any, es, rfl, .inr rfl⟩
end
end Go.Ax.Sx.Sc

namespace Go.Ax.Sx.Sc
open Go.Ax
set_option linter.unusedSimpArgs false
set_option linter.unusedVariables false
set_option maxRecDepth 100000
section
variable {s : Sig} {w : W} {p : List (Sl Int)}
theorem l_ScheduleBounds {o : Own} {e : Nat} (hs : Ok s) (hw : w.Ok) (hb : w.Big) (hp : PrBig p) (he : p = [] ∨ e = 1) : callL AP (.fn 3) [w.v, .slice o e (p.map rowX)] s = some (B true, s) := by
 have haw : ∀ r, callL AP (.fn 4) [] (s.push r) = some (B true, s.push r) := fun r => l_awake (hs.push r)
 have hfe : ∀ r, callL AP (.fn 5) [w.v] (s.push r) = some (B (fewB w), s.push r) := fun r => l_Few (hs.push r) hw hb
 have hfp : ∀ r, callL AP (.fn 6) [.slice o e (p.map rowX)] (s.push r) = some (B (fewP p), s.push r) := fun r => l_few hp he
 simp only [W.v, rowW, Sl.v] at hfe
 cases hf : fewB w with
 | false =>
  rw [hf] at hfe
  rw [callL_go (show AP 3 = some c_l_ScheduleBounds from rfl) rfl]
  simp (maxSteps := 1000000) only [go_sem, b_l_ScheduleBounds, haw, hfe, Nat.reduceEqDiff, Nat.reduceAdd, ↓reduceIte]
 | true =>
 rw [hf] at hfe
 cases hf2 : fewP p with
 | false =>
  rw [hf2] at hfp
  rw [callL_go (show AP 3 = some c_l_ScheduleBounds from rfl) rfl]
  simp (maxSteps := 1000000) only [go_sem, b_l_ScheduleBounds, haw, hfe, hfp, Nat.reduceEqDiff, Nat.reduceAdd, ↓reduceIte]
 | true =>
 rw [hf2] at hfp
 have hF := fewB_iff hf
 have hP := fewP_ok hp hf2
 have hcp : ∀ r, callL AP (.fn 8) [w.v] (s.push r) = some ((cW w).v, s.push r) := fun r => r_CopyWeek (hs.push r) hw hF
 obtain ⟨oc, ec, hac, hec⟩ := acc_form (es := 1) (f := rowX) (l := p.map cX)
 have hcl : ∀ r, callL AP (.fn 9) [.slice o e (p.map rowX)] (s.push r) = some (.slice oc ec ((p.map cX).map rowX), s.push r) := fun r => by
  rw [b_CopyLists (hs.push r) hP he, hac]
 have hbo : ∀ r, callL AP (.fn 7) [(cW w).v, .slice oc ec ((p.map cX).map rowX)] (s.push r) = some (.tuple [I (if bndE w p = 0 then bndV w p else 0), I (bndE w p)], s.push r) := fun r => by
  rw [s_BoundOf (hs.push r) cW_Ok (cW_Few hF) (cX_ok2 hP) hec, bndE_c, bndV_c]
 have hup : ∀ r, callL AP (.fn 10) [(cW w).v] (s.push r) = some (.tuple [accV 1 ((if (weekE w).2.2 = 0 then uniP w (bestU w).1 else []).map rowX), I (if (weekE w).2.2 = 0 then (bestU w).2 else 0), I (weekE w).2.2], s.push r) := fun r => by
  rw [s_UniformPrices (hs.push r) cW_Ok (cW_Few hF), weekE_c, bestU_c, uniP_c]
 have hwe : ∀ r, callL AP (.fn 11) [w.v] (s.push r) = some (I (weekE w).2.2, s.push r) := fun r => r_WeekErr (hs.push r) hw hF
 by_cases h0 : (weekE w).2.2 = 0
 ·have hwk : Wk w := ⟨hw, hF, weekE_ok h0⟩
  have hbe : bndE w p = prcE w p := if_pos h0
  rw [if_pos h0, if_pos h0, h0] at hup
  rw [hbe] at hbo
  rw [h0] at hwe
  obtain ⟨ou, eu, hau, heu⟩ := acc_form (es := 1) (f := rowX) (l := uniP w (bestU w).1)
  rw [hau] at hup
  have hru : ∀ r, callL AP (.fn 12) [w.v] (s.push r) = some (.tuple [I (bestU w).1, I (bestU w).2], s.push r) := fun r => by rw [r_UniformPrice (hs.push r) hwk, refU_eq hwk]
  have hun : ∀ r, callL AP (.fn 14) [w.v, I (bestU w).1] (s.push r) = some (.slice ou eu ((uniP w (bestU w).1).map rowX), s.push r) := fun r => by rw [r_Uniform (hs.push r) hwk, hau]
  have huv := uniP_V hwk (bestU_bd (w := w)).1 (bestU_bd (w := w)).2
  have hul := huv.ok.len
  have hli : ∀ r, callL AP (.fn 13) [.slice ou eu ((uniP w (bestU w).1).map rowX), .slice ou eu ((uniP w (bestU w).1).map rowX)] (s.push r) = some (B true, s.push r) := fun r => by
   rw [b_Lists heu heu huv.ok.ok huv.ok.ok (by omega) (fun x hx => by have := huv.ok.big x hx; omega)]
   simp [sameX]
  have hpe : ∀ r, callL AP (.fn 15) [w.v, .slice o e (p.map rowX)] (s.push r) = some (I (prcE w p), s.push r) := fun r => r_PricesErr (hs.push r) hwk hP he
  have h00 : decide ((0 : Int) ≠ 0) = false := rfl
  have hnn : decide ((bestU w).2 ≠ (bestU w).2) = false := by simp
  generalize (uniP w (bestU w).1).map rowX = UV at *
  generalize (p.map cX).map rowX = PC at *
  by_cases h1 : prcE w p = 0
  ·have hv := prcE_ok hP h1
   have hrb : ∀ r, callL AP (.fn 16) [w.v, .slice o e (p.map rowX)] (s.push r) = some (I (bndV w p), s.push r) := fun r => r_BoundOf (hs.push r) hwk hv he
   rw [if_pos h1, h1] at hbo
   rw [h1] at hpe
   have hee : decide (bndV w p = bndV w p) = true := by simp
   generalize p.map rowX = PV at *
   simp only [W.v, rowW, Sl.v] at hcp hbo hup hwe hru hun hpe hrb
   rw [callL_go (show AP 3 = some c_l_ScheduleBounds from rfl) rfl]
   simp (maxSteps := 1000000) only [go_sem, b_l_ScheduleBounds, haw, hfe, hfp, hcp, hcl, hbo, hup, hwe, hru, hun, hli, hpe, hrb, h00, hnn, Bool.not_true, Nat.reduceEqDiff, Nat.reduceAdd, ↓reduceIte]
  ·rw [if_neg h1] at hbo
   have hdn : decide (prcE w p ≠ 0) = true := by simp [h1]
   have hee : decide (prcE w p = prcE w p) = true := by simp
   generalize p.map rowX = PV at *
   simp only [W.v, rowW, Sl.v] at hcp hbo hup hwe hru hun hpe
   rw [callL_go (show AP 3 = some c_l_ScheduleBounds from rfl) rfl]
   simp (maxSteps := 1000000) only [go_sem, b_l_ScheduleBounds, haw, hfe, hfp, hcp, hcl, hbo, hup, hwe, hru, hun, hli, hpe, h00, hnn, hdn, Bool.not_true, Nat.reduceEqDiff, Nat.reduceAdd, ↓reduceIte]
 ·have hbe : bndE w p = (weekE w).2.2 := if_neg h0
  rw [if_neg h0, if_neg h0] at hup
  rw [hbe, if_neg h0] at hbo
  have hdn : decide ((weekE w).2.2 ≠ 0) = true := by simp [h0]
  have hee : decide ((weekE w).2.2 = (weekE w).2.2) = true := by simp
  have hnil : accV 1 (([] : List (Sl Int)).map rowX) = .slice .nilS 0 [] := rfl
  rw [hnil] at hup
  generalize (p.map cX).map rowX = PC at *
  generalize p.map rowX = PV at *
  simp only [W.v, rowW, Sl.v] at hcp hbo hup hwe
  rw [callL_go (show AP 3 = some c_l_ScheduleBounds from rfl) rfl]
  simp (maxSteps := 1000000) only [go_sem, b_l_ScheduleBounds, haw, hfe, hfp, hcp, hcl, hbo, hup, hwe, hdn, Bool.not_true, len_sl, Nat.reduceEqDiff, Nat.reduceAdd, Int.cast_ofNat_Int, ↓reduceIte]
  try rfl
end
end Go.Ax.Sx.Sc

namespace Go.Ax.Sx.Sc
open Go.Ax
section
variable {P : Program} {d : Nat}
def Flds (P : Program) (t : TypeId) (ts : List TypeId) : Prop := ∃ fs : Array Field, P.underlying t = some (.struct fs) ∧ fs.toList.map (·.type) = ts
theorem shp_flds {t : TypeId} {ts : List TypeId} {avs : List AV} (hf : Flds P t ts) (h : Shp P (d + 1) t avs) :
  ∃ ps : List (List AV), avs = ps.flatten ∧ ps.length = ts.length ∧ ∀ (i : Nat) (u : TypeId) (p : List AV), ts[i]? = some u → ps[i]? = some p → Shp P d u p := by
 obtain ⟨fs, hu, rfl⟩ := hf
 obtain ⟨ps, h1, h2, h3⟩ := shp_struct hu h
 refine ⟨ps, h1, by simp [h2], fun i u p hi hp => ?_⟩
 rw [List.getElem?_map] at hi
 obtain ⟨f, hf, rfl⟩ := Option.map_eq_some_iff.1 hi
 exact h3 i f p (by simpa using hf) hp
structure WkT (P : Program) (ti ts tg tgs tis ta tas tr trs tw : TypeId) : Prop where
 i : P.underlying ti = some (.int .i64)
 s : P.underlying ts = some .string
 g : Flds P tg [ti, ti]
 gs : P.underlying tgs = some (.slice tg)
 gc : P.cellsOf tg = 2
 is : P.underlying tis = some (.slice ti)
 ic : P.cellsOf ti = 1
 a : Flds P ta [ts, ti, tgs]
 sa : P.underlying tas = some (.slice ta)
 ac : P.cellsOf ta = 3
 r : Flds P tr [ts, tg, ti, ti, tis, ti]
 sr : P.underlying trs = some (.slice tr)
 rc : P.cellsOf tr = 7
 w : Flds P tw [ti, tas, trs]
variable {ti ts tg tgs tis ta tas tr trs tw : TypeId}
theorem maxLen_lt {n : Nat} (h : n ≤ maxLen) : (n : Int) < 9223372036854775808 := by unfold maxLen at h; omega
theorem shp_rng (T : WkT P ti ts tg tgs tis ta tas tr trs tw) {avs : List AV} (h : Shp P (d + 2) tg avs) : ∃ x : Int × Int, avs = rowG x ∧ True := by
 obtain ⟨ps, rfl, hl, hp⟩ := shp_flds T.g h
 match ps, hl, hp with
 | [p0, p1], _, hp =>
  obtain ⟨a, rfl, _⟩ := shp_int T.i (hp 0 _ p0 rfl rfl)
  obtain ⟨b, rfl, _⟩ := shp_int T.i (hp 1 _ p1 rfl rfl)
  exact ⟨(a, b), rfl, trivial⟩
theorem own_ok {o : Own} {rows : List (List AV)} (h : o = .any ∨ (o = .nilS ∧ rows = [])) : o = .any ∨ (o = .nilS ∧ rows = []) := h
theorem shp_ints (T : WkT P ti ts tg tgs tis ta tas tr trs tw) {avs : List AV} (h : Shp P (d + 2) tis avs) : ∃ x : Sl Int, avs = [x.v rowI] ∧ x.ok 1 ∧ (x.l.length : Int) < 9223372036854775808 := by
 obtain ⟨o, rows, rfl, ho, hlen, hrows⟩ := shp_slice T.is h
 obtain ⟨l, rfl, _⟩ := rows_eq (f := rowI) (g := fun _ => True) (fun r hr => by
  obtain ⟨x, hx, _⟩ := shp_int T.i (hrows r hr)
  exact ⟨x, hx, trivial⟩)
 rw [List.length_map] at hlen
 rw [T.ic]
 refine ⟨⟨o, 1, l⟩, rfl, ?_, maxLen_lt hlen⟩
 rcases ho with rfl | ⟨rfl, h⟩
 ·exact ⟨.inr rfl, .inl rfl⟩
 ·exact ⟨.inr rfl, .inr (.inr ⟨rfl, List.map_eq_nil_iff.1 (by assumption)⟩)⟩
theorem shp_rngs (T : WkT P ti ts tg tgs tis ta tas tr trs tw) {avs : List AV} (h : Shp P (d + 3) tgs avs) : ∃ x : Sl (Int × Int), avs = [x.v rowG] ∧ x.ok 2 ∧ (x.l.length : Int) < 9223372036854775808 := by
 obtain ⟨o, rows, rfl, ho, hlen, hrows⟩ := shp_slice T.gs h
 obtain ⟨l, rfl, _⟩ := rows_eq (f := rowG) (g := fun _ => True) (fun r hr => shp_rng T (hrows r hr))
 rw [List.length_map] at hlen
 rw [T.gc]
 refine ⟨⟨o, 2, l⟩, rfl, ?_, maxLen_lt hlen⟩
 rcases ho with rfl | ⟨rfl, h⟩
 ·exact ⟨.inr rfl, .inl rfl⟩
 ·exact ⟨.inr rfl, .inr (.inr ⟨rfl, List.map_eq_nil_iff.1 (by assumption)⟩)⟩
theorem shp_ant (T : WkT P ti ts tg tgs tis ta tas tr trs tw) {avs : List AV} (h : Shp P (d + 4) ta avs) :
  ∃ a : A, avs = rowA a ∧ (a.cl.ok 2 ∧ (a.name.size : Int) < 9223372036854775808 ∧ (a.cl.l.length : Int) < 9223372036854775808) := by
 obtain ⟨ps, rfl, hl, hp⟩ := shp_flds T.a h
 match ps, hl, hp with
 | [p0, p1, p2], _, hp =>
  obtain ⟨n, rfl, hn⟩ := shp_str T.s (hp 0 _ p0 rfl rfl)
  obtain ⟨b, rfl, _⟩ := shp_int T.i (hp 1 _ p1 rfl rfl)
  obtain ⟨c, rfl, hc, hcl⟩ := shp_rngs T (hp 2 _ p2 rfl rfl)
  exact ⟨⟨n, b, c⟩, rfl, hc, maxLen_lt hn, hcl⟩
theorem shp_req (T : WkT P ti ts tg tgs tis ta tas tr trs tw) {avs : List AV} (h : Shp P (d + 4) tr avs) :
  ∃ r : R, avs = rowR r ∧ (r.an.ok 1 ∧ (r.mis.size : Int) < 9223372036854775808 ∧ (r.an.l.length : Int) < 9223372036854775808) := by
 obtain ⟨ps, rfl, hl, hp⟩ := shp_flds T.r h
 match ps, hl, hp with
 | [p0, p1, p2, p3, p4, p5], _, hp =>
  obtain ⟨n, rfl, hn⟩ := shp_str T.s (hp 0 _ p0 rfl rfl)
  obtain ⟨g, rfl, _⟩ := shp_rng T (hp 1 _ p1 rfl rfl)
  obtain ⟨b, rfl, _⟩ := shp_int T.i (hp 2 _ p2 rfl rfl)
  obtain ⟨c, rfl, _⟩ := shp_int T.i (hp 3 _ p3 rfl rfl)
  obtain ⟨x, rfl, hx, hxl⟩ := shp_ints T (hp 4 _ p4 rfl rfl)
  obtain ⟨e, rfl, _⟩ := shp_int T.i (hp 5 _ p5 rfl rfl)
  exact ⟨⟨n, g.1, g.2, b, c, x, e⟩, rfl, hx, maxLen_lt hn, hxl⟩
theorem shp_week (T : WkT P ti ts tg tgs tis ta tas tr trs tw) {avs : List AV} (h : Shp P (d + 6) tw avs) : ∃ w : W, AV.agg avs = w.v ∧ w.Ok ∧ w.Big := by
 obtain ⟨ps, rfl, hl, hp⟩ := shp_flds T.w h
 match ps, hl, hp with
 | [p0, p1, p2], _, hp =>
  obtain ⟨n, rfl, _⟩ := shp_int T.i (hp 0 _ p0 rfl rfl)
  obtain ⟨o1, r1, rfl, ho1, hl1, hr1⟩ := shp_slice T.sa (hp 1 _ p1 rfl rfl)
  obtain ⟨o2, r2, rfl, ho2, hl2, hr2⟩ := shp_slice T.sr (hp 2 _ p2 rfl rfl)
  obtain ⟨as, rfl, has⟩ := rows_eq (fun r hr => shp_ant T (hr1 r hr))
  obtain ⟨rs, rfl, hrs⟩ := rows_eq (fun r hr => shp_req T (hr2 r hr))
  rw [List.length_map] at hl1 hl2
  rw [T.ac, T.rc]
  refine ⟨⟨n, ⟨o1, 3, as⟩, ⟨o2, 7, rs⟩⟩, rfl, ⟨?_, fun a ha => (has a ha).1, ?_, fun r hr => (hrs r hr).1⟩, ⟨maxLen_lt hl1, maxLen_lt hl2, fun a ha => (has a ha).2.1, fun a ha => (has a ha).2.2, fun r hr => (hrs r hr).2.1, fun r hr => (hrs r hr).2.2⟩⟩
  ·rcases ho1 with rfl | ⟨rfl, h⟩
   ·exact ⟨.inr rfl, .inl rfl⟩
   ·exact ⟨.inr rfl, .inr (.inr ⟨rfl, List.map_eq_nil_iff.1 (by assumption)⟩)⟩
  ·rcases ho2 with rfl | ⟨rfl, h⟩
   ·exact ⟨.inr rfl, .inl rfl⟩
   ·exact ⟨.inr rfl, .inr (.inr ⟨rfl, List.map_eq_nil_iff.1 (by assumption)⟩)⟩
end
end Go.Ax.Sx.Sc

/-
  What slices of slices of numbers are among the values that an argument may read as.
-/
namespace Go.Ax.Sx.Sc
open Go.Ax
section
variable {P : Program} {d : Nat} {ti ts tg tgs tis ta tas tr trs tw : TypeId}
theorem shp_lists (T : WkT P ti ts tg tgs tis ta tas tr trs tw) {tll : TypeId} (hu : P.underlying tll = some (.slice tis)) (hc : P.cellsOf tis = 1) {avs : List AV} (h : Shp P (d + 3) tll avs) :
  ∃ (l : List (Sl Int)) (o : Own) (e : Nat), avs = [.slice o e (l.map rowX)] ∧ PrBig l ∧ (l = [] ∨ e = 1) := by
 obtain ⟨o, rows, rfl, ho, hlen, hrows⟩ := shp_slice hu h
 obtain ⟨l, rfl, hr⟩ := rows_eq (f := rowX) (g := fun x : Sl Int => x.ok 1 ∧ (x.l.length : Int) < 9223372036854775808) (fun r hr => by
  obtain ⟨x, hx, h1, h2⟩ := shp_ints T (hrows r hr)
  exact ⟨x, hx, h1, h2⟩)
 rw [List.length_map] at hlen
 rw [hc]
 exact ⟨l, o, 1, rfl, ⟨maxLen_lt hlen, fun x hx => (hr x hx).1, fun x hx => (hr x hx).2⟩, .inr rfl⟩
end
end Go.Ax.Sx.Sc
