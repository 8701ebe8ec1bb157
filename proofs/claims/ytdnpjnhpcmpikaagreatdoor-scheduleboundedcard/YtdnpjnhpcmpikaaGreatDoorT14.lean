/-
  What a week is among the values that an argument may read as.
-/
import Derived.Test.YtdnpjnhpcmpikaaGreatDoorT13
import Derived.Test.YtdnpjnhpcmpikaaGreatDoorT12
import Derived.Test.YtdnpjnhpcmpikaaGreatDoorT7
namespace Go.Ax.Sx.Sc
open Go.Ax
set_option linter.unusedSimpArgs false
set_option linter.unusedVariables false
set_option maxRecDepth 100000
structure RB (r : R) : Prop where
 v0 : 0 ≤ r.val
 v1 : r.val ≤ 100000
 u0 : 0 ≤ unitC r
 u1 : unitC r ≤ 1200
 l0 : 0 ≤ r.len
 l1 : r.len ≤ 200
 an : r.an.ok 1
def gain (a : Int) (r : R) : Int := max 0 (r.val - a * unitC r)
def ubA (S a : Int) (l : List R) : Int := l.foldl (fun t r => t + gain a r) (a * S)
theorem ubA_snoc {S a : Int} {l : List R} {r : R} : ubA S a (l ++ [r]) = ubA S a l + gain a r := by simp [ubA]
theorem mul_bd {a b m n : Int} (h0 : 0 ≤ a) (h1 : a ≤ m) (h2 : 0 ≤ b) (h3 : b ≤ n) (hm : 0 ≤ m) : 0 ≤ a * b ∧ a * b ≤ m * n := ⟨Int.mul_nonneg h0 h2, Int.mul_le_mul h1 h3 h2 hm⟩
theorem gain_bd {a : Int} {r : R} (hr : RB r) (h0 : 0 ≤ a) : 0 ≤ gain a r ∧ gain a r ≤ 100000 := by
 have h1 := hr.v1
 have h2 := Int.mul_nonneg h0 hr.u0
 unfold gain; omega
section
variable {s : Sig} {w : W} {p : List (Sl Int)}
theorem ubA_bd {S a : Int} (h0 : 0 ≤ a) (h1 : a ≤ 100000) (hS0 : 0 ≤ S) (hS1 : S ≤ 800) {l : List R} (hr : ∀ r ∈ l, RB r) : 0 ≤ ubA S a l ∧ ubA S a l ≤ 80000000 + l.length * 100000 := by
 have hb := mul_bd h0 h1 hS0 hS1 (by omega)
 have key : ∀ (l : List R) (t : Int), (∀ r ∈ l, RB r) → 0 ≤ t → 0 ≤ l.foldl (fun t r => t + gain a r) t ∧ l.foldl (fun t r => t + gain a r) t ≤ t + l.length * 100000 := by
  intro l
  induction l with
  | nil => intro t _ h; simp [h]
  | cons r q ih =>
   intro t hq ht
   have hg := gain_bd (hq r (by simp)) h0
   have := ih (t + gain a r) (fun x hx => hq x (List.mem_cons_of_mem _ hx)) (by omega)
   simp only [List.foldl_cons, List.length_cons]
   omega
 have := key l (a * S) hr hb.1
 unfold ubA
 omega
theorem s_UniformPrices_1 {l : List R} {o : Own} {e d b1 b2 : Nat} {S a : Int} (hs : Ok s) (hb1 : s.box d b1 = some [I S]) (hb2 : s.box d b2 = some [.slice o e (l.map rowR)]) (he : l = [] ∨ e = 7) (hl : l.length ≤ 12) (hr : ∀ r ∈ l, RB r)
  (hS0 : 0 ≤ S) (hS1 : S ≤ 800) (h0 : 0 ≤ a) (h1 : a ≤ 100000) : callL AP (.fn 37) [I a, .ptr d b1 0, .ptr d b2 0] s = some (I (ubA S a l), s) := by
 have hbk1 : ∀ r, (s.push r).box d b1 = some [I S] := fun r => box_keep hb1 r
 have hbk2 : ∀ r, (s.push r).box d b2 = some [.slice o e (l.map rowR)] := fun r => box_keep hb2 r
 have hb := mul_bd h0 h1 hS0 hS1 (by omega)
 have hw0 : IntKind.i64.wrap (a * S) = a * S := wrap_id (by omega) (by omega)
 have key : ∀ (k : Nat) ρ m, k ≤ l.length → (ρ 0 = I a ∧ ρ 5 = I (ubA S a (l.take k)) ∧ ρ 11 = .slice o e (l.map rowR) ∧ ρ 12 = I l.length ∧ ρ 13 = I k ∧ ∃ jk, m = s.push ⟨jk, []⟩) → go AP f_s_UniformPrices_1 (.c (.loop b_s_UniformPrices_1_l0) :: k_s_UniformPrices_1_0) ⟨ρ, m⟩ = some (I (ubA S a l), s) := by
  refine loop_up l.length _ (fun _ => some (I (ubA S a l), s)) ?_ ?_
  ·rintro k ρ m hk ⟨g0, g5, g11, g12, g13, jk, rfl⟩ ih
   obtain ⟨r, hr1⟩ := get_some hk
   have hrb := hr r (List.mem_of_getElem? hr1)
   have hec : e = 7 := by rcases he with h | h; (rw [h] at hr1; simp at hr1); exact h
   subst hec
   have hix := ix_map (f := rowR) (o := o) (es := 7) hr1
   have v0 := hrb.v0
   have v1 := hrb.v1
   have m1 := mul_bd h0 h1 hrb.l0 hrb.l1 (by omega)
   have m2 := mul_bd h0 h1 hrb.u0 hrb.u1 (by omega)
   have w1 : IntKind.i64.wrap (a * r.len) = a * r.len := wrap_id (by omega) (by omega)
   have hmm : a * r.len * r.need = a * unitC r := by unfold unitC; rw [Int.mul_assoc]
   have w2 : IntKind.i64.wrap (a * r.len * r.need) = a * unitC r := by rw [hmm]; exact wrap_id (by omega) (by omega)
   have w3 : IntKind.i64.wrap (r.val - a * unitC r) = r.val - a * unitC r := wrap_id (by omega) (by omega)
   have hg : max 0 (r.val - a * unitC r) = gain a r := rfl
   have gb := gain_bd hrb h0
   have tb := ubA_bd h0 h1 hS0 hS1 (l := l.take k) fun x hx => hr x (List.mem_of_mem_take hx)
   have hll : (l.take k).length ≤ 12 := by rw [List.length_take]; omega
   have w4 : IntKind.i64.wrap (ubA S a (l.take k) + gain a r) = ubA S a (l.take (k + 1)) := by rw [take_get hr1, ubA_snoc]; exact wrap_id (by omega) (by omega)
   simp only [rowR, Sl.v] at hix
   simp (maxSteps := 1000000) only [go_sem, b_s_UniformPrices_1_l0, g0, g5, g11, g12, g13, hs, lt_dec hk, hix, w1, w2, w3, mx_i, hg, w4, wrap_succ hk (show (l.length : Int) < _ by omega), Nat.reduceEqDiff, reduceCtorEq, Nat.reduceAdd, ↓reduceIte]
   refine ih _ _ ?_
   exact ⟨g0, rfl, g11, g12, rfl, _, rfl⟩
  ·rintro ρ m ⟨g0, g5, g11, g12, g13, jk, rfl⟩
   rw [List.take_length] at g5
   simp (maxSteps := 1000000) only [go_sem, b_s_UniformPrices_1_l0, b_s_UniformPrices_1_r0, g5, g12, g13, ge_dec, Nat.reduceEqDiff, ↓reduceIte]
 rw [callL_go (show AP 37 = some c_s_UniformPrices_1 from rfl) rfl]
 simp (maxSteps := 1000000) only [go_sem, b_s_UniformPrices_1, hbk1, hbk2, hw0, Nat.reduceEqDiff, reduceCtorEq, ↓reduceIte]
 refine key 0 _ _ (Nat.zero_le _) ?_
 exact ⟨rfl, rfl, rfl, rfl, rfl, _, rfl⟩
abbrev ablL (ρ : Nat → AV) : ALoop := ⟨true, none, ρ, [49], b_s_UniformPrices_a3, b_s_UniformPrices_y3⟩
theorem abl_round {X T : Rec → Sig} {l d : Nat} {ρ : Nat → AV} {tk : List (Option Nat)} {pre : List (List AV)} {r : R} {x : P} {xs : List (List AV)} {v : AV} {og : Option Nat} (hM : Mid X d) (hX : ∀ r, busy l (T r) = X r) (hR : ∀ r, Ready l (ablL ρ) (T r)) (hok : ∀ r, Ok (T r))
  (hr : r.an.ok 1) (hp2 : pre[2]? = some [v]) (hA : Acc d 7 xs v og tk) (hxl : xs.length ≤ 100) (h9 : ρ 9 = .ptr d 2 0) (h11 : ρ 11 = .ptr d pre.length 0) :
  ∃ v' og' tk', callL AP (.yield l) [.agg (rowP x)] (T ⟨pre ++ [rowR r], tk⟩) = some (.v (.bool false), over l (.exit 4) (T ⟨(pre ++ [rowR r]).set 2 [v'], tk'⟩)) ∧ Acc d 7 (xs ++ [rowR r]) v' og' tk' := by
 have hokX : ∀ r, Ok (X r) := fun r => by rw [← hX]; exact (hok r).busy
 have hfx : ∀ r ρ' q, finR l (.exit 4) ⟨ρ', (X r).push q⟩ = some (.v (.bool false), over l (.exit 4) (T r)) := fun r ρ' q => by rw [← hX]; exact finR_x
 have len2 : 2 < pre.length := (List.getElem?_eq_some_iff.1 hp2).1
 have hb2 : (pre ++ [rowR r])[2]? = some [v] := by rw [List.getElem?_append_left len2]; exact hp2
 have k2 : ∀ q, ((X ⟨pre ++ [rowR r], tk⟩).push q).box d 2 = some [v] := fun q => by rw [hM.box]; exact hb2
 have k3 : ∀ q, ((X ⟨pre ++ [rowR r], tk⟩).push q).box d pre.length = some (rowR r) := fun q => by rw [hM.box]; exact at_len
 have hcl : closeAll (rowR r) = some (rowR r) := by
  simp only [rowR, closeAll_cons, closeAll_nil, close_int, close_str, Sl.close hr]; rfl
 obtain ⟨x1, m1, r0', v', og', tk', a1, a2, a3, a4, a5, a6⟩ := hM.append (r := ⟨pre ++ [rowR r], tk⟩) (r0 := ⟨[], []⟩) hA .full (ys := [rowR r]) (by simp) (by simp; omega) (b := 2) (by simp; omega) ⟨v, hb2⟩
 refine ⟨v', og', tk', ?_, a4⟩
 rw [callL_round (hR _) rfl]
 simp only [rowR, Sl.v] at *
 simp (maxSteps := 1000000) only [go_sem, b_s_UniformPrices_a3, finA_n (hR _), setParams_1]
 simp (maxSteps := 1000000) only [go_sem, b_s_UniformPrices_y3, hX, h9, h11, k2, k3, hcl, a1, a2, hfx, Nat.reduceEqDiff, ↓reduceIte]
abbrev ablB (s : Sig) (ρ : Nat → AV) (i : Bool × Rec) : Sig := enterLoop (s.push i.2) ⟨!i.1, if i.1 = true then some (.exit 4) else none, ρ, [49], b_s_UniformPrices_a3, b_s_UniformPrices_y3⟩
theorem abl_hand {ρ : Nat → AV} {tk : List (Option Nat)} {pre : List (List AV)} {r : R} {xs : List (List AV)} {v : AV} {og : Option Nat} (hs : Ok s) (hr : r.an.ok 1) (hp2 : pre[2]? = some [v]) (hA : Acc s.acts.length 7 xs v og tk) (hxl : xs.length ≤ 100) (h9 : ρ 9 = .ptr s.acts.length 2 0) (h11 : ρ 11 = .ptr s.acts.length pre.length 0) :
  Hand AP s.loops.length (fun x : P => .agg (rowP x)) (ablB s ρ) (fun _ i => i = (false, ⟨pre ++ [rowR r], tk⟩)) (fun _ _ => true) (fun _ _ i => ∃ v' og' tk', i = (true, ⟨(pre ++ [rowR r]).set 2 [v'], tk'⟩) ∧ Acc s.acts.length 7 (xs ++ [rowR r]) v' og' tk')
   (fun _ => True) (s.acts.length + 1) (s.loops.length + 1) 100000 := by
 refine ⟨fun i => (hs.push _).enter, fun i => by simp [ablB, enterLoop, Sig.push], fun i => by simp [ablB, enterLoop, Sig.push], fun _ _ _ _ _ _ _ _ h => (by cases h), ?_⟩
 rintro done x i B ls _ rfl _ _
 have hM : Mid (fun r => up (busy s.loops.length (enterLoop (s.push r) (ablL ρ))) B ls) s.acts.length := mid_loop hs
 have hX : ∀ r, busy s.loops.length (up (enterLoop (s.push r) (ablL ρ)) B ls) = (fun r => up (busy s.loops.length (enterLoop (s.push r) (ablL ρ))) B ls) r := fun r => up_busy (by simp [enterLoop, Sig.push])
 obtain ⟨v', og', tk', h, hA'⟩ := abl_round (T := fun r => up (enterLoop (s.push r) (ablL ρ)) B ls) (x := x) hM hX (fun r => up_ready (enter_ready (hs.push r))) (fun r => ((hs.push _).enter).up) hr hp2 hA hxl h9 h11
 refine ⟨(true, ⟨(pre ++ [rowR r]).set 2 [v'], tk'⟩), ?_, v', og', tk', rfl, hA'⟩
 refine h.trans ?_
 have hov : over s.loops.length (.exit 4) (up (enterLoop (s.push ⟨(pre ++ [rowR r]).set 2 [v'], tk'⟩) (ablL ρ)) B ls) = up (ablB s ρ (true, ⟨(pre ++ [rowR r]).set 2 [v'], tk'⟩)) B ls := by
  rw [up_over (by simp [enterLoop, Sig.push])]
  congr 1
  exact over_enter (m := s.push _)
 rw [hov]
theorem abl_range {F : AExit → St → Option (AV × Sig)} {ks : List K} {ρ : Nat → AV} {tk : List (Option Nat)} {pre : List (List AV)} {r : R} {xs : List (List AV)} {v : AV} {og : Option Nat} {i : Nat} (hs : Ok s) (hw : Wk w) (hi : i < w.rs.l.length) (hr : r.an.ok 1) (hp2 : pre[2]? = some [v]) (hA : Acc s.acts.length 7 xs v og tk) (hxl : xs.length ≤ 100)
  (h9 : ρ 9 = .ptr s.acts.length 2 0) (h11 : ρ 11 = .ptr s.acts.length pre.length 0) (h48 : ρ 48 = .fn 53 [] [.eptr [OW w] 0, .eptr [I (i : Int)] 0]) :
  ∃ v' og' tk', go AP F (.c (.rangeFunc (.tmp 48) [49] b_s_UniformPrices_a3 b_s_UniformPrices_y3) :: .blk 4 :: ks) ⟨ρ, s.push ⟨pre ++ [rowR r], tk⟩⟩ = go AP F ks ⟨ρ, s.push ⟨(pre ++ [rowR r]).set 2 [v'], tk'⟩⟩ ∧ Acc s.acts.length 7 (if (poss w i).isEmpty = true then xs else xs ++ [rowR r]) v' og' tk' := by
 obtain ⟨b, i', hc, hE⟩ := poss_calls (abl_hand hs hr hp2 hA hxl h9 h11) hw (req := (i : Int)) (by omega) (by omega) (i := (false, ⟨pre ++ [rowR r], tk⟩)) (done := []) (by have := poss_count hw (i := (i : Int)) (by omega) (by omega); simp; omega) rfl (fun _ _ => trivial)
 have hb2 : (pre ++ [rowR r])[2]? = some [v] := by rw [List.getElem?_append_left (List.getElem?_eq_some_iff.1 hp2).1]; exact hp2
 rw [go_range (x := .tmp 48) h48]
 cases hq : poss w (i : Int) with
 | nil =>
  rw [hq] at hE
  obtain ⟨_, rfl⟩ := hE
  refine ⟨v, og, tk, ?_, by simpa using hA⟩
  rw [set_same hb2]
  refine (congrArg (Option.bind · _) hc).trans ?_
  simp only [Option.bind_some]
  refine (goL_normal (m := s.push ⟨pre ++ [rowR r], tk⟩) (lp := ablL ρ) rfl rfl rfl).trans ?_
  simp (maxSteps := 1000000) only [go_sem]
 | cons x q =>
  rw [hq] at hE
  simp only [Ends, if_true] at hE
  obtain ⟨_, v', og', tk', rfl, hA'⟩ := hE
  refine ⟨v', og', tk', ?_, by simpa using hA'⟩
  refine (congrArg (Option.bind · _) hc).trans ?_
  simp only [Option.bind_some]
  refine (goL_exit (m := s.push ⟨(pre ++ [rowR r]).set 2 [v'], tk'⟩) (lp := ⟨false, some (.exit 4), ρ, [49], b_s_UniformPrices_a3, b_s_UniformPrices_y3⟩) rfl rfl).trans ?_
  simp (maxSteps := 1000000) only [go_sem, ↓reduceIte]
def ablR (w : W) : Nat → List R
 | 0 => []
 | k + 1 => if (poss w (k : Nat)).isEmpty = true then ablR w k else ablR w k ++ [w.rq (k : Nat)]
theorem ablR_len : ∀ {k : Nat}, (ablR w k).length ≤ k
 | 0 => Nat.le_refl _
 | k + 1 => by
  have := ablR_len (k := k)
  simp only [ablR]
  split
  ·omega
  ·rw [List.length_append]; simp; omega
theorem ablR_RB (hw : Wk w) : ∀ {k : Nat}, k ≤ w.rs.l.length → ∀ r ∈ ablR w k, RB r
 | 0, _, r, hr => by simp [ablR] at hr
 | k + 1, hk, r, hr => by
  simp only [ablR] at hr
  split at hr
  ·exact ablR_RB hw (by omega) r hr
  ·rcases List.mem_append.1 hr with hr | hr
   ·exact ablR_RB hw (by omega) r hr
   ·rw [List.mem_singleton.1 hr]
    obtain ⟨u1, u2, u3, u4, u5, u6⟩ := unitC_bd hw (i := ((k : Nat) : Int)) (by omega) (by omega)
    have hq := hw.rq (i := ((k : Nat) : Int)) (by omega) (by omega)
    exact ⟨hq.val0, hq.val1, by omega, u2, by omega, u4, hw.ok.an _ (W.rq_mem (by omega) (by omega))⟩
def opnS (w : W) : Nat → Int
 | 0 => 0
 | a + 1 => opnS w a + (((List.range w.slots.toNat).countP fun t => !clq w.as.l a t : Nat) : Int)
theorem opnS_bd (hw : Wk w) : ∀ {k : Nat}, 0 ≤ opnS w k ∧ opnS w k ≤ k * 200
 | 0 => by simp [opnS]
 | k + 1 => by
  have ih := opnS_bd hw (k := k)
  have hn2 := hw.v.n2
  have := List.countP_le_length (p := fun t => !clq w.as.l k t) (l := List.range w.slots.toNat)
  rw [List.length_range] at this
  simp only [opnS]
  omega
def boundS (w : W) (a : Int) : Int := ubA (opnS w w.as.l.length) a (ablR w w.rs.l.length)
def scanU (f : Int → Int) : Nat → Int × Int
 | 0 => (0, f 0)
 | n + 1 => if f n < (scanU f n).2 then ((n : Int), f n) else scanU f n
end
end Go.Ax.Sx.Sc

namespace Go.Ax.Sx.Sc
open Go.Ax
set_option linter.unusedSimpArgs false
set_option linter.unusedVariables false
set_option maxRecDepth 100000
section
variable {s : Sig} {w : W} {p : List (Sl Int)}
theorem Acc.form {d es : Nat} {α : Type} {f : α → List AV} {l : List α} {x : AV} {og : Option Nat} {tk : List (Option Nat)} (h : Acc d es (l.map f) x og tk) : ∃ o e, x = .slice o e (l.map f) ∧ (l = [] ∨ e = es) := by
 cases og with
 | none =>
  obtain ⟨h1, rfl⟩ := h
  have : l = [] := by simpa using h1
  subst this
  exact ⟨.nilS, 0, rfl, .inl rfl⟩
 | some g => exact ⟨_, es, h.2.1, .inr rfl⟩
def bestU (w : W) : Int × Int := scanU (boundS w) 100001
theorem s_UniformPrices (hs : Ok s) (hw : w.Ok) (hf : w.Few) : callL AP (.fn 15) [w.v] s = some (.tuple [accV 1 ((if (weekE w).2.2 = 0 then uniP w (bestU w).1 else []).map rowX), I (if (weekE w).2.2 = 0 then (bestU w).2 else 0), I (weekE w).2.2], s) := by
 by_cases hz : (weekE w).2.2 = 0
 ·have hwk : Wk w := ⟨hw, hf, weekE_ok hz⟩
  have ho : ∀ r, callL AP (.fn 30) [w.v] (s.push r) = some (.tuple [OW w, I 0], s.push r) := fun r => s_open (hs.push r) hw hf hz
  have hal := hwk.v.al
  have hrl := hwk.v.rl
  have hn1 := hwk.v.n1
  have hn2 := hwk.v.n2
  obtain ⟨N, hN⟩ : ∃ N : Nat, w.slots = N := ⟨w.slots.toNat, by omega⟩
  have hNn : w.slots.toNat = N := by omega
  have hop := opnS_bd hwk (k := w.as.l.length)
  have habl := ablR_len (w := w) (k := w.rs.l.length)
  have hRB := ablR_RB hwk (Nat.le_refl w.rs.l.length)
  rw [if_pos hz, if_pos hz, hz]
  obtain ⟨RES, hRES⟩ : ∃ RES, RES = some (AV.tuple [accV 1 ((uniP w (bestU w).1).map rowX), I (bestU w).2, I 0], s) := ⟨_, rfl⟩
  rw [← hRES]
  have k0 : ∀ (k : Nat) ρ m, k ≤ w.as.l.length → (ρ 1 = .ptr s.acts.length 0 0 ∧ ρ 13 = I (bestU w).1 ∧ ρ 14 = I (bestU w).2 ∧ ρ 72 = I w.as.l.length ∧ ρ 73 = I k ∧ ∃ og jk tk, Acc s.acts.length 1 ((List.replicate k (uniX N (bestU w).1)).map rowX) (ρ 17) og tk ∧ m = s.push ⟨rowW w :: jk, tk⟩) →
    go AP f_s_UniformPrices (.c (.loop b_s_UniformPrices_l0) :: k_s_UniformPrices_0) ⟨ρ, m⟩ = RES := by
   refine loop_up w.as.l.length _ (fun _ => RES) ?_ ?_
   ·rintro k ρ m hk ⟨g1, g13, g14, g72, g73, og, jk, tk, hA, rfl⟩ ih
    obtain ⟨x, hx⟩ : ∃ x, x = ρ 17 := ⟨_, rfl⟩
    rw [← hx] at hA
    obtain ⟨x', og', tk', ha, hA', _⟩ := hA.append hs .full (ys := [rowX (uniX N (bestU w).1)]) (by simp) (by simp; omega)
    obtain ⟨o1, e1, r1, hxs⟩ := Acc.sl hA
    have hrp : ∀ r, callL AP (.fn 38) [.slice .full 1 [[I (bestU w).1]], I (N : Int)] (s.push r) = some ((uniX N (bestU w).1).v rowI, s.push r) := fun r => z_Repeat (hs.push r) (by omega) (by omega)
    have hcs : (List.replicate (k + 1) (uniX N (bestU w).1)).map rowX = (List.replicate k (uniX N (bestU w).1)).map rowX ++ [rowX (uniX N (bestU w).1)] := by rw [List.replicate_succ', List.map_append]; rfl
    simp only [uniX, rowX, Sl.v] at ha hrp
    subst hxs
    simp (maxSteps := 1000000) only [go_sem, b_s_UniformPrices_l0, g1, g13, g72, g73, ← hx, hN, lt_dec hk, hrp, ha, wrap_succ hk (show (w.as.l.length : Int) < _ by omega), Nat.reduceEqDiff, Nat.reduceAdd, ↓reduceIte]
    refine ih _ _ ?_
    refine ⟨g1, g13, g14, g72, rfl, og', jk, tk', ?_, ?_⟩
    ·rw [hcs]; exact hA'
    ·simp only [rowW, Sl.v, hN]
   ·rintro ρ m ⟨g1, g13, g14, g72, g73, og, jk, tk, hA, rfl⟩
    have hlv := fun q : Sig => hA.leave q
    obtain ⟨o1, e1, r1, hxs⟩ := Acc.sl hA
    rw [hxs] at hlv
    have hup : uniP w (bestU w).1 = List.replicate w.as.l.length (uniX N (bestU w).1) := by unfold uniP; rw [hNn]
    rw [← hup] at hlv
    rw [hRES]
    generalize accV 1 ((uniP w (bestU w).1).map rowX) = Z at *
    simp (maxSteps := 1000000) only [go_sem, b_s_UniformPrices_l0, b_s_UniformPrices_r0, g14, g72, g73, hxs, ge_dec, hlv, Nat.reduceEqDiff, ↓reduceIte]
  have k1 : ∀ (v : AV) (jk : List (List AV)) (tk : List (Option Nat)) (o : Own) (e : Nat), v = .slice o e ((ablR w w.rs.l.length).map rowR) → ((ablR w w.rs.l.length) = [] ∨ e = 7) →
    ∀ (k : Nat) ρ m, k ≤ 100001 → (ρ 1 = .ptr s.acts.length 0 0 ∧ ρ 12 = .fn 37 [] [.ptr s.acts.length 1 0, .ptr s.acts.length 2 0] ∧ ρ 13 = I (scanU (boundS w) k).1 ∧ ρ 14 = I (scanU (boundS w) k).2 ∧ ρ 58 = I k ∧ m = s.push ⟨rowW w :: [I (opnS w w.as.l.length)] :: [v] :: jk, tk⟩) →
    go AP f_s_UniformPrices (.c (.loop b_s_UniformPrices_l1) :: k_s_UniformPrices_1) ⟨ρ, m⟩ = RES := by
   intro v jk tk o e hv he
   refine loop_up 100001 _ (fun _ => RES) ?_ ?_
   ·rintro k ρ m hk ⟨g1, g12, g13, g14, g58, rfl⟩ ih
    have hcl : ∀ q : List (List AV), callL AP (.fn 37) [I (k : Int), .ptr s.acts.length 1 0, .ptr s.acts.length 2 0] (s.push ⟨rowW w :: [I (opnS w w.as.l.length)] :: [v] :: q, tk⟩) = some (I (boundS w k), s.push ⟨rowW w :: [I (opnS w w.as.l.length)] :: [v] :: q, tk⟩) := fun q =>
     s_UniformPrices_1 (hs.push _) (by rw [box_push]; rfl) (by rw [box_push, hv]; rfl) he (by omega) hRB hop.1 (by omega) (by omega) (by omega)
    have hlt : decide ((k : Int) < 100001) = true := by simp; omega
    have hwk1 : IntKind.i64.wrap ((k : Int) + 1) = ((k + 1 : Nat) : Int) := by rw [wrap_id (by omega) (by omega)]; omega
    simp only [rowW, Sl.v] at hcl
    cases hd : decide (boundS w k < (scanU (boundS w) k).2) with
    | true =>
     have hst : scanU (boundS w) (k + 1) = ((k : Int), boundS w k) := by simp only [scanU]; rw [if_pos (by simpa using hd)]
     simp (maxSteps := 1000000) only [go_sem, b_s_UniformPrices_l1, g12, g14, g58, hlt, hcl, hd, hwk1, Nat.reduceEqDiff, ↓reduceIte]
     refine ih _ _ ?_
     exact ⟨g1, g12, by rw [hst]; rfl, by rw [hst]; rfl, rfl, rfl⟩
    | false =>
     have hst : scanU (boundS w) (k + 1) = scanU (boundS w) k := by simp only [scanU]; rw [if_neg (by simpa using hd)]
     simp (maxSteps := 1000000) only [go_sem, b_s_UniformPrices_l1, g12, g14, g58, hlt, hcl, hd, hwk1, Nat.reduceEqDiff, ↓reduceIte]
     refine ih _ _ ?_
     exact ⟨g1, g12, by rw [hst]; exact g13, by rw [hst]; exact g14, rfl, rfl⟩
   ·rintro ρ m ⟨g1, g12, g13, g14, g58, rfl⟩
    have hlt : decide (((100001 : Nat) : Int) < 100001) = false := by decide
    simp (maxSteps := 1000000) only [go_sem, b_s_UniformPrices_l1, b_s_UniformPrices_r1, g1, g58, Nat.reduceEqDiff, Nat.reduceAdd, Int.reduceLT, Int.cast_ofNat_Int, ↓reduceIte]
    refine k0 0 _ _ (Nat.zero_le _) ?_
    exact ⟨g1, g13, g14, rfl, rfl, none, _, tk, Acc.start, rfl⟩
  have k2 : ∀ (k : Nat) ρ m, k ≤ w.rs.l.length → (ρ 1 = .ptr s.acts.length 0 0 ∧ ρ 5 = OW w ∧ ρ 7 = .ptr s.acts.length 1 0 ∧ ρ 9 = .ptr s.acts.length 2 0 ∧ ρ 39 = w.rs.v rowR ∧ ρ 40 = I w.rs.l.length ∧ ρ 41 = I k ∧
    ∃ v og jk tk, Acc s.acts.length 7 ((ablR w k).map rowR) v og tk ∧ m = s.push ⟨rowW w :: [I (opnS w w.as.l.length)] :: [v] :: jk, tk⟩) → go AP f_s_UniformPrices (.c (.loop b_s_UniformPrices_l2) :: k_s_UniformPrices_2) ⟨ρ, m⟩ = RES := by
   refine loop_up w.rs.l.length _ (fun _ => RES) ?_ ?_
   ·rintro k ρ m hk ⟨g1, g5, g7, g9, g39, g40, g41, v, og, jk, tk, hA, rfl⟩ ih
    have hrs := ix_rs hwk (i := ((k : Nat) : Int)) (by omega) (by omega)
    have hro := hw.an _ (W.rq_mem (w := w) (i := ((k : Nat) : Int)) (by omega) (by omega))
    have hps : ∀ r, callL AP (.fn 34) [OW w, I (k : Int)] (s.push r) = some (.fn 53 [] [.eptr [OW w] 0, .eptr [I (k : Int)] 0], s.push r) := fun r => w_possible (hs.push r)
    have hkl := ablR_len (w := w) (k := k)
    have rg : ∀ ρ1 : Nat → AV, ρ1 1 = .ptr s.acts.length 0 0 → ρ1 5 = OW w → ρ1 7 = .ptr s.acts.length 1 0 → ρ1 9 = .ptr s.acts.length 2 0 → ρ1 11 = .ptr s.acts.length (rowW w :: [I (opnS w w.as.l.length)] :: [v] :: jk).length 0 → ρ1 39 = w.rs.v rowR → ρ1 40 = I w.rs.l.length → ρ1 41 = I k → ρ1 48 = .fn 53 [] [.eptr [OW w] 0, .eptr [I (k : Int)] 0] →
      go AP f_s_UniformPrices (.c (.rangeFunc (.tmp 48) [49] b_s_UniformPrices_a3 b_s_UniformPrices_y3) :: .blk 4 :: .blk 3 :: .c b_s_UniformPrices_r3 :: .lp b_s_UniformPrices_l2 :: k_s_UniformPrices_2) ⟨ρ1, s.push ⟨(rowW w :: [I (opnS w w.as.l.length)] :: [v] :: jk) ++ [rowR (w.rq k)], tk⟩⟩ = RES := by
     intro ρ1 q1 q5 q7 q9 q11 q39 q40 q41 q48
     obtain ⟨v', og', tk', hgo, hA'⟩ := abl_range (F := f_s_UniformPrices) (ks := .blk 3 :: .c b_s_UniformPrices_r3 :: .lp b_s_UniformPrices_l2 :: k_s_UniformPrices_2) (pre := rowW w :: [I (opnS w w.as.l.length)] :: [v] :: jk) (r := w.rq k) (v := v) hs hwk hk hro rfl hA (by simp; omega) q9 q11 q48
     rw [hgo]
     simp (maxSteps := 1000000) only [go_sem, b_s_UniformPrices_r3, q41, wrap_succ hk (show (w.rs.l.length : Int) < _ by omega), ↓reduceIte]
     refine ih _ _ ?_
     refine ⟨q1, q5, q7, q9, q39, q40, rfl, v', og', jk ++ [rowR (w.rq k)], tk', ?_, rfl⟩
     have hst : (ablR w (k + 1)).map rowR = if (poss w k).isEmpty = true then (ablR w k).map rowR else (ablR w k).map rowR ++ [rowR (w.rq k)] := by
      simp only [ablR]; split <;> simp
     rw [hst]; exact hA'
    simp only [rowR, Sl.v, OW, rowW] at hrs hps g5 g39 rg
    simp (maxSteps := 1000000) only [go_sem, b_s_UniformPrices_l2, g5, g39, g40, g41, hs, lt_dec hk, hrs, hps, Nat.reduceEqDiff, ↓reduceIte]
    refine rg _ ?_ ?_ ?_ ?_ ?_ ?_ ?_ ?_ ?_
    ·exact g1
    ·exact g5
    ·exact g7
    ·exact g9
    ·rfl
    ·exact g39
    ·exact g40
    ·exact g41
    ·rfl
   ·rintro ρ m ⟨g1, g5, g7, g9, g39, g40, g41, v, og, jk, tk, hA, rfl⟩
    obtain ⟨o, e, hv, he⟩ := Acc.form hA
    have hcl : ∀ q : List (List AV), callL AP (.fn 37) [I 0, .ptr s.acts.length 1 0, .ptr s.acts.length 2 0] (s.push ⟨rowW w :: [I (opnS w w.as.l.length)] :: [v] :: q, tk⟩) = some (I (boundS w 0), s.push ⟨rowW w :: [I (opnS w w.as.l.length)] :: [v] :: q, tk⟩) := fun q =>
     s_UniformPrices_1 (hs.push _) (by rw [box_push]; rfl) (by rw [box_push, hv]; rfl) he (by omega) hRB hop.1 (by omega) (by omega) (by omega)
    simp only [rowW, Sl.v] at hcl
    simp (maxSteps := 1000000) only [go_sem, b_s_UniformPrices_l2, b_s_UniformPrices_r2, g7, g9, g40, g41, ge_dec, hcl, Nat.reduceEqDiff, ↓reduceIte]
    refine k1 v jk tk o e hv he 0 _ _ (Nat.zero_le _) ?_
    exact ⟨g1, rfl, rfl, rfl, rfl, rfl⟩
  have k4 : ∀ (k : Nat) ρ m, k ≤ w.as.l.length → (ρ 1 = .ptr s.acts.length 0 0 ∧ ρ 5 = OW w ∧ ρ 7 = .ptr s.acts.length 1 0 ∧ ρ 28 = I w.as.l.length ∧ ρ 29 = I k ∧ m = s.push ⟨[rowW w, [I (opnS w k)]], []⟩) → go AP f_s_UniformPrices (.c (.loop b_s_UniformPrices_l4) :: k_s_UniformPrices_4) ⟨ρ, m⟩ = RES := by
   refine loop_up w.as.l.length _ (fun _ => RES) ?_ ?_
   ·rintro k ρ m hk ⟨g1, g5, g7, g28, g29, rfl⟩ ih
    have hos : ∀ q : Sig, callL AP (.fn 36) [OW w, I (k : Int)] (roS q) = some (I (((List.range w.slots.toNat).countP fun t => !clq w.as.l k t : Nat) : Int), roS q) := fun q => by
     rw [w_openSlots hwk (by omega) (by omega), Int.toNat_natCast]
    have hb := opnS_bd hwk (k := k)
    have hb1 := opnS_bd hwk (k := k + 1)
    have hst : opnS w (k + 1) = opnS w k + (((List.range w.slots.toNat).countP fun t => !clq w.as.l k t : Nat) : Int) := rfl
    have hw1 : IntKind.i64.wrap (opnS w k + (((List.range w.slots.toNat).countP fun t => !clq w.as.l k t : Nat) : Int)) = opnS w (k + 1) := by rw [hst]; exact wrap_id (by omega) (by omega)
    simp only [OW] at hos g5
    simp (maxSteps := 1000000) only [go_sem, b_s_UniformPrices_l4, g5, g7, g28, g29, hs, lt_dec hk, hos, hw1, wrap_succ hk (show (w.as.l.length : Int) < _ by omega), Nat.reduceEqDiff, ↓reduceIte]
    refine ih _ _ ?_
    exact ⟨g1, g5, g7, g28, rfl, rfl⟩
   ·rintro ρ m ⟨g1, g5, g7, g28, g29, rfl⟩
    simp (maxSteps := 1000000) only [go_sem, b_s_UniformPrices_l4, b_s_UniformPrices_r4, g1, g28, g29, ge_dec, Nat.reduceEqDiff, Nat.reduceAdd, ↓reduceIte]
    refine k2 0 _ _ (Nat.zero_le _) ?_
    exact ⟨g1, g5, g7, rfl, rfl, rfl, rfl, _, none, [], [], Acc.start, rfl⟩
  have h00 : decide ((0 : Int) ≠ 0) = false := rfl
  simp only [W.v, rowW, Sl.v] at ho
  rw [callL_go (show AP 15 = some c_s_UniformPrices from rfl) rfl]
  simp (maxSteps := 1000000) only [go_sem, b_s_UniformPrices, hs, ho, h00, Nat.reduceEqDiff, Nat.reduceAdd, ↓reduceIte]
  refine k4 0 _ _ (Nat.zero_le _) ?_
  exact ⟨rfl, rfl, rfl, rfl, rfl, rfl⟩
 ·have ho : ∀ r, callL AP (.fn 30) [w.v] (s.push r) = some (.tuple [NP, I (weekE w).2.2], s.push r) := fun r => s_open_bad (hs.push r) hw hf hz
  rw [if_neg hz, if_neg hz]
  simp only [W.v, rowW, Sl.v] at ho
  rw [callL_go (show AP 15 = some c_s_UniformPrices from rfl) rfl]
  simp (maxSteps := 1000000) only [go_sem, b_s_UniformPrices, ho, hz, ne_eq, not_false_iff, Nat.reduceEqDiff, Nat.reduceAdd, ↓reduceIte]
  rfl
end
end Go.Ax.Sx.Sc

namespace Go.Ax.Sx.Sc
open Go.Ax
set_option linter.unusedSimpArgs false
set_option linter.unusedVariables false
set_option maxRecDepth 100000
section
variable {s : Sig} {w : W} {p : List (Sl Int)}
theorem prAt_uni {c : Int} {a t : Nat} (ha : a < w.as.l.length) (ht : t < w.slots.toNat) : prAt (uniP w c) a t = c := by
 have h1 : (uniP w c)[a]? = some (uniX w.slots.toNat c) := by simp [uniP, ha]
 simp only [prAt, h1, uniX]
 simp [ht]
theorem rowB_uni {c : Int} {a : Nat} (ha : a < w.as.l.length) : ∀ {k : Nat}, k ≤ w.slots.toNat → rowB w (uniP w c) a k = c * (((List.range k).countP fun t => !clq w.as.l a t : Nat) : Int)
 | 0, _ => by simp [rowB, sumN]
 | k + 1, hk => by
  have ih := rowB_uni (c := c) ha (k := k) (by omega)
  have e : rowB w (uniP w c) a (k + 1) = rowB w (uniP w c) a k + (if clq w.as.l a k = true then 0 else prAt (uniP w c) a k) := rfl
  rw [e, ih, prAt_uni ha (by omega), List.range_succ, List.countP_append, List.countP_singleton]
  cases clq w.as.l a k with
  | true => simp
  | false => simp [Int.mul_add]
theorem totB_uni {c : Int} : ∀ {k : Nat}, k ≤ w.as.l.length → totB w (uniP w c) k = c * opnS w k
 | 0, _ => by simp [totB, sumN, opnS]
 | k + 1, hk => by
  have ih := totB_uni (c := c) (k := k) (by omega)
  have e : totB w (uniP w c) (k + 1) = totB w (uniP w c) k + rowB w (uniP w c) k w.slots.toNat := rfl
  rw [e, ih, rowB_uni (by omega) (Nat.le_refl _)]
  simp only [opnS, Int.mul_add]
theorem strip_uni {c : Int} {a st : Nat} (ha : a < w.as.l.length) : ∀ {k : Nat}, st + k ≤ w.slots.toNat → strip (uniP w c) a st k = c * k
 | 0, _ => by simp [strip, sumN]
 | k + 1, hk => by
  have ih := strip_uni (c := c) (st := st) ha (k := k) (by omega)
  have e : strip (uniP w c) a st (k + 1) = strip (uniP w c) a st k + prAt (uniP w c) a (st + k) := rfl
  rw [e, ih, prAt_uni ha (by omega), Int.natCast_add, Int.mul_add]
  simp
theorem costL_uni {c : Int} {st len : Nat} (h : st + len ≤ w.slots.toNat) : ∀ {l : List Int}, (∀ a ∈ l, 0 ≤ a ∧ a < w.as.l.length) → costL (uniP w c) st len l = c * (len * l.length)
 | [], _ => by simp [costL]
 | a :: r, hl => by
  have ih := costL_uni (c := c) h (l := r) fun b hb => hl b (List.mem_cons_of_mem _ hb)
  have ha := hl a (by simp)
  simp only [costL, List.length_cons]
  rw [ih, strip_uni (by omega) h, ← Int.mul_add]
  congr 1
  rw [Int.natCast_add, Int.mul_add]; simp; omega
theorem surp_uni (hw : Wk w) {c : Int} {i : Nat} (hi : i < w.rs.l.length) {x : P} (hx : x ∈ poss w i) {m : Int} : surp w (uniP w c) i m x = max m ((w.rq i).val - c * unitC (w.rq i)) := by
 have h0 : (0 : Int) ≤ i := by omega
 have h1 : (i : Int) < w.rs.l.length := by omega
 obtain ⟨q1, q2, q3, q4⟩ := poss_slots hw h0 h1 hx
 obtain ⟨_, _, _, _, h5, _⟩ := poss_in hw h0 h1 hx
 have hl := (hw.rq h0 h1).len1
 have e : ((w.rq i).len.toNat : Int) = (w.rq i).len := by omega
 unfold surp
 rw [costL_uni q1 q3, h5, e]; rfl
theorem surpL_uni (hw : Wk w) {c : Int} {i : Nat} (hi : i < w.rs.l.length) : surpL w (uniP w c) i (poss w i) = if (poss w i).isEmpty = true then 0 else gain c (w.rq i) := by
 have key : ∀ (l : List P) (m : Int), (∀ x ∈ l, x ∈ poss w i) → l.foldl (surp w (uniP w c) i) m = if l.isEmpty = true then m else max m ((w.rq i).val - c * unitC (w.rq i)) := by
  intro l
  induction l with
  | nil => intro m _; rfl
  | cons x r ih =>
   intro m hl
   rw [List.foldl_cons, ih _ fun y hy => hl y (List.mem_cons_of_mem _ hy), surp_uni hw hi (hl x (by simp))]
   simp only [List.isEmpty_cons, Bool.false_eq_true, if_false]
   split
   ·rfl
   ·omega
 exact key _ 0 fun x hx => hx
theorem ubA_uni (hw : Wk w) {c : Int} : ∀ {k : Nat}, k ≤ w.rs.l.length → ubA (opnS w w.as.l.length) c (ablR w k) = c * opnS w w.as.l.length + sumS w (uniP w c) k
 | 0, _ => by simp [ablR, ubA, sumS, sumN]
 | k + 1, hk => by
  have ih := ubA_uni hw (c := c) (k := k) (by omega)
  have e : sumS w (uniP w c) (k + 1) = sumS w (uniP w c) k + surpL w (uniP w c) k (poss w k) := rfl
  rw [e, surpL_uni hw (by omega)]
  simp only [ablR]
  split
  ·rw [ih]; omega
  ·rw [ubA_snoc, ih]; omega
theorem ubF_eq (hw : Wk w) {c : Int} : ubF w c = boundS w c := by
 unfold ubF boundS bndV
 rw [ubA_uni hw (Nat.le_refl _), totB_uni (Nat.le_refl _)]
theorem scanU_ok {f : Int → Int} : ∀ {n : Nat}, 0 < n → (scanU f n).2 = f (scanU f n).1 ∧ 0 ≤ (scanU f n).1 ∧ (scanU f n).1 < n ∧ (∀ q : Nat, q < n → (scanU f n).2 ≤ f q) ∧ ∀ q : Int, 0 ≤ q → q < (scanU f n).1 → (scanU f n).2 < f q
 | 0, h => absurd h (Nat.lt_irrefl _)
 | n + 1, _ => by
  by_cases hn : n = 0
  ·subst hn
   have e : scanU f 1 = (0, f 0) := by simp [scanU]
   rw [e]
   refine ⟨rfl, by simp, by simp, fun q hq => ?_, fun q h0 h1 => by simp at h1; omega⟩
   obtain rfl : q = 0 := by omega
   exact Int.le_refl _
  ·obtain ⟨a1, a2, a3, a4, a5⟩ := scanU_ok (f := f) (n := n) (by omega)
   simp only [scanU]
   by_cases h : f n < (scanU f n).2
   ·rw [if_pos h]
    refine ⟨rfl, by simp, by simp; omega, fun q hq => ?_, fun q h0 h1 => ?_⟩
    ·by_cases e : q = n
     ·subst e; exact Int.le_refl _
     ·have := a4 q (by omega); simp only; omega
    ·have := a4 q.toNat (by simp only at h1; omega)
     rw [show ((q.toNat : Nat) : Int) = q by omega] at this
     simp only; omega
   ·rw [if_neg h]
    refine ⟨a1, a2, by omega, fun q hq => ?_, a5⟩
    by_cases e : q = n
    ·subst e; omega
    ·exact a4 q (by omega)
theorem bestU_bd : 0 ≤ (bestU w).1 ∧ (bestU w).1 ≤ 100000 := by
 obtain ⟨_, a2, a3, _, _⟩ := scanU_ok (f := boundS w) (n := 100001) (by decide)
 have hb : bestU w = scanU (boundS w) 100001 := rfl
 rw [← hb] at a2 a3
 omega
end
end Go.Ax.Sx.Sc

namespace Go.Ax.Sx.Sc
open Go.Ax
set_option linter.unusedSimpArgs false
set_option linter.unusedVariables false
set_option maxRecDepth 100000
section
variable {s : Sig} {w : W}
end
end Go.Ax.Sx.Sc

namespace Go.Ax.Sx.Sc
open Go.Ax
set_option linter.unusedSimpArgs false
set_option linter.unusedVariables false
set_option maxRecDepth 100000
section
variable {w : W}
theorem hasA_mem {p : P} {a : Int} (h : hasA p a = true) : a ∈ p.an.l := by
 unfold hasA at h
 obtain ⟨m, hm, he⟩ := List.any_eq_true.1 h
 rwa [← of_decide_eq_true he]
theorem apart (hw : Wk w) {p q : P} (hp : PIn w p) (hq : PIn w q) {a : Int} (h : conf w q p = false) (hpa : hasA p a = true) (hqa : hasA q a = true) : endP w p ≤ q.start ∨ endP w q ≤ p.start := by
 have hpm := hasA_mem hpa
 have hqm := hasA_mem hqa
 have key : ∀ (x y : P), PIn w x → a ∈ x.an.l → a ∈ y.an.l → clash w x y = false → endP w x ≤ y.start := fun x y hx hxm hym hc => by
  unfold clash at hc
  rw [List.any_eq_false] at hc
  have h1 := hc a hxm
  have h2 : (y.an.l.any fun m => decide (a = m)) = true := List.any_eq_true.2 ⟨a, hym, by simp⟩
  rw [h2, Bool.true_and] at h1
  have h3 := hw.stp (hx.an a hxm).1 (hx.an a hxm).2
  have h4 : ¬ y.start - endP w x < if (w.rq x.req).mis = (w.rq y.req).mis then 0 else w.stp a := by simpa using h1
  split at h4 <;> omega
 unfold conf at h
 split at h
 ·cases h
 ·split at h
  ·exact .inl (key p q hp hpm hqm h)
  ·exact .inr (key q p hq hqm hpm h)
theorem pass_facts (hw : Wk w) {l : List P} (hl : PlOk l) (h : (chkE w l).2 = 0) {j : Nat} {p : P} (hj : l[j]? = some p) : PIn w p ∧ 0 ≤ p.start ∧ p.start < endP w p ∧ endP w p ≤ w.slots ∧ confs w p (l.take j) = false ∧ ∀ a, hasA p a = true → ∀ t : Nat, p.start ≤ t → (t : Int) < endP w p → clq w.as.l a.toNat t = false := by
 have hpm := List.mem_of_getElem? hj
 have h1 := hl.ok p hpm
 obtain ⟨hpi, _, hc, hlo, hhi, _, _, hop⟩ := passE_in hw h1.1 (by omega) (chk_in hw hl h j p hj)
 have hq := hw.rq hpi.r0 hpi.r1
 have q0 := hq.lo0
 have q1 := hq.hin
 have q2 := hq.len1
 have he : endP w p = p.start + (w.rq p.req).len := rfl
 refine ⟨hpi, hpi.s0, by omega, by omega, hc, fun a ha t ht1 ht2 => ?_⟩
 have hm := hasA_mem ha
 rw [List.any_eq_false] at hop
 have := hop a hm
 have hin := hpi.an a hm
 obtain ⟨x, hx⟩ := get_some (l := w.as.l) (k := a.toNat) (by omega)
 unfold openB at this
 rw [hx] at this
 simp only [Bool.not_not] at this
 have this : ¬ ((List.range (w.rq p.req).len.toNat).any fun q => isClosed x (p.start + q)) = true := by simpa using this
 rw [List.any_eq_true] at this
 cases hc : clq w.as.l a.toNat t with
 | false => rfl
 | true =>
  exfalso
  refine this ⟨t - p.start.toNat, List.mem_range.2 (by omega), ?_⟩
  have h0 := hpi.s0
  rw [show p.start + ((t - p.start.toNat : Nat) : Int) = (t : Int) by omega, clq_closed hx]; exact hc
theorem clq_c {i t : Nat} : clq (cW w).as.l i t = clq w.as.l i t := by
 unfold clq
 rw [cW_as, List.getElem?_map]
 cases w.as.l[i]? <;> rfl
end
end Go.Ax.Sx.Sc

namespace Go.Ax.Sx.Sc
open Go.Ax
set_option linter.unusedSimpArgs false
set_option linter.unusedVariables false
set_option maxRecDepth 100000
section
variable {s : Sig} {w : W} {p : List (Sl Int)}
theorem prAt_c {a t : Nat} : prAt (p.map cX) a t = prAt p a t := by
 unfold prAt
 rw [List.getElem?_map]
 cases p[a]? <;> rfl
theorem cW_asl : (cW w).as.l.length = w.as.l.length := by rw [cW_as, List.length_map]
theorem prcE_c : prcE (cW w) (p.map cX) = prcE w p := by
 have h1 : (p.map cX).length = p.length := by simp
 have h2 : (∀ x ∈ p.map cX, (x.l.length : Int) = w.slots) ↔ ∀ x ∈ p, (x.l.length : Int) = w.slots := by
  constructor
  ·intro h x hx; exact h (cX x) (List.mem_map.2 ⟨x, hx, rfl⟩)
  ·intro h x hx
   obtain ⟨y, hy, rfl⟩ := List.mem_map.1 hx
   exact h y hy
 have h3 : (p.map cX).all (fun x => x.l.all fun n => wi n 0 100000) = p.all fun x => x.l.all fun n => wi n 0 100000 := by
  rw [List.all_map]; rfl
 unfold prcE
 rw [cW_slots, cW_asl, h1, h3]
 simp only [h2]
theorem rowB_c {a : Nat} : ∀ {k : Nat}, rowB (cW w) (p.map cX) a k = rowB w p a k := by
 intro k
 exact sumN_congr fun i _ => by rw [clq_c, prAt_c]
theorem totB_c : ∀ {k : Nat}, totB (cW w) (p.map cX) k = totB w p k := by
 intro k
 exact sumN_congr fun i _ => by rw [rowB_c]; rfl
theorem strip_c {a st k : Nat} : strip (p.map cX) a st k = strip p a st k := sumN_congr fun i _ => prAt_c
theorem costL_c {st len : Nat} : ∀ {l : List Int}, costL (p.map cX) st len l = costL p st len l
 | [] => rfl
 | a :: r => by simp only [costL]; rw [strip_c, costL_c]
theorem surpL_c {i : Int} (h0 : 0 ≤ i) (h1 : i < w.rs.l.length) {l : List P} : surpL (cW w) (p.map cX) i l = surpL w p i l := by
 have : surp (cW w) (p.map cX) i = surp w p i := by
  funext m x
  unfold surp
  rw [cW_rq h0 h1, costL_c]; rfl
 unfold surpL; rw [this]
theorem bndV_c : bndV (cW w) (p.map cX) = bndV w p := by
 unfold bndV
 rw [cW_asl, cW_len, totB_c]
 congr 1
 exact sumN_congr fun i hi => by rw [poss_c (by omega) (by omega), surpL_c (by omega) (by omega)]
theorem bndE_c : bndE (cW w) (p.map cX) = bndE w p := by unfold bndE; rw [weekE_c, prcE_c]
theorem cX_ok2 (h : PrOk p) : PrOk (p.map cX) := ⟨by rw [List.length_map]; exact h.len, fun x hx => by
 obtain ⟨y, hy, rfl⟩ := List.mem_map.1 hx; exact cX_ok, fun x hx => by
 obtain ⟨y, hy, rfl⟩ := List.mem_map.1 hx; exact h.big y hy⟩
theorem opnS_c : ∀ {k : Nat}, opnS (cW w) k = opnS w k
 | 0 => rfl
 | k + 1 => by
  simp only [opnS, cW_slots, opnS_c (k := k)]
  congr 2
  congr 1
  funext t
  rw [clq_c]
theorem ablR_c : ∀ {k : Nat}, k ≤ w.rs.l.length → ablR (cW w) k = (ablR w k).map cR
 | 0, _ => rfl
 | k + 1, hk => by
  have ih := ablR_c (k := k) (by omega)
  simp only [ablR]
  rw [poss_c (by omega) (by omega), ih, cW_rq (by omega) (by omega)]
  split
  ·rfl
  ·simp
theorem boundS_c : boundS (cW w) = boundS w := by
 funext a
 unfold boundS
 rw [cW_asl, cW_len, opnS_c, ablR_c (Nat.le_refl _)]
 unfold ubA
 rw [List.foldl_map]; rfl
theorem bestU_c : bestU (cW w) = bestU w := by unfold bestU; rw [boundS_c]
theorem uniP_c {a : Int} : uniP (cW w) a = uniP w a := by unfold uniP; rw [cW_asl, cW_slots]
theorem acc_form {es : Nat} {α : Type} {f : α → List AV} {l : List α} : ∃ o e, accV es (l.map f) = .slice o e (l.map f) ∧ (l = [] ∨ e = es) := by
 cases l with
 | nil => exact ⟨.nilS, 0, rfl, .inl rfl⟩
 | cons x r => exact ⟨.any, es, rfl, .inr rfl⟩
end
end Go.Ax.Sx.Sc

namespace Go.Ax.Sx.Sc
open Go.Ax
set_option linter.unusedSimpArgs false
set_option linter.unusedVariables false
set_option maxRecDepth 100000
section
variable {s : Sig} {w : W}
end
end Go.Ax.Sx.Sc

namespace Go.Ax.Sx.Sc
open Go.Ax
set_option linter.unusedSimpArgs false
set_option linter.unusedVariables false
set_option maxRecDepth 100000
section
variable {w : W}
end
end Go.Ax.Sx.Sc

namespace Go.Ax.Sx.Sc
open Go.Ax
set_option linter.unusedSimpArgs false
set_option linter.unusedVariables false
set_option maxRecDepth 100000
section
variable {w : W}
section
variable {s : Sig}
end
end
end Go.Ax.Sx.Sc

namespace Go.Ax.Sx.Sc
open Go.Ax
set_option linter.unusedSimpArgs false
set_option linter.unusedVariables false
set_option maxRecDepth 100000
section
variable {s : Sig} {w : W}
theorem lastR_mem {l : List P} : lastR l = -1 ∨ ∃ p ∈ l, lastR l = p.req := by
 unfold lastR
 cases h : l.getLast? with
 | none => exact .inl rfl
 | some p => exact .inr ⟨p, List.mem_of_getLast? h, rfl⟩
theorem grps_all : ∀ {l g : List Int}, g.Sublist l → g ∈ grps g.length l
 | _, _, .slnil => by simp [grps]
 | _, _, .cons (l₁ := g) (l₂ := l) a h => by
  have ih := grps_all h
  cases g with
  | nil => simp [grps]
  | cons b g => simp only [List.length_cons, grps, List.mem_append]; exact .inr ih
 | _, _, .cons_cons (l₁ := g) (l₂ := l) a h => by
  have ih := grps_all h
  simp only [List.length_cons, grps, List.mem_append, List.mem_map]
  exact .inl ⟨g, ih, rfl⟩
end
end Go.Ax.Sx.Sc

namespace Go.Ax.Sx.Sc
open Go.Ax
set_option linter.unusedSimpArgs false
set_option linter.unusedVariables false
set_option maxRecDepth 100000
section
variable {w : W}
end
end Go.Ax.Sx.Sc

namespace Go.Ax.Sx.Sc
open Go.Ax
set_option linter.unusedSimpArgs false
set_option linter.unusedVariables false
set_option maxRecDepth 100000
section
variable {w : W}
theorem sorted_sub : ∀ {L g : List Int}, L.Pairwise (· < ·) → g.Pairwise (· < ·) → (∀ a ∈ g, a ∈ L) → g.Sublist L
 | [], [], _, _, _ => List.Sublist.refl _
 | [], a :: g, _, _, h => absurd (h a (by simp)) (by simp)
 | x :: L, [], _, _, _ => List.nil_sublist _
 | x :: L, a :: g, hL, hg, h => by
  obtain ⟨l1, l2⟩ := List.pairwise_cons.1 hL
  obtain ⟨g1, g2⟩ := List.pairwise_cons.1 hg
  by_cases hax : a = x
  ·subst hax
   refine List.Sublist.cons_cons _ (sorted_sub l2 g2 fun b hb => ?_)
   rcases List.mem_cons.1 (h b (List.mem_cons_of_mem _ hb)) with e | hm
   ·have := g1 b hb; omega
   ·exact hm
  ·refine List.Sublist.cons _ (sorted_sub l2 hg fun b hb => ?_)
   rcases List.mem_cons.1 (h b hb) with e | hm
   ·rcases List.mem_cons.1 (h a (by simp)) with e2 | hm2
    ·exact absurd e2 hax
    ·have h1 := l1 a hm2
     rcases List.mem_cons.1 hb with e3 | hb
     ·omega
     ·have := g1 b hb; omega
   ·exact hm
theorem anE_sorted {r : R} : ∀ {l : List Int} {last : Int}, anE r last l = 0 → l.Pairwise (· < ·) ∧ ∀ a ∈ l, last < a
 | [], _, _ => by simp
 | a :: l, last, h => by
  have h0 := (anE_fold (w := ⟨0, ⟨.nilS, 0, []⟩, ⟨.nilS, 0, []⟩⟩) (st := 0) (len := 0) h).2
  have h2 : anE r a l = 0 := by
   simp only [anE] at h
   split at h
   ·split at h
    ·exact h
    ·exact absurd h (by decide)
   ·exact absurd h (by decide)
  obtain ⟨i1, i2⟩ := anE_sorted h2
  exact ⟨List.pairwise_cons.2 ⟨i2, i1⟩, h0⟩
theorem possFrom_of {i : Int} {p : P} : ∀ {n : Nat} {st t : Int}, st ≤ t → t < st + n → p ∈ possAt w i t → p ∈ possFrom w i st n
 | 0, st, t, h1, h2, _ => by omega
 | n + 1, st, t, h1, h2, hp => by
  simp only [possFrom, List.mem_append]
  by_cases e : t = st
  ·subst e; exact .inl hp
  ·exact .inr (possFrom_of (by omega) (by omega) hp)
theorem poss_of (hw : Wk w) {p : P} {l : List P} (hpo : p.an.ok 1) (hpl : (p.an.l.length : Int) < 1000000) (h : passE w p l = 0) : cP p ∈ poss w p.req := by
 obtain ⟨hpi, _, _, hlo, hhi, hn, han, hop⟩ := passE_in hw hpo hpl h
 have hq := hw.rq hpi.r0 hpi.r1
 unfold poss
 refine possFrom_of (t := p.start) hlo (by omega) ?_
 unfold possAt
 refine List.mem_map.2 ⟨p.an.l, ?_, rfl⟩
 rw [show (w.rq p.req).need.toNat = p.an.l.length by omega]
 refine grps_all (sorted_sub (hq.anord.sublist List.filter_sublist) (anE_sorted han).1 fun a ha => ?_)
 refine List.mem_filter.2 ⟨?_, ?_⟩
 ·have := (anE_fold (w := w) (st := 0) (len := 0) han).1 a ha
  obtain ⟨b, hb, e⟩ := List.any_eq_true.1 this
  rw [decide_eq_true_eq] at e
  rw [e]; exact hb
 ·have := List.any_eq_false.1 hop a ha
  simpa using this
end
end Go.Ax.Sx.Sc

namespace Go.Ax.Sx.Sc
open Go.Ax
set_option linter.unusedSimpArgs false
set_option linter.unusedVariables false
set_option maxRecDepth 100000
theorem sumN_add {f g : Nat → Int} : ∀ {n : Nat}, sumN (fun i => f i + g i) n = sumN f n + sumN g n
 | 0 => rfl
 | n + 1 => by simp only [sumN, sumN_add (n := n)]; omega
theorem sumN_le {f g : Nat → Int} : ∀ {n : Nat}, (∀ i, i < n → f i ≤ g i) → sumN f n ≤ sumN g n
 | 0, _ => Int.le_refl _
 | n + 1, h => by
  have := sumN_le (n := n) fun i hi => h i (by omega)
  have := h n (by omega)
  simp only [sumN]; omega
theorem sumN_zero : ∀ {n : Nat}, sumN (fun _ => 0) n = 0
 | 0 => rfl
 | n + 1 => by simp only [sumN, sumN_zero (n := n)]; rfl
theorem sumN_one {a : Nat} {v : Int} : ∀ {n : Nat}, sumN (fun i => if i = a then v else 0) n = if a < n then v else 0
 | 0 => by simp [sumN]
 | n + 1 => by
  simp only [sumN, sumN_one (n := n)]
  by_cases h1 : n = a
  ·subst h1; rw [if_neg (by omega), if_pos rfl, if_pos (by omega)]; omega
  ·rw [if_neg h1]
   by_cases h2 : a < n
   ·rw [if_pos h2, if_pos (by omega)]; omega
   ·rw [if_neg h2, if_neg (by omega)]; rfl
theorem sumN_mono {f : Nat → Int} {m : Nat} (h : ∀ i, 0 ≤ f i) : ∀ {n : Nat}, m ≤ n → sumN f m ≤ sumN f n
 | 0, hm => by
  have e : m = 0 := by omega
  rw [e]; exact Int.le_refl _
 | n + 1, hm => by
  by_cases e : m = n + 1
  ·subst e; exact Int.le_refl _
  ·have := sumN_mono h (m := m) (n := n) (by omega)
   have := h n
   simp only [sumN]; omega
section
variable {w : W} {p : List (Sl Int)}
theorem strip_sum {a st N : Nat} : ∀ {len : Nat}, st + len ≤ N → strip p a st len = sumN (fun t => if st ≤ t ∧ t < st + len then prAt p a t else 0) N
 | 0, _ => by
  have : sumN (fun t => if st ≤ t ∧ t < st + 0 then prAt p a t else 0) N = sumN (fun _ => 0) N := sumN_congr fun t _ => by rw [if_neg (by omega)]
  rw [this, sumN_zero]; rfl
 | len + 1, h => by
  have ih := strip_sum (a := a) (st := st) (N := N) (len := len) (by omega)
  have e : strip p a st (len + 1) = strip p a st len + prAt p a (st + len) := rfl
  have h1 := sumN_one (a := st + len) (v := prAt p a (st + len)) (n := N)
  rw [if_pos (by omega)] at h1
  rw [e, ih, ← h1, ← sumN_add]
  refine sumN_congr fun t _ => ?_
  by_cases h2 : t = st + len
  ·subst h2; rw [if_neg (by omega), if_pos rfl, if_pos (by omega)]; omega
  ·rw [if_neg h2]
   by_cases h3 : st ≤ t ∧ t < st + len
   ·rw [if_pos h3, if_pos (by omega)]; omega
   ·rw [if_neg h3, if_neg (by omega)]; rfl
theorem costL_sum {st len n : Nat} : ∀ {l : List Int}, l.Nodup → (∀ a ∈ l, 0 ≤ a ∧ a < n) → costL p st len l = sumN (fun a => if (a : Int) ∈ l then strip p a st len else 0) n
 | [], _, _ => by
  have : sumN (fun a : Nat => if (a : Int) ∈ ([] : List Int) then strip p a st len else 0) n = sumN (fun _ => 0) n := sumN_congr fun t _ => by simp
  rw [this, sumN_zero]; rfl
 | a :: r, hd, hl => by
  have hd2 := List.nodup_cons.1 hd
  have ih := costL_sum (st := st) (len := len) (n := n) hd2.2 fun b hb => hl b (List.mem_cons_of_mem _ hb)
  have ha := hl a (by simp)
  have h1 := sumN_one (a := a.toNat) (v := strip p a.toNat st len) (n := n)
  rw [if_pos (by omega)] at h1
  simp only [costL]
  rw [ih, ← h1, ← sumN_add]
  refine sumN_congr fun t _ => ?_
  by_cases h2 : t = a.toNat
  ·subst h2
   have e : ((a.toNat : Nat) : Int) = a := by omega
   rw [if_pos rfl, e, if_neg hd2.1, if_pos (by simp)]; omega
  ·rw [if_neg h2]
   by_cases h3 : (t : Int) ∈ r
   ·rw [if_pos h3, if_pos (List.mem_cons_of_mem _ h3)]; omega
   ·rw [if_neg h3, if_neg]
    ·rfl
    ·intro h
     rcases List.mem_cons.1 h with h | h
     ·omega
     ·exact h3 h
def costX (w : W) (p : List (Sl Int)) (x : P) : Int := costL p x.start.toNat (w.rq x.req).len.toNat x.an.l
def covX (w : W) (x : P) (a t : Nat) : Bool := hasA x (a : Int) && decide (x.start.toNat ≤ t ∧ t < x.start.toNat + (w.rq x.req).len.toNat)
def lsum (f : P → Int) : List P → Int
 | [] => 0
 | x :: r => f x + lsum f r
theorem lsum_app {f : P → Int} : ∀ {l r : List P}, lsum f (l ++ r) = lsum f l + lsum f r
 | [], r => by simp [lsum]
 | x :: l, r => by simp only [List.cons_append, lsum, lsum_app (l := l)]; omega
theorem hasA_iff {x : P} {a : Int} : hasA x a = true ↔ a ∈ x.an.l := by
 constructor
 ·exact hasA_mem
 ·intro h; exact List.any_eq_true.2 ⟨a, h, by simp⟩
theorem costX_sum (hw : Wk w) {x : P} (hd : x.an.l.Nodup) (hin : ∀ a ∈ x.an.l, 0 ≤ a ∧ a < w.as.l.length) (hs : x.start.toNat + (w.rq x.req).len.toNat ≤ w.slots.toNat) :
  costX w p x = sumN (fun a => sumN (fun t => if covX w x a t = true then prAt p a t else 0) w.slots.toNat) w.as.l.length := by
 unfold costX
 rw [costL_sum hd hin]
 refine sumN_congr fun a _ => ?_
 by_cases h : (a : Int) ∈ x.an.l
 ·rw [if_pos h, strip_sum hs]
  refine sumN_congr fun t _ => ?_
  have := hasA_iff.2 h
  by_cases h2 : x.start.toNat ≤ t ∧ t < x.start.toNat + (w.rq x.req).len.toNat
  ·rw [if_pos h2, if_pos]
   unfold covX; rw [this, decide_eq_true h2]; rfl
  ·rw [if_neg h2, if_neg]
   unfold covX; rw [decide_eq_false h2, Bool.and_false]; decide
 ·rw [if_neg h]
  have : sumN (fun t => if covX w x a t = true then prAt p a t else 0) w.slots.toNat = sumN (fun _ => 0) w.slots.toNat := sumN_congr fun t _ => by
   rw [if_neg]
   intro hc
   unfold covX at hc
   rw [Bool.and_eq_true] at hc
   exact h (hasA_iff.1 hc.1)
  rw [this, sumN_zero]
def covL (w : W) (l : List P) (a t : Nat) : Bool := l.any fun x => covX w x a t
theorem covL_app {l r : List P} {a t : Nat} : covL w (l ++ r) a t = (covL w l a t || covL w r a t) := by unfold covL; rw [List.any_append]
theorem pass_more (hw : Wk w) {l : List P} (hl : PlOk l) (h : (chkE w l).2 = 0) {j : Nat} {x : P} (hj : l[j]? = some x) :
  x.an.l.Nodup ∧ lastR (l.take j) < x.req ∧ cP x ∈ poss w x.req ∧ x.start.toNat + (w.rq x.req).len.toNat ≤ w.slots.toNat ∧ (∀ a t, covX w x a t = true → clq w.as.l a t = false ∧ covL w (l.take j) a t = false) := by
 have hxm := List.mem_of_getElem? hj
 have h1 := hl.ok x hxm
 have hpe := chk_in hw hl h j x hj
 obtain ⟨hpi, hlr, _, _, _, _, han, _⟩ := passE_in hw h1.1 (by omega) hpe
 obtain ⟨_, h0, he1, he2, hcf, hcl⟩ := pass_facts hw hl h hj
 have hq := hw.rq hpi.r0 hpi.r1
 have hlen := hq.len1
 have heq : endP w x = x.start + (w.rq x.req).len := rfl
 refine ⟨((anE_sorted han).1).imp (fun h => by omega), hlr, poss_of hw h1.1 (by omega) hpe, by omega, fun a t hc => ?_⟩
 unfold covX at hc
 rw [Bool.and_eq_true, decide_eq_true_eq] at hc
 obtain ⟨ha, ht⟩ := hc
 refine ⟨?_, ?_⟩
 ·have := hcl a ha t (by omega) (by omega)
  rwa [Int.toNat_natCast] at this
 ·cases hcv : covL w (l.take j) a t with
  | false => rfl
  | true =>
   exfalso
   obtain ⟨q, hq, hqt⟩ := List.any_eq_true.1 hcv
   unfold covX at hqt
   rw [Bool.and_eq_true, decide_eq_true_eq] at hqt
   obtain ⟨j2, hj2⟩ := List.getElem?_of_mem (List.mem_of_mem_take hq)
   obtain ⟨hqi, g0, g1, g2, _⟩ := pass_facts hw hl h hj2
   have hcq : conf w q x = false := by
    have hc' : (l.take j).any (fun o => conf w o x) = false := hcf
    rw [List.any_eq_false] at hc'
    simpa using hc' q hq
   have hql := (hw.rq hqi.r0 hqi.r1).len1
   have heq2 : endP w q = q.start + (w.rq q.req).len := rfl
   rcases apart hw hpi hqi hcq ha hqt.1 with e | e <;> omega
theorem cost_take (hw : Wk w) (hv : PrV w p) {l : List P} (hl : PlOk l) (h : (chkE w l).2 = 0) : ∀ (k : Nat), k ≤ l.length →
  lsum (costX w p) (l.take k) = sumN (fun a => sumN (fun t => if covL w (l.take k) a t = true then prAt p a t else 0) w.slots.toNat) w.as.l.length
 | 0, _ => by
  have : sumN (fun a => sumN (fun t => if covL w (l.take 0) a t = true then prAt p a t else 0) w.slots.toNat) w.as.l.length = sumN (fun _ => 0) w.as.l.length := sumN_congr fun a _ => by
   have : sumN (fun t => if covL w (l.take 0) a t = true then prAt p a t else 0) w.slots.toNat = sumN (fun _ => 0) w.slots.toNat := sumN_congr fun t _ => by simp [covL]
   rw [this, sumN_zero]
  rw [this, sumN_zero]; rfl
 | k + 1, hk => by
  have ih := cost_take hw hv hl h k (by omega)
  obtain ⟨x, hx⟩ := get_some (show k < l.length by omega)
  obtain ⟨hd, _, hps, hsl, hcov⟩ := pass_more hw hl h hx
  have hin := (pass_facts hw hl h hx).1.an
  rw [take_get hx, lsum_app, ih]
  simp only [lsum, Int.add_zero]
  rw [costX_sum hw hd hin hsl, ← sumN_add]
  refine sumN_congr fun a _ => ?_
  rw [← sumN_add]
  refine sumN_congr fun t _ => ?_
  rw [covL_app]
  have e : covL w [x] a t = covX w x a t := by simp [covL]
  rw [e]
  cases hc : covX w x a t with
  | true => rw [(hcov a t hc).2]; simp
  | false => simp
theorem cost_le (hw : Wk w) (hv : PrV w p) {l : List P} (hl : PlOk l) (h : (chkE w l).2 = 0) : lsum (costX w p) l ≤ totB w p w.as.l.length := by
 have hc := cost_take hw hv hl h l.length (Nat.le_refl _)
 rw [List.take_length] at hc
 rw [hc]
 refine sumN_le fun a ha => sumN_le fun t ht => ?_
 obtain ⟨x, _, _, _, _, hxt⟩ := hv.get hw ha
 have hp := (hxt t ht).2
 cases hcv : covL w l a t with
 | false =>
  rw [if_neg (by decide)]
  split <;> omega
 | true =>
  obtain ⟨q, hq, hqt⟩ := List.any_eq_true.1 hcv
  obtain ⟨j, hj⟩ := List.getElem?_of_mem hq
  obtain ⟨_, _, _, _, hcov⟩ := pass_more hw hl h hj
  rw [(hcov a t hqt).1]; simp
theorem surpL_ge {i : Int} : ∀ {l : List P} {m : Int} {x : P}, x ∈ l → (w.rq i).val - costL p x.start.toNat (w.rq i).len.toNat x.an.l ≤ l.foldl (surp w p i) m
 | [], _, _, h => by cases h
 | y :: r, m, x, h => by
  have mono : ∀ (r : List P) (m : Int), m ≤ r.foldl (surp w p i) m := by
   intro r
   induction r with
   | nil => intro m; exact Int.le_refl _
   | cons z q ih =>
    intro m
    have := ih (surp w p i m z)
    have h2 : m ≤ surp w p i m z := by unfold surp; omega
    rw [List.foldl_cons]; omega
  rw [List.foldl_cons]
  rcases List.mem_cons.1 h with rfl | h
  ·have := mono r (surp w p i m x)
   have h2 : (w.rq i).val - costL p x.start.toNat (w.rq i).len.toNat x.an.l ≤ surp w p i m x := by unfold surp; omega
   omega
  ·exact surpL_ge h
def surV (w : W) (p : List (Sl Int)) (i : Nat) : Int := if i < w.rs.l.length then surpL w p i (poss w i) else 0
theorem surV_nn (hw : Wk w) (hv : PrV w p) (i : Nat) : 0 ≤ surV w p i := by
 unfold surV
 split
 ·exact (surpL_bd hv hw (by omega) (by omega) fun _ h => h).1
 ·omega
theorem gain_take (hw : Wk w) (hv : PrV w p) {l : List P} (hl : PlOk l) (h : (chkE w l).2 = 0) : ∀ (k : Nat), k ≤ l.length →
  lsum (fun x => (w.rq x.req).val - costX w p x) (l.take k) ≤ sumN (surV w p) (lastR (l.take k) + 1).toNat
 | 0, _ => by simp [lsum, lastR, sumN]
 | k + 1, hk => by
  have ih := gain_take hw hv hl h k (by omega)
  obtain ⟨x, hx⟩ := get_some (show k < l.length by omega)
  obtain ⟨_, hlr, hps, _, _⟩ := pass_more hw hl h hx
  obtain ⟨hpi, _⟩ := pass_facts hw hl h hx
  have r0 := hpi.r0
  have r1 := hpi.r1
  rw [lastR_take hx, take_get hx, lsum_app]
  simp only [lsum, Int.add_zero]
  have e : (x.req + 1).toNat = x.req.toNat + 1 := by omega
  rw [e]
  have hmono := sumN_mono (f := surV w p) (surV_nn hw hv) (m := (lastR (l.take k) + 1).toNat) (n := x.req.toNat) (by omega)
  have hge := surpL_ge (w := w) (p := p) (i := x.req) (m := 0) hps
  have hs : surV w p x.req.toNat = surpL w p x.req (poss w x.req) := by
   unfold surV
   rw [if_pos (by omega), show ((x.req.toNat : Nat) : Int) = x.req by omega]
  have hstep : sumN (surV w p) (x.req.toNat + 1) = sumN (surV w p) x.req.toNat + surV w p x.req.toNat := rfl
  have hcx : costX w p x = costL p (cP x).start.toNat (w.rq x.req).len.toNat (cP x).an.l := rfl
  have hsl : surpL w p x.req (poss w x.req) = (poss w x.req).foldl (surp w p x.req) 0 := rfl
  rw [hstep, hs, hcx, hsl]
  omega
theorem lsum_sub {f g : P → Int} : ∀ {l : List P}, lsum (fun x => f x - g x) l = lsum f l - lsum g l
 | [] => rfl
 | x :: r => by simp only [lsum, lsum_sub (l := r)]; omega
theorem valP_lsum : ∀ {l : List P}, valP w l = lsum (fun x => (w.rq x.req).val) l
 | [] => rfl
 | x :: r => by simp only [valP, lsum, valP_lsum (l := r)]
theorem val_bound (hw : Wk w) (hv : PrV w p) {l : List P} (hl : PlOk l) (h : (chkE w l).2 = 0) : valP w l ≤ bndV w p := by
 have h1 := cost_le hw hv hl h
 have h2 := gain_take hw hv hl h l.length (Nat.le_refl _)
 rw [List.take_length, lsum_sub] at h2
 have h3 : sumN (surV w p) (lastR l + 1).toNat ≤ sumN (surV w p) w.rs.l.length := by
  refine sumN_mono (surV_nn hw hv) ?_
  rcases lastR_mem (l := l) with e | ⟨x, hx, e⟩
  ·rw [e]; exact Nat.zero_le _
  ·obtain ⟨j, hj⟩ := List.getElem?_of_mem hx
   have := (pass_facts hw hl h hj).1.r1
   omega
 have h4 : sumN (surV w p) w.rs.l.length = sumS w p w.rs.l.length := sumN_congr fun i hi => by unfold surV; rw [if_pos hi]
 rw [valP_lsum]
 unfold bndV
 omega
theorem prcE_V (hv : PrV w p) : prcE w p = 0 := by
 unfold prcE
 rw [if_pos ⟨hv.len, hv.sl⟩, if_pos]
 rw [List.all_eq_true]
 intro x hx
 rw [List.all_eq_true]
 intro n hn
 exact wi_iff.2 (hv.rg x hx n hn)
def allV (w : W) : Nat → Int
 | 0 => 0
 | k + 1 => allV w k + if (poss w (k : Nat)).isEmpty = true then 0 else (w.rq (k : Nat)).val
theorem allV_bd (hw : Wk w) : ∀ {k : Nat}, k ≤ w.rs.l.length → 0 ≤ allV w k ∧ allV w k ≤ k * 100000
 | 0, _ => by simp [allV]
 | k + 1, hk => by
  have ih := allV_bd hw (k := k) (by omega)
  have hq := hw.rq (i := ((k : Nat) : Int)) (by omega) (by omega)
  have := hq.val0
  have := hq.val1
  simp only [allV]
  split <;> omega
theorem ubA_0 (hw : Wk w) {S : Int} : ∀ {k : Nat}, k ≤ w.rs.l.length → ubA S 0 (ablR w k) = allV w k
 | 0, _ => by simp [ubA, ablR, allV]
 | k + 1, hk => by
  have ih := ubA_0 hw (S := S) (k := k) (by omega)
  have hq := hw.rq (i := ((k : Nat) : Int)) (by omega) (by omega)
  have hv := hq.val0
  simp only [ablR, allV]
  split
  ·rw [ih]; omega
  ·rw [ubA_snoc, ih]
   have : gain 0 (w.rq (k : Nat)) = (w.rq (k : Nat)).val := by unfold gain; rw [Int.zero_mul]; omega
   rw [this]
theorem bound_0 (hw : Wk w) : boundS w 0 = allV w w.rs.l.length := ubA_0 hw (Nat.le_refl _)
theorem best_le (hw : Wk w) : (bestU w).2 ≤ boundS w 0 := by
 obtain ⟨_, _, _, a4, _⟩ := scanU_ok (f := boundS w) (n := 100001) (by decide)
 exact a4 0 (by decide)
theorem best_bnd (hw : Wk w) : bndV w (uniP w (bestU w).1) = (bestU w).2 := by
 obtain ⟨a1, _⟩ := scanU_ok (f := boundS w) (n := 100001) (by decide)
 have : bndV w (uniP w (bestU w).1) = ubF w (bestU w).1 := rfl
 rw [this, ubF_eq hw]; exact a1.symm
end
end Go.Ax.Sx.Sc

namespace Go.Ax.Sx.Sc
open Go.Ax
set_option linter.unusedSimpArgs false
set_option linter.unusedVariables false
set_option maxRecDepth 100000
section
variable {s : Sig} {w : W} {p : List (Sl Int)}
theorem l_ScheduleBounded {l : List P} {o e2 : Own} {el e : Nat} (hs : Ok s) (hw : w.Ok) (hb : w.Big) (hl : PBig l) (hel : l = [] ∨ el = 3) (hp : PrBig p) (he : p = [] ∨ e = 1) : callL AP (.fn 3) [w.v, .slice o el (l.map rowP), .slice e2 e (p.map rowX)] s = some (B true, s) := by
 have haw : ∀ r, callL AP (.fn 4) [] (s.push r) = some (B true, s.push r) := fun r => l_awake (hs.push r)
 have hfe : ∀ r, callL AP (.fn 5) [w.v] (s.push r) = some (B (fewB w), s.push r) := fun r => l_Few (hs.push r) hw hb
 have hsh : ∀ m : Sig, callL AP (.fn 6) [.slice o el (l.map rowP)] m = some (B (shortB l), m) := fun m => l_short hl hel
 have hfp : ∀ r, callL AP (.fn 7) [.slice e2 e (p.map rowX)] (s.push r) = some (B (fewP p), s.push r) := fun r => l_few hp he
 have hnot : ∀ (b : Bool), (b = false) → b = false := fun _ h => h
 cases hf : fewB w with
 | false =>
  rw [hf] at hfe
  simp only [W.v, rowW, Sl.v] at hfe
  rw [callL_go (show AP 3 = some c_l_ScheduleBounded from rfl) rfl]
  simp (maxSteps := 1000000) only [go_sem, b_l_ScheduleBounded, haw, hfe, Bool.not_false, Nat.reduceEqDiff, Nat.reduceAdd, ↓reduceIte]
 | true =>
 rw [hf] at hfe
 cases hf1 : shortB l with
 | false =>
  rw [hf1] at hsh
  simp only [W.v, rowW, Sl.v] at hfe
  rw [callL_go (show AP 3 = some c_l_ScheduleBounded from rfl) rfl]
  simp (maxSteps := 1000000) only [go_sem, b_l_ScheduleBounded, haw, hfe, hsh, Bool.not_false, Bool.not_true, Nat.reduceEqDiff, Nat.reduceAdd, ↓reduceIte]
 | true =>
 rw [hf1] at hsh
 cases hf2 : fewP p with
 | false =>
  rw [hf2] at hfp
  simp only [W.v, rowW, Sl.v] at hfe
  rw [callL_go (show AP 3 = some c_l_ScheduleBounded from rfl) rfl]
  simp (maxSteps := 1000000) only [go_sem, b_l_ScheduleBounded, haw, hfe, hsh, hfp, Bool.not_false, Bool.not_true, Nat.reduceEqDiff, Nat.reduceAdd, ↓reduceIte]
 | true =>
 rw [hf2] at hfp
 have hF := fewB_iff hf
 have hPl := shortB_ok hl hf1
 have hP := fewP_ok hp hf2
 have hpl : ∀ r, callL AP (.fn 8) [w.v, .slice o el (l.map rowP)] (s.push r) = some (I (planE w l).2, s.push r) := fun r => r_PlanErr (hs.push r) hw hF hPl hel
 by_cases h1 : (planE w l).2 = 0
 case neg =>
  have hd1 : decide ((planE w l).2 ≠ 0) = true := by simp [h1]
  simp only [W.v, rowW, Sl.v] at hfe hpl
  rw [callL_go (show AP 3 = some c_l_ScheduleBounded from rfl) rfl]
  simp (maxSteps := 1000000) only [go_sem, b_l_ScheduleBounded, haw, hfe, hsh, hfp, hpl, hd1, Bool.not_true, Nat.reduceEqDiff, Nat.reduceAdd, ↓reduceIte]
 have h0 : (weekE w).2.2 = 0 := by
  apply Classical.byContradiction
  intro h0
  unfold planE at h1
  rw [if_neg h0] at h1; exact h0 h1
 have hch : (chkE w l).2 = 0 := by unfold planE at h1; rw [if_pos h0] at h1; exact h1
 have hwk : Wk w := ⟨hw, hF, weekE_ok h0⟩
 rw [h1] at hpl
 have hpe : ∀ r, callL AP (.fn 9) [w.v, .slice e2 e (p.map rowX)] (s.push r) = some (I (prcE w p), s.push r) := fun r => r_PricesErr (hs.push r) hwk hP he
 have h00 : decide ((0 : Int) ≠ 0) = false := rfl
 by_cases h2 : prcE w p = 0
 case neg =>
  have hd1 : decide (prcE w p ≠ 0) = true := by simp [h2]
  simp only [W.v, rowW, Sl.v] at hfe hpl hpe
  rw [callL_go (show AP 3 = some c_l_ScheduleBounded from rfl) rfl]
  simp (maxSteps := 1000000) only [go_sem, b_l_ScheduleBounded, haw, hfe, hsh, hfp, hpl, hpe, h00, hd1, Bool.not_true, Nat.reduceEqDiff, Nat.reduceAdd, ↓reduceIte]
 rw [h2] at hpe
 have hv := prcE_ok hP h2
 have hal := hwk.v.al
 have hrl := hwk.v.rl
 have hwkc := hwk.c h0
 have hcp : ∀ m : Sig, Ok m → callL AP (.fn 11) [w.v] m = some ((cW w).v, m) := fun m hm => r_CopyWeek hm hw hF
 obtain ⟨x1, g1, tk1, hc1, hA1, _⟩ := r_Copy (o := o) (Q := s) (tk := []) hs hPl hel
 obtain ⟨o1, e1, rfl, he1⟩ := acc_val hA1
 have he1' : l.map cP = [] ∨ e1 = 3 := by rcases he1 with h | h; exact .inl (by simpa using h); exact .inr h
 have hin := chk_pin hwk hPl hch
 have hvo : ∀ r, callL AP (.fn 10) [(cW w).v, .slice o1 e1 ((l.map cP).map rowP)] (s.push r) = some (.tuple [I (valP w l), I 0], s.push r) := fun r => by
  rw [s_ValueOf (hs.push r) cW_Ok (cW_Few hF) (cP_ok hPl) he1', planE_c, h1, if_pos rfl, valP_c fun x hx => ⟨(hin x hx).r0, (hin x hx).r1⟩]
 obtain ⟨oc, ec, hac, hec⟩ := acc_form (es := 1) (f := rowX) (l := p.map cX)
 have hcl : ∀ r, callL AP (.fn 14) [.slice e2 e (p.map rowX)] (s.push r) = some (.slice oc ec ((p.map cX).map rowX), s.push r) := fun r => by
  rw [b_CopyLists (hs.push r) hP he, hac]
 have hbe : bndE w p = 0 := by unfold bndE; rw [if_pos h0, h2]
 have hbo : ∀ r, callL AP (.fn 13) [(cW w).v, .slice oc ec ((p.map cX).map rowX)] (s.push r) = some (.tuple [I (bndV w p), I 0], s.push r) := fun r => by
  rw [s_BoundOf (hs.push r) cW_Ok (cW_Few hF) (cX_ok2 hP) hec, bndE_c, bndV_c, hbe, if_pos rfl]
 obtain ⟨ou, eu, hau, heu⟩ := acc_form (es := 1) (f := rowX) (l := uniP w (bestU w).1)
 have hup : ∀ r, callL AP (.fn 15) [(cW w).v] (s.push r) = some (.tuple [.slice ou eu ((uniP w (bestU w).1).map rowX), I (bestU w).2, I 0], s.push r) := fun r => by
  rw [s_UniformPrices (hs.push r) cW_Ok (cW_Few hF), weekE_c, bestU_c, uniP_c, h0, if_pos rfl, if_pos rfl, hau]
 have huv := uniP_V hwk (bestU_bd (w := w)).1 (bestU_bd (w := w)).2
 obtain ⟨oz, ez, haz, hez⟩ := acc_form (es := 1) (f := rowX) (l := uniP w 0)
 have hun : ∀ r, callL AP (.fn 16) [w.v, I 0] (s.push r) = some (.slice oz ez ((uniP w 0).map rowX), s.push r) := fun r => by rw [r_Uniform (hs.push r) hwk, haz]
 have hzv : PrV (cW w) (uniP w 0) := by have := uniP_V hwkc (a := 0) (by omega) (by omega); rwa [uniP_c] at this
 have hze : bndE (cW w) (uniP w 0) = 0 := by unfold bndE; rw [weekE_c, if_pos h0, prcE_V hzv]
 have hzb : bndV (cW w) (uniP w 0) = allV w w.rs.l.length := by
  have e1 : bndV (cW w) (uniP (cW w) 0) = ubF (cW w) 0 := rfl
  rw [uniP_c] at e1
  rw [e1, ubF_eq hwkc, boundS_c, bound_0 hwk]
 have hbz : ∀ r, callL AP (.fn 13) [(cW w).v, .slice oz ez ((uniP w 0).map rowX)] (s.push r) = some (.tuple [I (allV w w.rs.l.length), I 0], s.push r) := fun r => by
  rw [s_BoundOf (hs.push r) cW_Ok (cW_Few hF) hzv.ok hez, hze, if_pos rfl, hzb]
 obtain ⟨oa, ea, haa, hea⟩ := acc_form (es := 1) (f := rowX) (l := (uniP w (bestU w).1).map cX)
 have hcu : ∀ r, callL AP (.fn 14) [.slice ou eu ((uniP w (bestU w).1).map rowX)] (s.push r) = some (.slice oa ea (((uniP w (bestU w).1).map cX).map rowX), s.push r) := fun r => by
  rw [b_CopyLists (hs.push r) huv.ok heu, haa]
 have hue : bndE w (uniP w (bestU w).1) = 0 := by unfold bndE; rw [if_pos h0, prcE_V huv]
 have hba : ∀ r, callL AP (.fn 13) [(cW w).v, .slice oa ea (((uniP w (bestU w).1).map cX).map rowX)] (s.push r) = some (.tuple [I (bestU w).2, I 0], s.push r) := fun r => by
  rw [s_BoundOf (hs.push r) cW_Ok (cW_Few hF) (cX_ok2 huv.ok) hea, bndE_c, bndV_c, hue, if_pos rfl, best_bnd hwk]
 have d1 : decide (bndV w p < valP w l) = false := decide_eq_false (by have := val_bound hwk hv hPl hch; omega)
 have d2 : decide ((bestU w).2 < valP w l) = false := decide_eq_false (by have := val_bound hwk huv hPl hch; rw [best_bnd hwk] at this; omega)
 have d3 : decide (allV w w.rs.l.length < (bestU w).2) = false := decide_eq_false (by have := best_le hwk; rw [bound_0 hwk] at this; omega)
 have d4 : decide ((bestU w).2 = (bestU w).2) = true := by simp
 have d5 : decide (allV w w.rs.l.length = allV w w.rs.l.length) = true := by simp
 have hcpr : ∀ m : Sig, callL AP (.fn 11) [w.v] (roS m) = some ((cW w).v, roS m) := fun m => hcp _ ok_roS
 have hcpp : ∀ r, callL AP (.fn 11) [w.v] (s.push r) = some ((cW w).v, s.push r) := fun r => hcp _ (hs.push r)
 have key : ∀ (k : Nat) ρ m, k ≤ w.rs.l.length → (ρ 3 = .ptr s.acts.length 0 0 ∧ ρ 11 = .slice ou eu ((uniP w (bestU w).1).map rowX) ∧ ρ 12 = I (bestU w).2 ∧ ρ 14 = I (allV w w.rs.l.length) ∧ ρ 16 = I (allV w k) ∧ ρ 17 = I k ∧ ∃ jk tk, m = s.push ⟨rowW w :: jk, tk⟩) →
   go AP f_l_ScheduleBounded (.c (.loop b_l_ScheduleBounded_l0) :: k_l_ScheduleBounded_0) ⟨ρ, m⟩ = some (B true, s) := by
  refine loop_up w.rs.l.length _ (fun _ => some (B true, s)) ?_ ?_
  ·rintro k ρ m hk ⟨g3, g11, g12, g14, g16, g17, jk, tk, rfl⟩ ih
   have hpo : ∀ r, callL AP (.fn 17) [w.v, I (k : Int)] (s.push r) = some (accV 3 (((poss w k).map (reS (w.rq k).need.toNat)).map rowP), s.push r) := fun r => r_Possible (hs.push r) hwk (by omega) (by omega)
   have hll : ∀ x, lenOp false (accV 3 (((poss w k).map (reS x)).map rowP)) = some (I ((poss w k).length : Int)) := fun x => by rw [len_acc]; simp
   have hrs := ix_rs hwk (i := ((k : Nat) : Int)) (by omega) (by omega)
   have hb1 := allV_bd hwk (k := k) (by omega)
   have hb2 := allV_bd hwk (k := k + 1) (by omega)
   simp only [W.v, rowW, rowR, Sl.v] at hpo hrs
   cases hq : (poss w (k : Int)).isEmpty with
   | true =>
    have hd : decide ((0 : Int) < ((poss w (k : Int)).length : Int)) = false := by
     rw [List.isEmpty_iff.1 hq]; rfl
    have hst : allV w (k + 1) = allV w k := by simp only [allV]; rw [if_pos hq]; omega
    simp (maxSteps := 1000000) only [go_sem, b_l_ScheduleBounded_l0, g3, g17, lt_dec hk, hpo, hll, hd, wrap_succ hk (show (w.rs.l.length : Int) < _ by omega), Nat.reduceEqDiff, Nat.reduceAdd, ↓reduceIte]
    refine ih _ _ ?_
    exact ⟨g3, g11, g12, g14, by rw [hst]; exact g16, rfl, jk, tk, rfl⟩
   | false =>
    have hd : decide ((0 : Int) < ((poss w (k : Int)).length : Int)) = true := by
     cases hpq : poss w (k : Int) with
     | nil => rw [hpq] at hq; cases hq
     | cons x r => simp
    have hst : allV w (k + 1) = allV w k + (w.rq (k : Nat)).val := by simp only [allV]; rw [if_neg (by simp [hq])]
    have hw1 : IntKind.i64.wrap (allV w k + (w.rq (k : Nat)).val) = allV w (k + 1) := by rw [← hst]; exact wrap_id (by omega) (by omega)
    simp (maxSteps := 1000000) only [go_sem, b_l_ScheduleBounded_l0, g3, g16, g17, lt_dec hk, hpo, hll, hd, hrs, hw1, wrap_succ hk (show (w.rs.l.length : Int) < _ by omega), Nat.reduceEqDiff, Nat.reduceAdd, ↓reduceIte]
    refine ih _ _ ?_
    exact ⟨g3, g11, g12, g14, rfl, rfl, jk, tk, rfl⟩
  ·rintro ρ m ⟨g3, g11, g12, g14, g16, g17, jk, tk, rfl⟩
   have hcpp := hcpp
   have hcu := hcu
   have hba := hba
   generalize (uniP w (bestU w).1).map rowX = UV at *
   generalize (((uniP w (bestU w).1).map cX).map rowX) = UC at *
   simp only [W.v, rowW, Sl.v] at hcpp hba
   simp (maxSteps := 1000000) only [go_sem, b_l_ScheduleBounded_l0, b_l_ScheduleBounded_r0, g3, g11, g12, g14, g16, g17, ge_dec, hcpp, hcu, hba, Nat.reduceEqDiff, Nat.reduceAdd, ↓reduceIte]
 generalize (uniP w (bestU w).1).map rowX = UV at *
 generalize (((uniP w (bestU w).1).map cX).map rowX) = UC at *
 generalize (uniP w 0).map rowX = UZ at *
 generalize (p.map cX).map rowX = PC at *
 generalize p.map rowX = PV at *
 generalize (l.map cP).map rowP = LC at *
 generalize l.map rowP = LV at *
 simp only [W.v, rowW, Sl.v] at hfe hpl hpe hcpr hcpp hvo hbo hup hun hbz
 rw [callL_go (show AP 3 = some c_l_ScheduleBounded from rfl) rfl]
 simp (maxSteps := 1000000) only [go_sem, b_l_ScheduleBounded, haw, hfe, hsh, hfp, hpl, hpe, h00, hcpp, hcpr, hc1, hvo, hcl, hbo, hup, hun, hbz, d1, d2, d3, Bool.not_true, Nat.reduceEqDiff, Nat.reduceAdd, ↓reduceIte]
 refine key 0 _ _ (Nat.zero_le _) ?_
 exact ⟨rfl, rfl, rfl, rfl, rfl, rfl, _, _, rfl⟩
end
end Go.Ax.Sx.Sc

namespace Go.Ax.Sx.Sc
open Go.Ax
section
variable {P : Program} {d : Nat}
def Flds (P : Program) (t : TypeId) (ts : List TypeId) : Prop := ∃ fs : Array Field, P.underlying t = some (.struct fs) ∧ fs.toList.map (·.type) = ts
theorem shp_flds {t : TypeId} {ts : List TypeId} {avs : List AV} (hf : Flds P t ts) (h : Shp P (d + 1) t avs) :
  ∃ ps : List (List AV), avs = ps.flatten ∧ ps.length = ts.length ∧ ∀ (i : Nat) (u : TypeId) (p : List AV), ts[i]? = some u → ps[i]? = some p → Shp P d u p := by
 obtain ⟨fs, hu, rfl⟩ := hf
 obtain ⟨ps, h1, h2, h3⟩ := shp_struct hu h
 refine ⟨ps, h1, by simp [h2], fun i u p hi hp => ?_⟩
 rw [List.getElem?_map] at hi
 obtain ⟨f, hf, rfl⟩ := Option.map_eq_some_iff.1 hi
 exact h3 i f p (by simpa using hf) hp
structure WkT (P : Program) (ti ts tg tgs tis ta tas tr trs tw : TypeId) : Prop where
 i : P.underlying ti = some (.int .i64)
 s : P.underlying ts = some .string
 g : Flds P tg [ti, ti]
 gs : P.underlying tgs = some (.slice tg)
 gc : P.cellsOf tg = 2
 is : P.underlying tis = some (.slice ti)
 ic : P.cellsOf ti = 1
 a : Flds P ta [ts, ti, tgs]
 sa : P.underlying tas = some (.slice ta)
 ac : P.cellsOf ta = 3
 r : Flds P tr [ts, tg, ti, ti, tis, ti]
 sr : P.underlying trs = some (.slice tr)
 rc : P.cellsOf tr = 7
 w : Flds P tw [ti, tas, trs]
variable {ti ts tg tgs tis ta tas tr trs tw : TypeId}
theorem maxLen_lt {n : Nat} (h : n ≤ maxLen) : (n : Int) < 9223372036854775808 := by unfold maxLen at h; omega
theorem shp_rng (T : WkT P ti ts tg tgs tis ta tas tr trs tw) {avs : List AV} (h : Shp P (d + 2) tg avs) : ∃ x : Int × Int, avs = rowG x ∧ True := by
 obtain ⟨ps, rfl, hl, hp⟩ := shp_flds T.g h
 match ps, hl, hp with
 | [p0, p1], _, hp =>
  obtain ⟨a, rfl, _⟩ := shp_int T.i (hp 0 _ p0 rfl rfl)
  obtain ⟨b, rfl, _⟩ := shp_int T.i (hp 1 _ p1 rfl rfl)
  exact ⟨(a, b), rfl, trivial⟩
theorem own_ok {o : Own} {rows : List (List AV)} (h : o = .any ∨ (o = .nilS ∧ rows = [])) : o = .any ∨ (o = .nilS ∧ rows = []) := h
theorem shp_ints (T : WkT P ti ts tg tgs tis ta tas tr trs tw) {avs : List AV} (h : Shp P (d + 2) tis avs) : ∃ x : Sl Int, avs = [x.v rowI] ∧ x.ok 1 ∧ (x.l.length : Int) < 9223372036854775808 := by
 obtain ⟨o, rows, rfl, ho, hlen, hrows⟩ := shp_slice T.is h
 obtain ⟨l, rfl, _⟩ := rows_eq (f := rowI) (g := fun _ => True) (fun r hr => by
  obtain ⟨x, hx, _⟩ := shp_int T.i (hrows r hr)
  exact ⟨x, hx, trivial⟩)
 rw [List.length_map] at hlen
 rw [T.ic]
 refine ⟨⟨o, 1, l⟩, rfl, ?_, maxLen_lt hlen⟩
 rcases ho with rfl | ⟨rfl, h⟩
 ·exact ⟨.inr rfl, .inl rfl⟩
 ·exact ⟨.inr rfl, .inr (.inr ⟨rfl, List.map_eq_nil_iff.1 (by assumption)⟩)⟩
theorem shp_rngs (T : WkT P ti ts tg tgs tis ta tas tr trs tw) {avs : List AV} (h : Shp P (d + 3) tgs avs) : ∃ x : Sl (Int × Int), avs = [x.v rowG] ∧ x.ok 2 ∧ (x.l.length : Int) < 9223372036854775808 := by
 obtain ⟨o, rows, rfl, ho, hlen, hrows⟩ := shp_slice T.gs h
 obtain ⟨l, rfl, _⟩ := rows_eq (f := rowG) (g := fun _ => True) (fun r hr => shp_rng T (hrows r hr))
 rw [List.length_map] at hlen
 rw [T.gc]
 refine ⟨⟨o, 2, l⟩, rfl, ?_, maxLen_lt hlen⟩
 rcases ho with rfl | ⟨rfl, h⟩
 ·exact ⟨.inr rfl, .inl rfl⟩
 ·exact ⟨.inr rfl, .inr (.inr ⟨rfl, List.map_eq_nil_iff.1 (by assumption)⟩)⟩
theorem shp_ant (T : WkT P ti ts tg tgs tis ta tas tr trs tw) {avs : List AV} (h : Shp P (d + 4) ta avs) :
  ∃ a : A, avs = rowA a ∧ (a.cl.ok 2 ∧ (a.name.size : Int) < 9223372036854775808 ∧ (a.cl.l.length : Int) < 9223372036854775808) := by
 obtain ⟨ps, rfl, hl, hp⟩ := shp_flds T.a h
 match ps, hl, hp with
 | [p0, p1, p2], _, hp =>
  obtain ⟨n, rfl, hn⟩ := shp_str T.s (hp 0 _ p0 rfl rfl)
  obtain ⟨b, rfl, _⟩ := shp_int T.i (hp 1 _ p1 rfl rfl)
  obtain ⟨c, rfl, hc, hcl⟩ := shp_rngs T (hp 2 _ p2 rfl rfl)
  exact ⟨⟨n, b, c⟩, rfl, hc, maxLen_lt hn, hcl⟩
theorem shp_req (T : WkT P ti ts tg tgs tis ta tas tr trs tw) {avs : List AV} (h : Shp P (d + 4) tr avs) :
  ∃ r : R, avs = rowR r ∧ (r.an.ok 1 ∧ (r.mis.size : Int) < 9223372036854775808 ∧ (r.an.l.length : Int) < 9223372036854775808) := by
 obtain ⟨ps, rfl, hl, hp⟩ := shp_flds T.r h
 match ps, hl, hp with
 | [p0, p1, p2, p3, p4, p5], _, hp =>
  obtain ⟨n, rfl, hn⟩ := shp_str T.s (hp 0 _ p0 rfl rfl)
  obtain ⟨g, rfl, _⟩ := shp_rng T (hp 1 _ p1 rfl rfl)
  obtain ⟨b, rfl, _⟩ := shp_int T.i (hp 2 _ p2 rfl rfl)
  obtain ⟨c, rfl, _⟩ := shp_int T.i (hp 3 _ p3 rfl rfl)
  obtain ⟨x, rfl, hx, hxl⟩ := shp_ints T (hp 4 _ p4 rfl rfl)
  obtain ⟨e, rfl, _⟩ := shp_int T.i (hp 5 _ p5 rfl rfl)
  exact ⟨⟨n, g.1, g.2, b, c, x, e⟩, rfl, hx, maxLen_lt hn, hxl⟩
theorem shp_week (T : WkT P ti ts tg tgs tis ta tas tr trs tw) {avs : List AV} (h : Shp P (d + 6) tw avs) : ∃ w : W, AV.agg avs = w.v ∧ w.Ok ∧ w.Big := by
 obtain ⟨ps, rfl, hl, hp⟩ := shp_flds T.w h
 match ps, hl, hp with
 | [p0, p1, p2], _, hp =>
  obtain ⟨n, rfl, _⟩ := shp_int T.i (hp 0 _ p0 rfl rfl)
  obtain ⟨o1, r1, rfl, ho1, hl1, hr1⟩ := shp_slice T.sa (hp 1 _ p1 rfl rfl)
  obtain ⟨o2, r2, rfl, ho2, hl2, hr2⟩ := shp_slice T.sr (hp 2 _ p2 rfl rfl)
  obtain ⟨as, rfl, has⟩ := rows_eq (fun r hr => shp_ant T (hr1 r hr))
  obtain ⟨rs, rfl, hrs⟩ := rows_eq (fun r hr => shp_req T (hr2 r hr))
  rw [List.length_map] at hl1 hl2
  rw [T.ac, T.rc]
  refine ⟨⟨n, ⟨o1, 3, as⟩, ⟨o2, 7, rs⟩⟩, rfl, ⟨?_, fun a ha => (has a ha).1, ?_, fun r hr => (hrs r hr).1⟩, ⟨maxLen_lt hl1, maxLen_lt hl2, fun a ha => (has a ha).2.1, fun a ha => (has a ha).2.2, fun r hr => (hrs r hr).2.1, fun r hr => (hrs r hr).2.2⟩⟩
  ·rcases ho1 with rfl | ⟨rfl, h⟩
   ·exact ⟨.inr rfl, .inl rfl⟩
   ·exact ⟨.inr rfl, .inr (.inr ⟨rfl, List.map_eq_nil_iff.1 (by assumption)⟩)⟩
  ·rcases ho2 with rfl | ⟨rfl, h⟩
   ·exact ⟨.inr rfl, .inl rfl⟩
   ·exact ⟨.inr rfl, .inr (.inr ⟨rfl, List.map_eq_nil_iff.1 (by assumption)⟩)⟩
end
end Go.Ax.Sx.Sc

/-
  What a plan is among the values that an argument may read as.
-/
namespace Go.Ax.Sx.Sc
open Go.Ax
section
variable {P : Program} {d : Nat} {ti tis tp tps : TypeId}
structure PlT (P : Program) (ti tis tp tps : TypeId) : Prop where
 i : P.underlying ti = some (.int .i64)
 ic : P.cellsOf ti = 1
 is : P.underlying tis = some (.slice ti)
 p : Flds P tp [ti, ti, tis]
 ps : P.underlying tps = some (.slice tp)
 pc : P.cellsOf tp = 3
theorem shp_ints2 (T : PlT P ti tis tp tps) {avs : List AV} (h : Shp P (d + 2) tis avs) : ∃ x : Sl Int, avs = [x.v rowI] ∧ x.ok 1 ∧ (x.l.length : Int) < 9223372036854775808 := by
 obtain ⟨o, rows, rfl, ho, hlen, hrows⟩ := shp_slice T.is h
 obtain ⟨l, rfl, _⟩ := rows_eq (f := rowI) (g := fun _ => True) (fun r hr => by
  obtain ⟨x, hx, _⟩ := shp_int T.i (hrows r hr)
  exact ⟨x, hx, trivial⟩)
 rw [List.length_map] at hlen
 rw [T.ic]
 refine ⟨⟨o, 1, l⟩, rfl, ?_, maxLen_lt hlen⟩
 rcases ho with rfl | ⟨rfl, h⟩
 ·exact ⟨.inr rfl, .inl rfl⟩
 ·exact ⟨.inr rfl, .inr (.inr ⟨rfl, List.map_eq_nil_iff.1 (by assumption)⟩)⟩
theorem shp_pass (T : PlT P ti tis tp tps) {avs : List AV} (h : Shp P (d + 4) tp avs) : ∃ p : Sc.P, avs = rowP p ∧ (p.an.ok 1 ∧ (p.an.l.length : Int) < 9223372036854775808) := by
 obtain ⟨ps, rfl, hl, hp⟩ := shp_flds T.p h
 match ps, hl, hp with
 | [p0, p1, p2], _, hp =>
  obtain ⟨a, rfl, _⟩ := shp_int T.i (hp 0 _ p0 rfl rfl)
  obtain ⟨b, rfl, _⟩ := shp_int T.i (hp 1 _ p1 rfl rfl)
  obtain ⟨x, rfl, hx, hxl⟩ := shp_ints2 T (hp 2 _ p2 rfl rfl)
  exact ⟨⟨a, b, x⟩, rfl, hx, hxl⟩
theorem shp_plan (T : PlT P ti tis tp tps) {avs : List AV} (h : Shp P (d + 5) tps avs) : ∃ (l : List Sc.P) (o : Own) (e : Nat), avs = [.slice o e (l.map rowP)] ∧ e = 3 ∧ PBig l := by
 obtain ⟨o, rows, rfl, ho, hlen, hrows⟩ := shp_slice T.ps h
 obtain ⟨l, rfl, hr⟩ := rows_eq (fun r hr => shp_pass T (hrows r hr))
 rw [List.length_map] at hlen
 rw [T.pc]
 exact ⟨l, o, 3, rfl, rfl, ⟨maxLen_lt hlen, fun p hp => (hr p hp).1, fun p hp => (hr p hp).2⟩⟩
theorem shp_pair (T : PlT P ti tis tp tps) {tpp : TypeId} (hf : Flds P tpp [tps, tps]) {avs : List AV} (h : Shp P (d + 6) tpp avs) :
  ∃ (a b : List Sc.P) (o1 o2 : Own), AV.agg avs = .agg [.slice o1 3 (a.map rowP), .slice o2 3 (b.map rowP)] ∧ PBig a ∧ PBig b := by
 obtain ⟨ps, rfl, hl, hp⟩ := shp_flds hf h
 match ps, hl, hp with
 | [p0, p1], _, hp =>
  obtain ⟨a, o1, e1, rfl, rfl, ha⟩ := shp_plan T (hp 0 _ p0 rfl rfl)
  obtain ⟨b, o2, e2, rfl, rfl, hb⟩ := shp_plan T (hp 1 _ p1 rfl rfl)
  exact ⟨a, b, o1, o2, rfl, ha, hb⟩
end
end Go.Ax.Sx.Sc

/-
  What slices of slices of numbers are among the values that an argument may read as.
-/
namespace Go.Ax.Sx.Sc
open Go.Ax
section
variable {P : Program} {d : Nat} {ti ts tg tgs tis ta tas tr trs tw : TypeId}
theorem shp_lists (T : WkT P ti ts tg tgs tis ta tas tr trs tw) {tll : TypeId} (hu : P.underlying tll = some (.slice tis)) (hc : P.cellsOf tis = 1) {avs : List AV} (h : Shp P (d + 3) tll avs) :
  ∃ (l : List (Sl Int)) (o : Own) (e : Nat), avs = [.slice o e (l.map rowX)] ∧ PrBig l ∧ (l = [] ∨ e = 1) := by
 obtain ⟨o, rows, rfl, ho, hlen, hrows⟩ := shp_slice hu h
 obtain ⟨l, rfl, hr⟩ := rows_eq (f := rowX) (g := fun x : Sl Int => x.ok 1 ∧ (x.l.length : Int) < 9223372036854775808) (fun r hr => by
  obtain ⟨x, hx, h1, h2⟩ := shp_ints T (hrows r hr)
  exact ⟨x, hx, h1, h2⟩)
 rw [List.length_map] at hlen
 rw [hc]
 exact ⟨l, o, 1, rfl, ⟨maxLen_lt hlen, fun x hx => (hr x hx).1, fun x hx => (hr x hx).2⟩, .inr rfl⟩
end
end Go.Ax.Sx.Sc
