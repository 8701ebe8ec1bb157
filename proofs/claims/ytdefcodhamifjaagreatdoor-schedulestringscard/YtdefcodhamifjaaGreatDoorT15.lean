/-
  What a week is among the values that an argument may read as.
-/
import Derived.Test.YtdefcodhamifjaaGreatDoorT14
import Derived.Test.YtdefcodhamifjaaGreatDoorT13
import Derived.Test.YtdefcodhamifjaaGreatDoorT8
namespace Go.Ax.Sx.Sc
open Go.Ax
set_option linter.unusedSimpArgs false
set_option linter.unusedVariables false
set_option maxRecDepth 100000
def In64 (n : Int) : Prop := -9223372036854775808 ≤ n ∧ n ≤ 9223372036854775807
def Big (p : P) : Prop := In64 p.req ∧ In64 p.start ∧ p.an.l.length ≤ 6 ∧ ∀ a ∈ p.an.l, In64 a
def antA : List Int → List UInt8
 | [] => []
 | a :: r => 43 :: Lib.itoa a ++ antA r
def wordA (p : P) : List UInt8 := Lib.itoa p.req ++ [64] ++ Lib.itoa p.start ++ antA p.an.l
def fmtA (l : List P) : List UInt8 := [32].intercalate (l.map wordA)
theorem antA_len : ∀ {l : List Int}, (∀ a ∈ l, In64 a) → (antA l).length ≤ 22 * l.length
 | [], _ => by simp [antA]
 | a :: r, h => by
  have h1 := antA_len (l := r) fun a ha => h a (List.mem_cons_of_mem _ ha)
  have h2 := itoa_len (h a (by simp)).1 (h a (by simp)).2
  simp only [antA, List.length_cons, List.length_append]; omega
theorem antA_app : ∀ {l r : List Int}, antA (l ++ r) = antA l ++ antA r
 | [], r => rfl
 | a :: l, r => by simp only [List.cons_append, antA, antA_app, List.append_assoc]
theorem wordA_len {p : P} (h : Big p) : (wordA p).length ≤ 200 := by
 have h1 := itoa_len h.1.1 h.1.2
 have h2 := itoa_len h.2.1.1 h.2.1.2
 have h3 := antA_len h.2.2.2
 have h4 := h.2.2.1
 simp only [wordA, List.length_append, List.length_singleton]; omega
section
variable {s : Sig} {w : W}
theorem s_FormatPlanA {l : List P} {o : Own} {e : Nat} (hs : Ok s) (he : l = [] ∨ e = 3) (hl : l.length ≤ 100) (hok : ∀ p ∈ l, p.an.ok 1 ∧ Big p) : callL AP (.fn 7) [.slice o e (l.map rowP)] s = some (S (tx (fmtA l)), s) := by
 have key : ∀ (j : Nat) ρ x, j ≤ l.length → (ρ 9 = .slice o e (l.map rowP) ∧ ρ 10 = I l.length ∧ ρ 11 = I j ∧ ∃ og tk bx, Acc s.acts.length 1 (((l.take j).map wordA).map fun x => [S (tx x)]) (ρ 3) og tk ∧ x = s.push ⟨bx, tk⟩) → go AP f_s_FormatPlan (.c (.loop b_s_FormatPlan_l0) :: k_s_FormatPlan_0) ⟨ρ, x⟩ = some (S (tx (fmtA l)), s) := by
  refine loop_up l.length _ _ ?_ ?_
  ·rintro j ρ x hj ⟨h9, h10, h11, og, tk, bx, hA, rfl⟩ ih
   obtain ⟨p, hp⟩ := get_some hj
   have hpk := hok p (List.mem_of_getElem? hp)
   obtain ⟨⟨a1, a2⟩, ⟨a3, a4⟩, a5, a6⟩ := hpk.2
   have he3 : e = 3 := by rcases he with h | h; (rw [h] at hp; simp at hp); exact h
   subst he3
   have hr := ix_map (f := rowP) (o := o) (es := 3) hp
   have d1 := itoa_len a1 a2
   have d2 := itoa_len a3 a4
   have i1 : ∀ q : Sig, callL AP (.fn 18) [I p.req] q = some (S (tx (Lib.itoa p.req)), q) := fun q => itoaA a1 a2
   have i2 : ∀ q : Sig, callL AP (.fn 18) [I p.start] q = some (S (tx (Lib.itoa p.start)), q) := fun q => itoaA a3 a4
   have s1 : arithOp .add (S (tx (Lib.itoa p.req))) (S ⟨#[64]⟩) = some (S (tx (Lib.itoa p.req ++ [64]))) := ar_adds (by simp; omega)
   have s2 : arithOp .add (S (tx (Lib.itoa p.req ++ [64]))) (S (tx (Lib.itoa p.start))) = some (S (tx (Lib.itoa p.req ++ [64] ++ Lib.itoa p.start))) := ar_adds (by simp; omega)
   have hwj := wrap_succ hj (show (l.length : Int) < _ by omega)
   have kin : ∀ (q : Nat) ρ x, q ≤ p.an.l.length → ((∃ y, ρ 6 = S y ∧ y = tx (Lib.itoa p.req ++ [64] ++ Lib.itoa p.start ++ antA (p.an.l.take q))) ∧ ρ 9 = .slice o 3 (l.map rowP) ∧ ρ 10 = I l.length ∧ ρ 11 = I j ∧ ρ 24 = p.an.v rowI ∧ ρ 25 = I p.an.l.length ∧ ρ 26 = I q ∧
     ∃ og tk bx, Acc s.acts.length 1 (((l.take j).map wordA).map fun x => [S (tx x)]) (ρ 3) og tk ∧ x = s.push ⟨bx, tk⟩) → go AP f_s_FormatPlan (.c (.loop b_s_FormatPlan_l1) :: k_s_FormatPlan_1) ⟨ρ, x⟩ = some (S (tx (fmtA l)), s) := by
    refine loop_up p.an.l.length _ _ ?_ ?_
    ·rintro q ρ x hq ⟨⟨y, h6, hy⟩, h9, h10, h11, h24, h25, h26, og, tk, bx, hA, rfl⟩ ih2
     obtain ⟨a, ha⟩ := get_some hq
     have ham := a6 a (List.mem_of_getElem? ha)
     have hr := Sl.ix (f := rowI) hpk.1 ha
     have d3 := itoa_len ham.1 ham.2
     have d4 := antA_len (l := p.an.l.take q) fun a ha => a6 a (List.mem_of_mem_take ha)
     have d5 : (p.an.l.take q).length ≤ 6 := by rw [List.length_take]; omega
     have i3 : ∀ m : Sig, callL AP (.fn 18) [I a] m = some (S (tx (Lib.itoa a)), m) := fun m => itoaA ham.1 ham.2
     have s3 : arithOp .add (S ⟨#[43]⟩) (S (tx (Lib.itoa a))) = some (S (tx ([43] ++ Lib.itoa a))) := ar_adds (a := [43]) (by simp; omega)
     have s4 : arithOp .add (S (tx (Lib.itoa p.req ++ [64] ++ Lib.itoa p.start ++ antA (p.an.l.take q)))) (S (tx ([43] ++ Lib.itoa a))) = some (S (tx (Lib.itoa p.req ++ [64] ++ Lib.itoa p.start ++ antA (p.an.l.take q) ++ ([43] ++ Lib.itoa a)))) := ar_adds (by simp only [List.length_append, List.length_singleton]; omega)
     rw [← hy] at s4
     obtain ⟨z3, hz3⟩ : ∃ z, tx ([43] ++ Lib.itoa a) = z := ⟨_, rfl⟩
     obtain ⟨z4, hz4⟩ : ∃ z, tx (Lib.itoa p.req ++ [64] ++ Lib.itoa p.start ++ antA (p.an.l.take q) ++ ([43] ++ Lib.itoa a)) = z := ⟨_, rfl⟩
     rw [hz3] at s3 s4
     rw [hz4] at s4
     simp only [Sl.v] at h24 hr
     simp (maxSteps := 1000000) only [go_sem, b_s_FormatPlan_l1, h6, h24, h25, h26, lt_dec hq, hr, i3, s3, s4, wrap_succ hq (show (p.an.l.length : Int) < _ by omega), Nat.reduceEqDiff, ↓reduceIte]
     refine ih2 _ _ ?_
     refine ⟨⟨z4, rfl, ?_⟩, h9, h10, h11, by simp only [Sl.v]; exact h24, h25, rfl, og, tk, _, hA, rfl⟩
     rw [take_get ha, antA_app, ← hz4]
     simp [antA]
    ·rintro ρ x ⟨⟨y, h6, hy⟩, h9, h10, h11, h24, h25, h26, og, tk, bx, hA, rfl⟩
     rw [List.take_length] at hy
     rw [hy] at h6
     have hll : (l.take j).length ≤ 100 := by rw [List.length_take]; omega
     obtain ⟨x', og', tk', ha1, ha2, _⟩ := hA.append hs .full (ys := [[S (tx (wordA p))]]) (by simp) (by simp; omega)
     have h6' : ρ 6 = S (tx (wordA p)) := h6
     obtain ⟨z5, hz5⟩ : ∃ z, tx (wordA p) = z := ⟨_, rfl⟩
     rw [hz5] at h6' ha1 ha2
     simp (maxSteps := 1000000) only [go_sem, b_s_FormatPlan_l1, b_s_FormatPlan_r2, b_s_FormatPlan_r1, h6', h11, h25, h26, ge_dec, ha1, hwj, Nat.reduceEqDiff, ↓reduceIte]
     refine ih _ _ ?_
     refine ⟨h9, h10, rfl, og', tk', _, ?_, rfl⟩
     rw [take_get hp, List.map_append, List.map_append, List.map_singleton, List.map_singleton, hz5]; exact ha2
   simp only [rowP, Sl.v] at hr kin
   obtain ⟨z1, hz1⟩ : ∃ z, tx (Lib.itoa p.req ++ [64]) = z := ⟨_, rfl⟩
   obtain ⟨z2, hz2⟩ : ∃ z, tx (Lib.itoa p.req ++ [64] ++ Lib.itoa p.start) = z := ⟨_, rfl⟩
   rw [hz1] at s1 s2
   rw [hz2] at s2
   simp (maxSteps := 1000000) only [go_sem, b_s_FormatPlan_l0, h9, h10, h11, hs, lt_dec hj, hr, i1, i2, s1, s2, Nat.reduceEqDiff, Nat.reduceAdd, ↓reduceIte]
   refine kin 0 _ _ (Nat.zero_le _) ?_
   refine ⟨⟨z2, rfl, ?_⟩, h9, h10, h11, rfl, rfl, rfl, og, tk, _, hA, rfl⟩
   rw [show p.an.l.take 0 = [] from rfl, antA, List.append_nil, hz2]
  ·rintro ρ x ⟨h9, h10, h11, og, tk, bx, hA, rfl⟩
   rw [List.take_length] at hA
   have hj : ∀ q : Sig, callL AP (.fn 19) [ρ 3, S ⟨#[32]⟩] q = some (S (tx (fmtA l)), q) := fun q => join hA.close (by simp; omega) (by
    have h1 := inter_len (ls := l.map wordA) (m := 200) fun x hx => by
     obtain ⟨p, hp, rfl⟩ := List.mem_map.1 hx
     exact wordA_len (hok p hp).2
    rw [List.length_map] at h1
    have h2 := Nat.mul_le_mul_left 201 hl
    omega)
   simp (maxSteps := 1000000) only [go_sem, b_s_FormatPlan_l0, b_s_FormatPlan_r0, h10, h11, ge_dec, hj, Nat.reduceEqDiff, ↓reduceIte]
 rw [callL_go (show AP 7 = some c_s_FormatPlan from rfl) rfl]
 simp (maxSteps := 1000000) only [go_sem, b_s_FormatPlan, reduceCtorEq, ↓reduceIte]
 refine key 0 _ _ (Nat.zero_le _) ?_
 exact ⟨rfl, rfl, rfl, none, [], [], Acc.start, rfl⟩
def fmtUp : List P → List UInt8
 | [] => []
 | p :: r => wordA p ++ (r.map fun q => 32 :: wordA q).flatten
theorem fmtUp_eq : ∀ {l : List P}, fmtUp l = fmtA l
 | [] => rfl
 | [p] => by simp [fmtUp, fmtA, List.intercalate]
 | p :: q :: r => by
  have ih := fmtUp_eq (l := q :: r)
  have e : [32].intercalate ((p :: q :: r).map wordA) = wordA p ++ [32] ++ [32].intercalate ((q :: r).map wordA) := by simp [List.intercalate, List.intersperse]
  rw [fmtA, e]
  rw [fmtA] at ih
  rw [← ih]
  simp [fmtUp]
theorem fmtUp_app {l : List P} {p : P} : fmtUp (l ++ [p]) = (if l = [] then [] else fmtUp l ++ [32]) ++ wordA p := by
 cases l with
 | nil => simp [fmtUp]
 | cons a r => simp [fmtUp]
theorem fmtUp_len : ∀ {l : List P}, (∀ p ∈ l, Big p) → (fmtUp l).length ≤ 201 * l.length
 | [], _ => by simp [fmtUp]
 | p :: r, h => by
  have h1 := wordA_len (h p (by simp))
  have h2 : ∀ {r : List P}, (∀ p ∈ r, Big p) → ((r.map fun q => 32 :: wordA q).flatten).length ≤ 201 * r.length := by
   intro r
   induction r with
   | nil => intro _; simp
   | cons q r ih =>
    intro h
    have := ih fun p hp => h p (List.mem_cons_of_mem _ hp)
    have := wordA_len (h q (by simp))
    simp only [List.map_cons, List.flatten_cons, List.length_append, List.length_cons]; omega
  have := h2 fun p hp => h p (List.mem_cons_of_mem _ hp)
  simp only [fmtUp, List.length_append, List.length_cons]; omega
theorem r_FormatPlanA {l : List P} {o : Own} {e : Nat} (hs : Ok s) (he : l = [] ∨ e = 3) (hl : l.length ≤ 100) (hok : ∀ p ∈ l, p.an.ok 1 ∧ Big p) : callL AP (.fn 11) [.slice o e (l.map rowP)] s = some (S (tx (fmtA l)), s) := by
 rw [← fmtUp_eq]
 have key : ∀ (j : Nat) ρ x, j ≤ l.length → (ρ 0 = .slice o e (l.map rowP) ∧ ρ 4 = I j ∧ (∃ y, ρ 3 = S y ∧ y = tx (fmtUp (l.take j))) ∧ x = s.push ⟨[], []⟩) → go AP f_r_FormatPlan (.c (.loop b_r_FormatPlan_l0) :: k_r_FormatPlan_0) ⟨ρ, x⟩ = some (S (tx (fmtUp l)), s) := by
  refine loop_up l.length _ _ ?_ ?_
  ·rintro j ρ x hj ⟨g0, g4, ⟨y, g3, hy⟩, rfl⟩ ih
   obtain ⟨p, hp⟩ := get_some hj
   have hpk := hok p (List.mem_of_getElem? hp)
   obtain ⟨⟨a1, a2⟩, ⟨a3, a4⟩, a5, a6⟩ := hpk.2
   have he3 : e = 3 := by rcases he with h | h; (rw [h] at hp; simp at hp); exact h
   subst he3
   have hr := ix_map (f := rowP) (o := o) (es := 3) hp
   have d1 := itoa_len a1 a2
   have d2 := itoa_len a3 a4
   have i1 : ∀ q : Sig, callL AP (.fn 28) [I p.req] q = some (S (tx (Lib.itoa p.req)), q) := fun q => b_Decimal a1 a2
   have i2 : ∀ q : Sig, callL AP (.fn 28) [I p.start] q = some (S (tx (Lib.itoa p.start)), q) := fun q => b_Decimal a3 a4
   have hfl := fmtUp_len (l := l.take j) fun p hp => (hok p (List.mem_of_mem_take hp)).2
   have hfl2 : (fmtUp (l.take j)).length ≤ 20100 := by
    rw [List.length_take] at hfl; omega
   have hwj := wrap_succ hj (show (l.length : Int) < _ by omega)
   have hpos : (j = 0 ∧ fmtUp (l.take (j + 1)) = wordA p) ∨ (0 < j ∧ fmtUp (l.take (j + 1)) = fmtUp (l.take j) ++ [32] ++ wordA p) := by
    rw [take_get hp, fmtUp_app]
    by_cases hj0 : j = 0
    ·left; subst hj0; exact ⟨rfl, by simp⟩
    ·right
     rw [if_neg (by
      intro h
      have h2 : (l.take j).length = 0 := by rw [h]; rfl
      rw [List.length_take] at h2; omega)]
     exact ⟨by omega, rfl⟩
   have inner : ∀ (pre : List UInt8), pre.length ≤ 30000 → fmtUp (l.take (j + 1)) = pre ++ antA p.an.l → ∀ (q : Nat) ρ x, q ≤ p.an.l.length → ((∃ y, ρ 3 = S y ∧ y = tx (pre ++ antA (p.an.l.take q))) ∧ ρ 0 = .slice o 3 (l.map rowP) ∧ ρ 4 = I j ∧ ρ 5 = I q ∧ x = s.push ⟨[], []⟩) → go AP f_r_FormatPlan (.c (.loop b_r_FormatPlan_l1) :: k_r_FormatPlan_1) ⟨ρ, x⟩ = some (S (tx (fmtUp l)), s) := by
    intro pre hpl hpe
    refine loop_up p.an.l.length _ _ ?_ ?_
    ·rintro q ρ x hq ⟨⟨y, g3, hy⟩, g0, g4, g5, rfl⟩ ih2
     obtain ⟨a, ha⟩ := get_some hq
     have ham := a6 a (List.mem_of_getElem? ha)
     have hr2 := Sl.ix (f := rowI) hpk.1 ha
     have d3 := itoa_len ham.1 ham.2
     have d4 := antA_len (l := p.an.l.take q) fun a ha => a6 a (List.mem_of_mem_take ha)
     have d5 : (p.an.l.take q).length ≤ 6 := by rw [List.length_take]; omega
     have i3 : ∀ m : Sig, callL AP (.fn 28) [I a] m = some (S (tx (Lib.itoa a)), m) := fun m => b_Decimal ham.1 ham.2
     have s3 : arithOp .add (S y) (S ⟨#[43]⟩) = some (S (tx (pre ++ antA (p.an.l.take q) ++ [43]))) := by rw [hy]; exact ar_adds (b := [43]) (by simp only [List.length_append, List.length_singleton]; omega)
     have s4 : arithOp .add (S (tx (pre ++ antA (p.an.l.take q) ++ [43]))) (S (tx (Lib.itoa a))) = some (S (tx (pre ++ antA (p.an.l.take (q + 1))))) := by
      rw [ar_adds (by simp only [List.length_append, List.length_singleton]; omega), take_get ha, antA_app]
      simp [antA]
     have hwq := wrap_succ hq (show (p.an.l.length : Int) < _ by omega)
     have hlq : decide ((q : Int) < (p.an.l.length : Int)) = true := lt_dec hq
     obtain ⟨z3, hz3⟩ : ∃ z, tx (pre ++ antA (p.an.l.take q) ++ [43]) = z := ⟨_, rfl⟩
     obtain ⟨z4, hz4⟩ : ∃ z, tx (pre ++ antA (p.an.l.take (q + 1))) = z := ⟨_, rfl⟩
     rw [hz3] at s3 s4
     rw [hz4] at s4
     simp only [rowP, Sl.v] at hr hr2
     simp (maxSteps := 1000000) only [go_sem, b_r_FormatPlan_l1, g0, g3, g4, g5, hlq, hr, hr2, i3, s3, s4, hwq, Nat.reduceEqDiff, reduceCtorEq, Nat.reduceAdd, ↓reduceIte]
     refine ih2 _ _ ?_
     exact ⟨⟨z4, rfl, hz4.symm⟩, g0, g4, rfl, rfl⟩
    ·rintro ρ x ⟨⟨y, g3, hy⟩, g0, g4, g5, rfl⟩
     rw [List.take_length, ← hpe] at hy
     simp only [rowP, Sl.v] at hr
     simp (maxSteps := 1000000) only [go_sem, b_r_FormatPlan_l1, b_r_FormatPlan_r1, g0, g4, g5, ge_dec, hr, hwj, Nat.reduceEqDiff, reduceCtorEq, Nat.reduceAdd, ↓reduceIte]
     refine ih _ _ ?_
     exact ⟨g0, rfl, ⟨y, g3, hy⟩, rfl⟩
   have s0 : ∀ pre : List UInt8, pre.length ≤ 20200 → arithOp .add (S (tx pre)) (S (tx (Lib.itoa p.req))) = some (S (tx (pre ++ Lib.itoa p.req))) := fun pre h => ar_adds (by omega)
   have s1 : ∀ pre : List UInt8, pre.length ≤ 20200 → arithOp .add (S (tx (pre ++ Lib.itoa p.req))) (S ⟨#[64]⟩) = some (S (tx (pre ++ Lib.itoa p.req ++ [64]))) := fun pre h => ar_adds (b := [64]) (by simp only [List.length_append, List.length_singleton]; omega)
   have s2 : ∀ pre : List UInt8, pre.length ≤ 20200 → arithOp .add (S (tx (pre ++ Lib.itoa p.req ++ [64]))) (S (tx (Lib.itoa p.start))) = some (S (tx (pre ++ Lib.itoa p.req ++ [64] ++ Lib.itoa p.start))) := fun pre h => ar_adds (by simp only [List.length_append, List.length_singleton]; omega)
   simp only [rowP, Sl.v] at hr
   rcases hpos with ⟨hj0, hfe⟩ | ⟨hjp, hfe⟩
   ·have hy0 : y = tx [] := by rw [hy, hj0]; rfl
    have hd : decide ((0 : Int) < (j : Int)) = false := by simp only [decide_eq_false_iff_not]; omega
    have t0 := s0 [] (by simp)
    have t1 := s1 [] (by simp)
    have t2 := s2 [] (by simp)
    have hin := inner ([] ++ Lib.itoa p.req ++ [64] ++ Lib.itoa p.start) (by simp only [List.length_append, List.length_singleton, List.length_nil]; omega) (by rw [hfe]; simp [wordA]) 0
    rw [← hy0] at t0
    obtain ⟨z0, hz0⟩ : ∃ z, tx ([] ++ Lib.itoa p.req) = z := ⟨_, rfl⟩
    obtain ⟨z1, hz1⟩ : ∃ z, tx ([] ++ Lib.itoa p.req ++ [64]) = z := ⟨_, rfl⟩
    obtain ⟨z2, hz2⟩ : ∃ z, tx ([] ++ Lib.itoa p.req ++ [64] ++ Lib.itoa p.start) = z := ⟨_, rfl⟩
    rw [hz0] at t0 t1
    rw [hz1] at t1 t2
    rw [hz2] at t2
    simp (maxSteps := 1000000) only [go_sem, b_r_FormatPlan_l0, g0, g3, g4, lt_dec hj, hd, hr, i1, i2, t0, t1, t2, Nat.reduceEqDiff, reduceCtorEq, Nat.reduceAdd, ↓reduceIte]
    refine hin _ _ (Nat.zero_le _) ?_
    exact ⟨⟨z2, rfl, by rw [show p.an.l.take 0 = [] from rfl, antA, List.append_nil]; exact hz2.symm⟩, g0, g4, rfl, rfl⟩
   ·have hd : decide ((0 : Int) < (j : Int)) = true := by simp only [decide_eq_true_eq]; omega
    have tb : arithOp .add (S y) (S ⟨#[32]⟩) = some (S (tx (fmtUp (l.take j) ++ [32]))) := by rw [hy]; exact ar_adds (b := [32]) (by simp only [List.length_singleton]; omega)
    have hpl : (fmtUp (l.take j) ++ [32]).length ≤ 20200 := by simp only [List.length_append, List.length_singleton]; omega
    have t0 := s0 _ hpl
    have t1 := s1 _ hpl
    have t2 := s2 _ hpl
    have hll : (fmtUp (l.take j) ++ [32] ++ Lib.itoa p.req ++ [64] ++ Lib.itoa p.start).length ≤ 30000 := by
     rw [List.length_append, List.length_append, List.length_append (as := fmtUp (l.take j) ++ [32])]
     have : ([64] : List UInt8).length = 1 := rfl
     omega
    have hin := inner (fmtUp (l.take j) ++ [32] ++ Lib.itoa p.req ++ [64] ++ Lib.itoa p.start) hll (by rw [hfe]; simp [wordA]) 0
    generalize fmtUp (l.take j) ++ [32] = pre at *
    obtain ⟨zb, hzb⟩ : ∃ z, tx pre = z := ⟨_, rfl⟩
    obtain ⟨z0, hz0⟩ : ∃ z, tx (pre ++ Lib.itoa p.req) = z := ⟨_, rfl⟩
    obtain ⟨z1, hz1⟩ : ∃ z, tx (pre ++ Lib.itoa p.req ++ [64]) = z := ⟨_, rfl⟩
    obtain ⟨z2, hz2⟩ : ∃ z, tx (pre ++ Lib.itoa p.req ++ [64] ++ Lib.itoa p.start) = z := ⟨_, rfl⟩
    rw [hzb] at tb t0
    rw [hz0] at t0 t1
    rw [hz1] at t1 t2
    rw [hz2] at t2
    simp (maxSteps := 1000000) only [go_sem, b_r_FormatPlan_l0, g0, g3, g4, lt_dec hj, hd, hr, i1, i2, tb, t0, t1, t2, Nat.reduceEqDiff, reduceCtorEq, Nat.reduceAdd, ↓reduceIte]
    refine hin _ _ (Nat.zero_le _) ?_
    exact ⟨⟨z2, rfl, by rw [show p.an.l.take 0 = [] from rfl, antA, List.append_nil]; exact hz2.symm⟩, g0, g4, rfl, rfl⟩
  ·rintro ρ x ⟨g0, g4, ⟨y, g3, hy⟩, rfl⟩
   rw [List.take_length] at hy
   simp (maxSteps := 1000000) only [go_sem, b_r_FormatPlan_l0, b_r_FormatPlan_r0, g0, g3, g4, ge_dec, Nat.reduceEqDiff, reduceCtorEq, ↓reduceIte]
   rw [hy]
 rw [callL_go (show AP 11 = some c_r_FormatPlan from rfl) rfl]
 simp (maxSteps := 1000000) only [go_sem, b_r_FormatPlan]
 refine key 0 _ _ (Nat.zero_le _) ?_
 exact ⟨rfl, rfl, ⟨_, rfl, rfl⟩, rfl⟩
end
end Go.Ax.Sx.Sc

namespace Go.Ax.Sx.Sc
open Go.Ax
set_option linter.unusedSimpArgs false
set_option linter.unusedVariables false
set_option maxRecDepth 100000
def Sm (p : P) : Prop := (0 ≤ p.req ∧ p.req < 10000) ∧ (0 ≤ p.start ∧ p.start < 10000) ∧ ∀ a ∈ p.an.l, 0 ≤ a ∧ a < 10000
theorem itoa_dig {v : Int} (h0 : 0 ≤ v) : (Lib.itoa v).all isDig = true := by
 rw [Lib.itoa, if_neg (by omega)]; exact (dec_spec _).1
theorem itoa_not {v : Int} {c : UInt8} (h0 : 0 ≤ v) (hc : isDig c = false) : c ∉ Lib.itoa v := fun h => by
 rw [List.all_eq_true.1 (itoa_dig h0) c h] at hc; cases hc
theorem antA_not {c : UInt8} (hc : isDig c = false) (hc2 : c ≠ 43) : ∀ {l : List Int}, (∀ a ∈ l, 0 ≤ a ∧ a < 10000) → c ∉ antA l
 | [], _ => by simp [antA]
 | a :: r, h => by
  have h1 := antA_not hc hc2 (l := r) fun a ha => h a (List.mem_cons_of_mem _ ha)
  have h2 := itoa_not (h a (by simp)).1 hc
  rw [antA]
  intro hm
  rcases List.mem_append.1 hm with hm | hm
  ·rcases List.mem_cons.1 hm with hm | hm
   ·exact hc2 hm
   ·exact h2 hm
  ·exact h1 hm
theorem wordA_not {p : P} (h : Sm p) : (32 : UInt8) ∉ wordA p := by
 have h1 := itoa_not (c := 32) h.1.1 (by decide)
 have h2 := itoa_not (c := 32) h.2.1.1 (by decide)
 have h3 := antA_not (c := 32) (by decide) (by decide) h.2.2
 unfold wordA
 simp only [List.mem_append, List.mem_singleton, not_or]
 exact ⟨⟨⟨h1, by decide⟩, h2⟩, h3⟩
theorem splp_ants {l : List Int} : ∀ {pre : List UInt8}, (∀ a ∈ l, 0 ≤ a ∧ a < 10000) → splp 43 pre (antA l) = pre :: l.map Lib.itoa := by
 induction l with
 | nil => intro pre _; rw [antA, splp_end]; rfl
 | cons a r ih =>
  intro pre h
  have h2 := itoa_not (c := 43) (h a (by simp)).1 (by decide)
  rw [antA, List.cons_append, splp_hit, splp_notin h2, ih fun a ha => h a (List.mem_cons_of_mem _ ha)]
  rfl
theorem numsE_map : ∀ {l : List Int}, (∀ a ∈ l, 0 ≤ a ∧ a < 10000) → numsE (l.map Lib.itoa) = some l
 | [], _ => rfl
 | a :: r, h => by
  rw [List.map_cons, numsE, numE_small (h a (by simp)).1 (h a (by simp)).2, numsE_map fun a ha => h a (List.mem_cons_of_mem _ ha)]
theorem passW_word {p : P} (h : Sm p) : passW (wordA p) = some (mkPass p.req p.start p.an.l) := by
 have h1 := itoa_not (c := 43) h.1.1 (by decide)
 have h2 := itoa_not (c := 43) h.2.1.1 (by decide)
 have h3 : (43 : UInt8) ∉ Lib.itoa p.req ++ [64] ++ Lib.itoa p.start := by
  simp only [List.mem_append, List.mem_singleton, not_or]
  exact ⟨⟨h1, by decide⟩, h2⟩
 have e1 : spl 43 (wordA p) = (Lib.itoa p.req ++ [64] ++ Lib.itoa p.start) :: p.an.l.map Lib.itoa := by
  rw [wordA, ← splp_nil, splp_notin h3, List.nil_append, splp_ants h.2.2]
 have h4 := itoa_not (c := 64) h.1.1 (by decide)
 have h5 := itoa_not (c := 64) h.2.1.1 (by decide)
 have e2 : spl 64 (Lib.itoa p.req ++ [64] ++ Lib.itoa p.start) = [Lib.itoa p.req, Lib.itoa p.start] := by
  rw [List.append_assoc, ← splp_nil, splp_notin h4, List.cons_append, splp_hit, splp_nil, List.nil_append, List.nil_append, spl_notin h5]
 unfold passW
 rw [e1]
 show (match spl 64 (Lib.itoa p.req ++ [64] ++ Lib.itoa p.start) with | [a, b] => _ | _ => none) = _
 rw [e2]
 show (match numE (Lib.itoa p.req), numE (Lib.itoa p.start), numsE (p.an.l.map Lib.itoa) with | some q, some st, some as => some (mkPass q st as) | _, _, _ => none) = _
 rw [numE_small h.1.1 h.1.2, numE_small h.2.1.1 h.2.1.2, numsE_map h.2.2]
theorem splp_words : ∀ {r : List P} {pre : List UInt8}, (∀ p ∈ r, Sm p) → splp 32 pre ((r.map fun q => 32 :: wordA q).flatten) = pre :: r.map wordA
 | [], pre, _ => by rw [List.map_nil, List.flatten_nil, splp_end]; rfl
 | q :: r, pre, h => by
  rw [List.map_cons, List.flatten_cons, List.cons_append, splp_hit, splp_notin (wordA_not (h q (by simp))), splp_words fun p hp => h p (List.mem_cons_of_mem _ hp)]
  rfl
theorem passesE_words : ∀ {l : List P}, (∀ p ∈ l, Sm p) → passesE (l.map wordA) = some (l.map fun p => mkPass p.req p.start p.an.l)
 | [], _ => rfl
 | p :: r, h => by
  rw [List.map_cons, passesE, passW_word (h p (by simp)), passesE_words fun p hp => h p (List.mem_cons_of_mem _ hp)]; rfl
theorem kP_mk {p : P} : kP (mkPass p.req p.start p.an.l) = kP p := by
 show p.req :: p.start :: (acS 1 p.an.l).l = _
 rw [acS_l]; rfl
theorem parse_fmt {l : List P} (h : ∀ p ∈ l, Sm p) (hl : l.length ≤ 12) (hlen : (fmtA l).length ≤ 60000) : parseE (fmtA l) = (l.map fun p => mkPass p.req p.start p.an.l, 0) := by
 unfold parseE
 rw [if_neg (by omega)]
 cases l with
 | nil => rfl
 | cons p r =>
  have hne : fmtA (p :: r) ≠ [] := by
   rw [← fmtUp_eq, fmtUp, wordA]; simp
  rw [if_neg hne, ← fmtUp_eq, fmtUp, ← splp_nil, splp_notin (wordA_not (h p (by simp))), splp_words fun q hq => h q (List.mem_cons_of_mem _ hq), List.nil_append]
  rw [show wordA p :: r.map wordA = (p :: r).map wordA from rfl, passesE_words h, parsedE, if_neg (by rw [List.length_map]; omega)]
theorem parse_same {l : List P} : sameF (l.map fun p => mkPass p.req p.start p.an.l) l = true := by
 have := sameF_map (f := fun p : P => mkPass p.req p.start p.an.l) (g := id) (fun p => kP_mk) (l := l)
 rwa [List.map_id] at this
end Go.Ax.Sx.Sc

namespace Go.Ax.Sx.Sc
open Go.Ax
set_option linter.unusedSimpArgs false
set_option linter.unusedVariables false
set_option maxRecDepth 100000
section
variable {s : Sig} {w : W}
theorem numsE_len : ∀ {l : List (List UInt8)} {as : List Int}, numsE l = some as → as.length = l.length
 | [], as, h => by injection h with h; rw [← h]; rfl
 | x :: r, as, h => by
  simp only [numsE] at h
  split at h
  ·rename_i v t h1 h2
   injection h with h
   rw [← h, List.length_cons, List.length_cons, numsE_len h2]
  ·cases h
theorem passW_len {l : List UInt8} {p : P} (h : passW l = some p) : p.an.l.length ≤ l.length := by
 have hs := spl_len (c := 43) (l := l)
 unfold passW at h
 split at h
 ·cases h
 ·rename_i p0 ps e
  split at h
  ·split at h
   ·rename_i q st as h1 h2 h3
    injection h with h
    rw [← h]
    show (acS 1 as).l.length ≤ _
    rw [acS_l, numsE_len h3]
    rw [e, List.length_cons] at hs
    omega
   ·cases h
  ·cases h
theorem passesE_mem {p : P} : ∀ {l : List (List UInt8)} {ps : List P}, passesE l = some ps → p ∈ ps → ∃ x ∈ l, passW x = some p
 | [], ps, h, hp => by injection h with h; rw [← h] at hp; simp at hp
 | x :: r, ps, h, hp => by
  simp only [passesE] at h
  split at h
  ·rename_i v t h1 h2
   injection h with h
   rw [← h] at hp
   rcases List.mem_cons.1 hp with hp | hp
   ·exact ⟨x, by simp, by rw [h1, hp]⟩
   ·obtain ⟨y, hy, e⟩ := passesE_mem h2 hp
    exact ⟨y, List.mem_cons_of_mem _ hy, e⟩
  ·cases h
theorem parseE_sm {l : List UInt8} (hl : l.length ≤ 200 ∨ 60000 < l.length) : SmOk (parseE l).1 := by
 have hnil : SmOk ([] : List P) := ⟨by simp, fun p hp => by simp at hp⟩
 unfold parseE
 by_cases h6 : 60000 < l.length
 ·rw [if_pos h6]; exact hnil
 ·rw [if_neg h6]
  by_cases h0 : l = []
  ·rw [if_pos h0]; exact hnil
  ·rw [if_neg h0]
   cases hp : passesE (spl 32 l) with
   | none => exact hnil
   | some ps =>
    rw [parsedE]
    split
    ·exact hnil
    ·refine ⟨by show ps.length ≤ _; omega, fun p hpm => ?_⟩
     obtain ⟨x, hx, e⟩ := passesE_mem hp hpm
     have h1 := passW_len e
     have h2 := spl_sub (c := 32) x hx
     exact ⟨passW_ok e, by omega⟩
theorem tx_of {x : ByteArray} : tx x.data.toList = x := by
 apply ByteArray.ext
 simp [tx]
theorem passE_last {p : P} {l : List P} (h : passE w p l = 0) : lastR l < p.req := by
 unfold passE at h
 split at h
 ·split at h
  ·assumption
  ·cases h
 ·cases h
theorem plan_len {l : List P} (hwk : Wk w) (hP : PlOk l) (h : (chkE w l).2 = 0) : l.length ≤ 12 := by
 have hrl := hwk.v.rl
 have key : ∀ (j : Nat) x, l[j]? = some x → (j : Int) ≤ x.req := by
  intro j
  induction j with
  | zero => intro x hx; have := (chk_pin hwk hP h x (List.mem_of_getElem? hx)).r0; simpa using this
  | succ j ih =>
   intro x hx
   have hj : j < l.length := by have := (List.getElem?_eq_some_iff.1 hx).1; omega
   obtain ⟨y, hy⟩ := get_some hj
   have h1 := passE_last (chk_in hwk hP h (j + 1) x hx)
   have h2 : lastR (l.take (j + 1)) = y.req := by
    rw [take_get hy]
    simp [lastR]
   have := ih y hy
   omega
 by_cases h0 : l.length = 0
 ·omega
 ·obtain ⟨x, hx⟩ := get_some (l := l) (k := l.length - 1) (by omega)
  have h1 := key _ x hx
  have h2 := (chk_pin hwk hP h x (List.mem_of_getElem? hx)).r1
  omega
theorem l_ScheduleStrings {l : List P} {o : Own} {e : Nat} {x : ByteArray} (hs : Ok s) (hw : w.Ok) (hb : w.Big) (hl : PBig l) (hin : ∀ p ∈ l, In64 p.req ∧ In64 p.start ∧ ∀ a ∈ p.an.l, In64 a) (he : l = [] ∨ e = 3) : callL AP (.fn 3) [w.v, .slice o e (l.map rowP), S x] s = some (B true, s) := by
 have haw : ∀ r, callL AP (.fn 4) [] (s.push r) = some (B true, s.push r) := fun r => l_awake (hs.push r)
 have hfe : ∀ r, callL AP (.fn 5) [w.v] (s.push r) = some (B (fewB w), s.push r) := fun r => l_Few (hs.push r) hw hb
 have hsh : ∀ m : Sig, callL AP (.fn 6) [.slice o e (l.map rowP)] m = some (B (shortB l), m) := fun m => l_short hl he
 simp only [W.v, rowW, Sl.v] at hfe
 cases hf : fewB w with
 | false =>
  rw [hf] at hfe
  rw [callL_go (show AP 3 = some c_l_ScheduleStrings from rfl) rfl]
  simp (maxSteps := 1000000) only [go_sem, b_l_ScheduleStrings, haw, hfe, onBool_undef, W.v, rowW, Sl.v, Nat.reduceEqDiff, Nat.reduceAdd, ↓reduceIte]
 | true =>
 rw [hf] at hfe
 cases hf2 : shortB l with
 | false =>
  rw [hf2] at hsh
  rw [callL_go (show AP 3 = some c_l_ScheduleStrings from rfl) rfl]
  simp (maxSteps := 1000000) only [go_sem, b_l_ScheduleStrings, haw, hfe, hsh, onBool_undef, W.v, rowW, Sl.v, Nat.reduceEqDiff, Nat.reduceAdd, ↓reduceIte]
 | true =>
 rw [hf2] at hsh
 have hF := fewB_iff hf
 have hP := shortB_ok hl hf2
 obtain ⟨lx, rfl⟩ : ∃ lx, x = tx lx := ⟨x.data.toList, tx_of.symm⟩
 have hsz := tx_size (a := lx)
 by_cases h2 : 200 < lx.length ∧ lx.length ≤ 60000
 ·have d1 : decide ((200 : Int) < ((tx lx).size : Int)) = true := by rw [hsz]; simp only [decide_eq_true_eq]; omega
  have d2 : decide (((tx lx).size : Int) ≤ 60000) = true := by rw [hsz]; simp only [decide_eq_true_eq]; omega
  rw [callL_go (show AP 3 = some c_l_ScheduleStrings from rfl) rfl]
  simp (maxSteps := 1000000) only [go_sem, b_l_ScheduleStrings, haw, hfe, hsh, d1, d2, W.v, rowW, Sl.v, Nat.reduceEqDiff, Nat.reduceAdd, ↓reduceIte]
 by_cases h3 : 60010 < lx.length
 ·have d1 : decide ((200 : Int) < ((tx lx).size : Int)) = true := by rw [hsz]; simp only [decide_eq_true_eq]; omega
  have d2 : decide (((tx lx).size : Int) ≤ 60000) = false := by rw [hsz]; simp only [decide_eq_false_iff_not]; omega
  have d3 : decide ((60010 : Int) < ((tx lx).size : Int)) = true := by rw [hsz]; simp only [decide_eq_true_eq]; omega
  rw [callL_go (show AP 3 = some c_l_ScheduleStrings from rfl) rfl]
  simp (maxSteps := 1000000) only [go_sem, b_l_ScheduleStrings, haw, hfe, hsh, d1, d2, d3, W.v, rowW, Sl.v, Nat.reduceEqDiff, Nat.reduceAdd, ↓reduceIte]
 have d3 : decide ((60010 : Int) < ((tx lx).size : Int)) = false := by rw [hsz]; simp only [decide_eq_false_iff_not]; omega
 have hbig : ∀ p ∈ l, p.an.ok 1 ∧ Big p := fun p hp => ⟨(hP.ok p hp).1, (hin p hp).1, (hin p hp).2.1, (hP.ok p hp).2, (hin p hp).2.2⟩
 have hbigc : ∀ p ∈ l.map cP, p.an.ok 1 ∧ Big p := fun p hp => by
  obtain ⟨q, hq, rfl⟩ := List.mem_map.1 hp
  exact ⟨cpI_ok, (hbig q hq).2⟩
 have hfc : fmtA (l.map cP) = fmtA l := by
  unfold fmtA
  rw [List.map_map]; rfl
 have hlen := hP.len
 obtain ⟨x1, g1, tk1, hc1, hA1, _⟩ := r_Copy (o := o) (Q := s) (tk := []) hs hP he
 obtain ⟨o1, e1, rfl, he1⟩ := acc_val hA1
 have he1' : l.map cP = [] ∨ e1 = 3 := by rcases he1 with h | h; exact .inl (by simpa using h); exact .inr h
 have hft : ∀ r, callL AP (.fn 7) [.slice o1 e1 ((l.map cP).map rowP)] (s.push r) = some (S (tx (fmtA l)), s.push r) := fun r => by
  rw [s_FormatPlanA (hs.push r) he1' (by rw [List.length_map]; omega) hbigc, hfc]
 have hrt : ∀ r, callL AP (.fn 11) [.slice o e (l.map rowP)] (s.push r) = some (S (tx (fmtA l)), s.push r) := fun r => r_FormatPlanA (hs.push r) he (by omega) hbig
 have hps : ∀ r, callL AP (.fn 9) [S (tx lx)] (s.push r) = some (.tuple [accV 3 ((parseE lx).1.map rowP), I (parseE lx).2], s.push r) := fun r => s_ParsePlan (hs.push r) (by omega)
 have hpr : ∀ r, callL AP (.fn 10) [S (tx lx)] (s.push r) = some (.tuple [accV 3 ((parseE lx).1.map rowP), I (parseE lx).2], s.push r) := fun r => r_ParsePlan (hs.push r) (by omega)
 have hsm : SmOk (parseE lx).1 := parseE_sm (by omega)
 have hsame : ∀ r, callL AP (.fn 12) [accV 3 ((parseE lx).1.map rowP), accV 3 ((parseE lx).1.map rowP)] (s.push r) = some (B true, s.push r) := fun r => by
  have h3 : (parseE lx).1 = [] ∨ (acS 3 (parseE lx).1).e = 3 := by cases (parseE lx).1 <;> simp [acS]
  have hm := sameF_map (f := id) (g := id) (fun p => rfl) (l := (parseE lx).1)
  rw [List.map_id] at hm
  rw [← hm, acS_v, Sl.v, acS_l]
  exact r_Same (hs.push r) h3 h3 hsm hsm
 have hpe : ∀ r, callL AP (.fn 13) [w.v, .slice o e (l.map rowP)] (s.push r) = some (I (planE w l).2, s.push r) := fun r => r_PlanErr (hs.push r) hw hF hP he
 simp only [W.v, rowW, Sl.v] at hpe
 have dn : ∀ n : Int, decide (¬ n = n) = false := fun n => by simp
 have sne : ∀ z : ByteArray, decide (¬ z = z) = false := fun z => by simp
 obtain ⟨zt, hzt⟩ : ∃ z, tx (fmtA l) = z := ⟨_, rfl⟩
 have main : ∀ a : Bool, (decide ((200 : Int) < ((tx lx).size : Int)) = a) → (a = true → decide (((tx lx).size : Int) ≤ 60000) = false) → callL AP (.fn 3) [w.v, .slice o e (l.map rowP), S (tx lx)] s = some (B true, s) := by
  intro a ha ha2
  by_cases h0 : (planE w l).2 = 0
  ·have h1 : (weekE w).2.2 = 0 := by
    by_cases h : (weekE w).2.2 = 0
    ·exact h
    ·unfold planE at h0; rw [if_neg h] at h0; exact h0
   have hwk : Wk w := ⟨hw, hF, weekE_ok h1⟩
   have h2 : (chkE w l).2 = 0 := by unfold planE at h0; rw [if_pos h1] at h0; exact h0
   have hpin := chk_pin hwk hP h2
   have hrl := hwk.v.rl
   have hal := hwk.v.al
   have hl12 : l.length ≤ 12 := plan_len hwk hP h2
   have hsmall : ∀ p ∈ l, Sm p := fun p hp => by
    have := hpin p hp
    exact ⟨⟨this.r0, by have := this.r1; omega⟩, ⟨this.s0, by have := this.s1; omega⟩, fun a ha => ⟨(this.an a ha).1, by have := (this.an a ha).2; omega⟩⟩
   have hfl : (fmtA l).length ≤ 60000 := by
    rw [← fmtUp_eq]
    have := fmtUp_len (l := l) fun p hp => (hbig p hp).2
    omega
   have hpt : ∀ r, callL AP (.fn 9) [S zt] (s.push r) = some (.tuple [accV 3 ((l.map fun p => mkPass p.req p.start p.an.l).map rowP), I 0], s.push r) := fun r => by
    rw [← hzt, s_ParsePlan (hs.push r) (by omega), parse_fmt hsmall hl12 hfl]
   have hsm1 : SmOk l := ⟨by omega, fun p hp => ⟨(hP.ok p hp).1, by have := (hP.ok p hp).2; omega⟩⟩
   have hsm2 : SmOk (l.map fun p => mkPass p.req p.start p.an.l) := ⟨by rw [List.length_map]; omega, fun p hp => by
    obtain ⟨q, hq, rfl⟩ := List.mem_map.1 hp
    refine ⟨acS_ok, ?_⟩
    show (acS 1 q.an.l).l.length ≤ _
    rw [acS_l]
    have := (hP.ok q hq).2; omega⟩
   have hsame2 : ∀ r, callL AP (.fn 12) [accV 3 ((l.map fun p => mkPass p.req p.start p.an.l).map rowP), .slice o e (l.map rowP)] (s.push r) = some (B true, s.push r) := fun r => by
    have h3 : (l.map fun p => mkPass p.req p.start p.an.l) = [] ∨ (acS 3 (l.map fun p => mkPass p.req p.start p.an.l)).e = 3 := by cases l <;> simp [acS]
    rw [← parse_same (l := l), acS_v, Sl.v, acS_l]
    exact r_Same (hs.push r) h3 he hsm2 hsm1
   rw [h0] at hpe
   rw [hzt] at hft hrt
   generalize accV 3 ((parseE lx).1.map rowP) = pv at *
   generalize accV 3 ((l.map fun p => mkPass p.req p.start p.an.l).map rowP) = pw at *
   cases a with
   | true =>
    have hb2 := ha2 rfl
    rw [callL_go (show AP 3 = some c_l_ScheduleStrings from rfl) rfl]
    simp (maxSteps := 1000000) only [go_sem, b_l_ScheduleStrings, haw, hfe, hsh, ha, hb2, d3, hc1, hft, hrt, hps, hpr, hsame, hpe, hpt, hsame2, W.v, rowW, Sl.v, ne_eq, not_true, decide_false, cond_false, Nat.reduceEqDiff, Nat.reduceAdd, ↓reduceIte]
   | false =>
    rw [callL_go (show AP 3 = some c_l_ScheduleStrings from rfl) rfl]
    simp (maxSteps := 1000000) only [go_sem, b_l_ScheduleStrings, haw, hfe, hsh, ha, d3, hc1, hft, hrt, hps, hpr, hsame, hpe, hpt, hsame2, W.v, rowW, Sl.v, ne_eq, not_true, decide_false, cond_false, Nat.reduceEqDiff, Nat.reduceAdd, ↓reduceIte]
  ·have hd0 : decide (¬ (planE w l).2 = 0) = true := by simp [h0]
   rw [hzt] at hft hrt
   generalize accV 3 ((parseE lx).1.map rowP) = pv at *
   cases a with
   | true =>
    have hb2 := ha2 rfl
    rw [callL_go (show AP 3 = some c_l_ScheduleStrings from rfl) rfl]
    simp (maxSteps := 1000000) only [go_sem, b_l_ScheduleStrings, haw, hfe, hsh, ha, hb2, d3, hc1, hft, hrt, hps, hpr, hsame, hpe, hd0, W.v, rowW, Sl.v, ne_eq, not_true, decide_false, cond_false, Nat.reduceEqDiff, Nat.reduceAdd, ↓reduceIte]
   | false =>
    rw [callL_go (show AP 3 = some c_l_ScheduleStrings from rfl) rfl]
    simp (maxSteps := 1000000) only [go_sem, b_l_ScheduleStrings, haw, hfe, hsh, ha, d3, hc1, hft, hrt, hps, hpr, hsame, hpe, hd0, W.v, rowW, Sl.v, ne_eq, not_true, decide_false, cond_false, Nat.reduceEqDiff, Nat.reduceAdd, ↓reduceIte]
 exact main _ rfl fun h => by
  simp only [decide_eq_true_eq] at h
  simp only [decide_eq_false_iff_not]
  rw [hsz] at h ⊢
  omega
end
end Go.Ax.Sx.Sc

namespace Go.Ax.Sx.Sc
open Go.Ax
section
variable {P : Program} {d : Nat}
def Flds (P : Program) (t : TypeId) (ts : List TypeId) : Prop := ∃ fs : Array Field, P.underlying t = some (.struct fs) ∧ fs.toList.map (·.type) = ts
theorem shp_flds {t : TypeId} {ts : List TypeId} {avs : List AV} (hf : Flds P t ts) (h : Shp P (d + 1) t avs) :
  ∃ ps : List (List AV), avs = ps.flatten ∧ ps.length = ts.length ∧ ∀ (i : Nat) (u : TypeId) (p : List AV), ts[i]? = some u → ps[i]? = some p → Shp P d u p := by
 obtain ⟨fs, hu, rfl⟩ := hf
 obtain ⟨ps, h1, h2, h3⟩ := shp_struct hu h
 refine ⟨ps, h1, by simp [h2], fun i u p hi hp => ?_⟩
 rw [List.getElem?_map] at hi
 obtain ⟨f, hf, rfl⟩ := Option.map_eq_some_iff.1 hi
 exact h3 i f p (by simpa using hf) hp
structure WkT (P : Program) (ti ts tg tgs tis ta tas tr trs tw : TypeId) : Prop where
 i : P.underlying ti = some (.int .i64)
 s : P.underlying ts = some .string
 g : Flds P tg [ti, ti]
 gs : P.underlying tgs = some (.slice tg)
 gc : P.cellsOf tg = 2
 is : P.underlying tis = some (.slice ti)
 ic : P.cellsOf ti = 1
 a : Flds P ta [ts, ti, tgs]
 sa : P.underlying tas = some (.slice ta)
 ac : P.cellsOf ta = 3
 r : Flds P tr [ts, tg, ti, ti, tis, ti]
 sr : P.underlying trs = some (.slice tr)
 rc : P.cellsOf tr = 7
 w : Flds P tw [ti, tas, trs]
variable {ti ts tg tgs tis ta tas tr trs tw : TypeId}
theorem maxLen_lt {n : Nat} (h : n ≤ maxLen) : (n : Int) < 9223372036854775808 := by unfold maxLen at h; omega
theorem shp_rng (T : WkT P ti ts tg tgs tis ta tas tr trs tw) {avs : List AV} (h : Shp P (d + 2) tg avs) : ∃ x : Int × Int, avs = rowG x ∧ True := by
 obtain ⟨ps, rfl, hl, hp⟩ := shp_flds T.g h
 match ps, hl, hp with
 | [p0, p1], _, hp =>
  obtain ⟨a, rfl, _⟩ := shp_int T.i (hp 0 _ p0 rfl rfl)
  obtain ⟨b, rfl, _⟩ := shp_int T.i (hp 1 _ p1 rfl rfl)
  exact ⟨(a, b), rfl, trivial⟩
theorem own_ok {o : Own} {rows : List (List AV)} (h : o = .any ∨ (o = .nilS ∧ rows = [])) : o = .any ∨ (o = .nilS ∧ rows = []) := h
theorem shp_ints (T : WkT P ti ts tg tgs tis ta tas tr trs tw) {avs : List AV} (h : Shp P (d + 2) tis avs) : ∃ x : Sl Int, avs = [x.v rowI] ∧ x.ok 1 ∧ (x.l.length : Int) < 9223372036854775808 := by
 obtain ⟨o, rows, rfl, ho, hlen, hrows⟩ := shp_slice T.is h
 obtain ⟨l, rfl, _⟩ := rows_eq (f := rowI) (g := fun _ => True) (fun r hr => by
  obtain ⟨x, hx, _⟩ := shp_int T.i (hrows r hr)
  exact ⟨x, hx, trivial⟩)
 rw [List.length_map] at hlen
 rw [T.ic]
 refine ⟨⟨o, 1, l⟩, rfl, ?_, maxLen_lt hlen⟩
 rcases ho with rfl | ⟨rfl, h⟩
 ·exact ⟨.inr rfl, .inl rfl⟩
 ·exact ⟨.inr rfl, .inr (.inr ⟨rfl, List.map_eq_nil_iff.1 (by assumption)⟩)⟩
theorem shp_rngs (T : WkT P ti ts tg tgs tis ta tas tr trs tw) {avs : List AV} (h : Shp P (d + 3) tgs avs) : ∃ x : Sl (Int × Int), avs = [x.v rowG] ∧ x.ok 2 ∧ (x.l.length : Int) < 9223372036854775808 := by
 obtain ⟨o, rows, rfl, ho, hlen, hrows⟩ := shp_slice T.gs h
 obtain ⟨l, rfl, _⟩ := rows_eq (f := rowG) (g := fun _ => True) (fun r hr => shp_rng T (hrows r hr))
 rw [List.length_map] at hlen
 rw [T.gc]
 refine ⟨⟨o, 2, l⟩, rfl, ?_, maxLen_lt hlen⟩
 rcases ho with rfl | ⟨rfl, h⟩
 ·exact ⟨.inr rfl, .inl rfl⟩
 ·exact ⟨.inr rfl, .inr (.inr ⟨rfl, List.map_eq_nil_iff.1 (by assumption)⟩)⟩
theorem shp_ant (T : WkT P ti ts tg tgs tis ta tas tr trs tw) {avs : List AV} (h : Shp P (d + 4) ta avs) :
  ∃ a : A, avs = rowA a ∧ (a.cl.ok 2 ∧ (a.name.size : Int) < 9223372036854775808 ∧ (a.cl.l.length : Int) < 9223372036854775808) := by
 obtain ⟨ps, rfl, hl, hp⟩ := shp_flds T.a h
 match ps, hl, hp with
 | [p0, p1, p2], _, hp =>
  obtain ⟨n, rfl, hn⟩ := shp_str T.s (hp 0 _ p0 rfl rfl)
  obtain ⟨b, rfl, _⟩ := shp_int T.i (hp 1 _ p1 rfl rfl)
  obtain ⟨c, rfl, hc, hcl⟩ := shp_rngs T (hp 2 _ p2 rfl rfl)
  exact ⟨⟨n, b, c⟩, rfl, hc, maxLen_lt hn, hcl⟩
theorem shp_req (T : WkT P ti ts tg tgs tis ta tas tr trs tw) {avs : List AV} (h : Shp P (d + 4) tr avs) :
  ∃ r : R, avs = rowR r ∧ (r.an.ok 1 ∧ (r.mis.size : Int) < 9223372036854775808 ∧ (r.an.l.length : Int) < 9223372036854775808) := by
 obtain ⟨ps, rfl, hl, hp⟩ := shp_flds T.r h
 match ps, hl, hp with
 | [p0, p1, p2, p3, p4, p5], _, hp =>
  obtain ⟨n, rfl, hn⟩ := shp_str T.s (hp 0 _ p0 rfl rfl)
  obtain ⟨g, rfl, _⟩ := shp_rng T (hp 1 _ p1 rfl rfl)
  obtain ⟨b, rfl, _⟩ := shp_int T.i (hp 2 _ p2 rfl rfl)
  obtain ⟨c, rfl, _⟩ := shp_int T.i (hp 3 _ p3 rfl rfl)
  obtain ⟨x, rfl, hx, hxl⟩ := shp_ints T (hp 4 _ p4 rfl rfl)
  obtain ⟨e, rfl, _⟩ := shp_int T.i (hp 5 _ p5 rfl rfl)
  exact ⟨⟨n, g.1, g.2, b, c, x, e⟩, rfl, hx, maxLen_lt hn, hxl⟩
theorem shp_week (T : WkT P ti ts tg tgs tis ta tas tr trs tw) {avs : List AV} (h : Shp P (d + 6) tw avs) : ∃ w : W, AV.agg avs = w.v ∧ w.Ok ∧ w.Big := by
 obtain ⟨ps, rfl, hl, hp⟩ := shp_flds T.w h
 match ps, hl, hp with
 | [p0, p1, p2], _, hp =>
  obtain ⟨n, rfl, _⟩ := shp_int T.i (hp 0 _ p0 rfl rfl)
  obtain ⟨o1, r1, rfl, ho1, hl1, hr1⟩ := shp_slice T.sa (hp 1 _ p1 rfl rfl)
  obtain ⟨o2, r2, rfl, ho2, hl2, hr2⟩ := shp_slice T.sr (hp 2 _ p2 rfl rfl)
  obtain ⟨as, rfl, has⟩ := rows_eq (fun r hr => shp_ant T (hr1 r hr))
  obtain ⟨rs, rfl, hrs⟩ := rows_eq (fun r hr => shp_req T (hr2 r hr))
  rw [List.length_map] at hl1 hl2
  rw [T.ac, T.rc]
  refine ⟨⟨n, ⟨o1, 3, as⟩, ⟨o2, 7, rs⟩⟩, rfl, ⟨?_, fun a ha => (has a ha).1, ?_, fun r hr => (hrs r hr).1⟩, ⟨maxLen_lt hl1, maxLen_lt hl2, fun a ha => (has a ha).2.1, fun a ha => (has a ha).2.2, fun r hr => (hrs r hr).2.1, fun r hr => (hrs r hr).2.2⟩⟩
  ·rcases ho1 with rfl | ⟨rfl, h⟩
   ·exact ⟨.inr rfl, .inl rfl⟩
   ·exact ⟨.inr rfl, .inr (.inr ⟨rfl, List.map_eq_nil_iff.1 (by assumption)⟩)⟩
  ·rcases ho2 with rfl | ⟨rfl, h⟩
   ·exact ⟨.inr rfl, .inl rfl⟩
   ·exact ⟨.inr rfl, .inr (.inr ⟨rfl, List.map_eq_nil_iff.1 (by assumption)⟩)⟩
end
end Go.Ax.Sx.Sc

/-
  What a plan is among the values that an argument may read as.
-/
namespace Go.Ax.Sx.Sc
open Go.Ax
section
variable {P : Program} {d : Nat} {ti tis tp tps : TypeId}
structure PlT (P : Program) (ti tis tp tps : TypeId) : Prop where
 i : P.underlying ti = some (.int .i64)
 ic : P.cellsOf ti = 1
 is : P.underlying tis = some (.slice ti)
 p : Flds P tp [ti, ti, tis]
 ps : P.underlying tps = some (.slice tp)
 pc : P.cellsOf tp = 3
theorem shp_ints2 (T : PlT P ti tis tp tps) {avs : List AV} (h : Shp P (d + 2) tis avs) : ∃ x : Sl Int, avs = [x.v rowI] ∧ x.ok 1 ∧ (x.l.length : Int) < 9223372036854775808 := by
 obtain ⟨o, rows, rfl, ho, hlen, hrows⟩ := shp_slice T.is h
 obtain ⟨l, rfl, _⟩ := rows_eq (f := rowI) (g := fun _ => True) (fun r hr => by
  obtain ⟨x, hx, _⟩ := shp_int T.i (hrows r hr)
  exact ⟨x, hx, trivial⟩)
 rw [List.length_map] at hlen
 rw [T.ic]
 refine ⟨⟨o, 1, l⟩, rfl, ?_, maxLen_lt hlen⟩
 rcases ho with rfl | ⟨rfl, h⟩
 ·exact ⟨.inr rfl, .inl rfl⟩
 ·exact ⟨.inr rfl, .inr (.inr ⟨rfl, List.map_eq_nil_iff.1 (by assumption)⟩)⟩
theorem shp_pass (T : PlT P ti tis tp tps) {avs : List AV} (h : Shp P (d + 4) tp avs) : ∃ p : Sc.P, avs = rowP p ∧ (p.an.ok 1 ∧ (p.an.l.length : Int) < 9223372036854775808) := by
 obtain ⟨ps, rfl, hl, hp⟩ := shp_flds T.p h
 match ps, hl, hp with
 | [p0, p1, p2], _, hp =>
  obtain ⟨a, rfl, _⟩ := shp_int T.i (hp 0 _ p0 rfl rfl)
  obtain ⟨b, rfl, _⟩ := shp_int T.i (hp 1 _ p1 rfl rfl)
  obtain ⟨x, rfl, hx, hxl⟩ := shp_ints2 T (hp 2 _ p2 rfl rfl)
  exact ⟨⟨a, b, x⟩, rfl, hx, hxl⟩
theorem shp_plan (T : PlT P ti tis tp tps) {avs : List AV} (h : Shp P (d + 5) tps avs) : ∃ (l : List Sc.P) (o : Own) (e : Nat), avs = [.slice o e (l.map rowP)] ∧ e = 3 ∧ PBig l := by
 obtain ⟨o, rows, rfl, ho, hlen, hrows⟩ := shp_slice T.ps h
 obtain ⟨l, rfl, hr⟩ := rows_eq (fun r hr => shp_pass T (hrows r hr))
 rw [List.length_map] at hlen
 rw [T.pc]
 exact ⟨l, o, 3, rfl, rfl, ⟨maxLen_lt hlen, fun p hp => (hr p hp).1, fun p hp => (hr p hp).2⟩⟩
theorem shp_pair (T : PlT P ti tis tp tps) {tpp : TypeId} (hf : Flds P tpp [tps, tps]) {avs : List AV} (h : Shp P (d + 6) tpp avs) :
  ∃ (a b : List Sc.P) (o1 o2 : Own), AV.agg avs = .agg [.slice o1 3 (a.map rowP), .slice o2 3 (b.map rowP)] ∧ PBig a ∧ PBig b := by
 obtain ⟨ps, rfl, hl, hp⟩ := shp_flds hf h
 match ps, hl, hp with
 | [p0, p1], _, hp =>
  obtain ⟨a, o1, e1, rfl, rfl, ha⟩ := shp_plan T (hp 0 _ p0 rfl rfl)
  obtain ⟨b, o2, e2, rfl, rfl, hb⟩ := shp_plan T (hp 1 _ p1 rfl rfl)
  exact ⟨a, b, o1, o2, rfl, ha, hb⟩
end
end Go.Ax.Sx.Sc

/-
  A plan with numbers of any size, among the values that an argument may read as.
-/
namespace Go.Ax.Sx.Sc
open Go.Ax
section
variable {P : Program} {d : Nat} {ti tis tp tps : TypeId}
theorem in64 {x : Int} (h : inI x) : In64 x := by unfold inI at h; unfold In64; omega
theorem shp_intsA (T : PlT P ti tis tp tps) {avs : List AV} (h : Shp P (d + 2) tis avs) : ∃ x : Sl Int, avs = [x.v rowI] ∧ x.ok 1 ∧ (x.l.length : Int) < 9223372036854775808 ∧ ∀ a ∈ x.l, In64 a := by
 obtain ⟨o, rows, rfl, ho, hlen, hrows⟩ := shp_slice T.is h
 obtain ⟨l, rfl, hin⟩ := rows_eq (f := rowI) (g := In64) (fun r hr => by
  obtain ⟨x, hx, h⟩ := shp_int T.i (hrows r hr)
  exact ⟨x, hx, in64 h⟩)
 rw [List.length_map] at hlen
 rw [T.ic]
 refine ⟨⟨o, 1, l⟩, rfl, ?_, maxLen_lt hlen, hin⟩
 rcases ho with rfl | ⟨rfl, h⟩
 ·exact ⟨.inr rfl, .inl rfl⟩
 ·exact ⟨.inr rfl, .inr (.inr ⟨rfl, List.map_eq_nil_iff.1 (by assumption)⟩)⟩
theorem shp_passA (T : PlT P ti tis tp tps) {avs : List AV} (h : Shp P (d + 4) tp avs) : ∃ p : Sc.P, avs = rowP p ∧ (p.an.ok 1 ∧ (p.an.l.length : Int) < 9223372036854775808 ∧ In64 p.req ∧ In64 p.start ∧ ∀ a ∈ p.an.l, In64 a) := by
 obtain ⟨ps, rfl, hl, hp⟩ := shp_flds T.p h
 match ps, hl, hp with
 | [p0, p1, p2], _, hp =>
  obtain ⟨a, rfl, ha⟩ := shp_int T.i (hp 0 _ p0 rfl rfl)
  obtain ⟨b, rfl, hb⟩ := shp_int T.i (hp 1 _ p1 rfl rfl)
  obtain ⟨x, rfl, hx, hxl, hxi⟩ := shp_intsA T (hp 2 _ p2 rfl rfl)
  exact ⟨⟨a, b, x⟩, rfl, hx, hxl, in64 ha, in64 hb, hxi⟩
theorem shp_planA (T : PlT P ti tis tp tps) {avs : List AV} (h : Shp P (d + 5) tps avs) : ∃ (l : List Sc.P) (o : Own) (e : Nat), avs = [.slice o e (l.map rowP)] ∧ e = 3 ∧ PBig l ∧ ∀ p ∈ l, In64 p.req ∧ In64 p.start ∧ ∀ a ∈ p.an.l, In64 a := by
 obtain ⟨o, rows, rfl, ho, hlen, hrows⟩ := shp_slice T.ps h
 obtain ⟨l, rfl, hr⟩ := rows_eq (fun r hr => shp_passA T (hrows r hr))
 rw [List.length_map] at hlen
 rw [T.pc]
 exact ⟨l, o, 3, rfl, rfl, ⟨maxLen_lt hlen, fun p hp => (hr p hp).1, fun p hp => (hr p hp).2.1⟩, fun p hp => (hr p hp).2.2⟩
end
end Go.Ax.Sx.Sc
