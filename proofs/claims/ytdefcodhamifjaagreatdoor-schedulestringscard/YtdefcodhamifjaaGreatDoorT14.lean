/- A part of the proof. -/
import Derived.Test.YtdefcodhamifjaaGreatDoorT13
namespace Go.Ax.Sx.Sc
open Go.Ax
set_option linter.unusedSimpArgs false
set_option linter.unusedVariables false
set_option maxRecDepth 100000
section
variable {s : Sig} {w : W}
theorem tx_list {l : List UInt8} : (tx l).data.toList = l := by simp [tx]
theorem tx_inj {a b : List UInt8} (h : tx a = tx b) : a = b := by
 have := congrArg (fun x : ByteArray => x.data.toList) h
 simpa [tx_list] using this
theorem itoaA {n : Int} (h0 : -9223372036854775808 ≤ n) (h1 : n ≤ 9223372036854775807) : callL AP (.fn 18) [I n] s = some (S (tx (Lib.itoa n)), s) := by
 rw [callL_prim (show AP 18 = some pItoaA from rfl)]
 simp only [closeAll_cons, closeAll_nil, close_int, Option.bind_some, Option.map_some, itoaAF]
 by_cases h : 0 ≤ n ∧ n < 100
 ·rw [if_pos h, dig2_itoa h.1 h.2]; rfl
 ·rw [if_neg h, if_pos ⟨h0, h1⟩]; rfl
theorem atoi_ok {l : List UInt8} {v : Int} (hl : l.length ≤ 1000000) (h : Lib.atoiAll l = .ok v) : callL AP (.fn 45) [S (tx l)] s = some (.tuple [I v, .v .nilIface], s) := by
 rw [callL_prim (show AP 45 = some pAtoi from rfl)]
 simp only [closeAll_cons, closeAll_nil, close_str, Option.bind_some, Option.map_some, atoiF]
 rw [if_pos (by rw [tx_size]; exact hl), tx_list, h]; rfl
theorem atoi_no {l : List UInt8} (hl : l.length ≤ 1000000) (h : ∀ v, Lib.atoiAll l ≠ .ok v) : ∃ n, callL AP (.fn 45) [S (tx l)] s = some (.tuple [I n, .opq], s) := by
 rw [callL_prim (show AP 45 = some pAtoi from rfl)]
 simp only [closeAll_cons, closeAll_nil, close_str, Option.bind_some, Option.map_some, atoiF]
 rw [if_pos (by rw [tx_size]; exact hl), tx_list]
 cases e : Lib.atoiAll l
 ·exact absurd e (h _)
 ·exact ⟨_, rfl⟩
 ·exact ⟨_, rfl⟩
theorem b_Size {n : Int} (h0 : -9223372036854775808 < n) (h1 : n ≤ 9223372036854775807) : callL AP (.fn 48) [I n] s = some (I (if 0 ≤ n then n else -n), s) := by
 rw [callL_go (show AP 48 = some c_b_Size from rfl) rfl]
 have hw : IntKind.i64.wrap (-n) = -n := by rw [wrap_id] <;> omega
 have hm : (if 0 ≤ n then n else -n) = max n (-n) := by split <;> omega
 rw [hm]
 simp (maxSteps := 1000000) only [go_sem, b_b_Size, hw, Nat.reduceEqDiff, reduceCtorEq, ↓reduceIte]
def dd (u : Nat) : List UInt8 := if u = 0 then [] else Lib.decDigits u
theorem dd_step {u : Nat} (h : u ≠ 0) : dd u = dd (u / 10) ++ [UInt8.ofNat (48 + u % 10)] := by
 unfold dd
 rw [if_neg h, Lib.decDigits]
 by_cases hu : u < 10
 ·rw [dif_pos hu, if_pos (by omega), Nat.mod_eq_of_lt hu]; rfl
 ·rw [dif_neg hu, if_neg (by omega)]
theorem b_Decimal {n : Int} (h0 : -9223372036854775808 ≤ n) (h1 : n ≤ 9223372036854775807) : callL AP (.fn 28) [I n] s = some (S (tx (Lib.itoa n)), s) := by
 have key : ∀ (k : Nat) (m : Int) (ρ : Nat → AV) (acc : List UInt8), m.natAbs < 10 ^ k → -9223372036854775808 ≤ m → m ≤ 9223372036854775807 → ρ 0 = I m → (∃ y, ρ 3 = S y ∧ y = tx acc) → (∃ z, ρ 4 = S z ∧ z = tx (if n < 0 then [45] else [])) → acc.length + k ≤ 30 →
   go AP f_b_Decimal (.c (.loop b_b_Decimal_l0) :: k_b_Decimal_0) ⟨ρ, s.push ⟨[], []⟩⟩ = some (S (tx ((if n < 0 then [45] else []) ++ dd m.natAbs ++ acc)), s) := by
  intro k
  induction k with
  | zero =>
   rintro m ρ acc hm m0 m1 g0 ⟨y, g3, hy⟩ ⟨z, g4, hz⟩ hk
   have : m = 0 := by simp at hm; omega
   subst this
   have hadd : arithOp .add (S z) (S y) = some (S (tx ((if n < 0 then [45] else []) ++ acc))) := by rw [hz, hy]; exact ar_adds (by split <;> simp <;> omega)
   rw [go_loop]
   simp (maxSteps := 1000000) only [go_sem, b_b_Decimal_l0, b_b_Decimal_r0, g0, g3, g4, hadd, ne_eq, not_true, decide_false, Nat.reduceEqDiff, ↓reduceIte]
   simp [dd]
  | succ k ih =>
   rintro m ρ acc hm m0 m1 g0 ⟨y, g3, hy⟩ ⟨z, g4, hz⟩ hk
   by_cases hm0 : m = 0
   ·subst hm0
    have hadd : arithOp .add (S z) (S y) = some (S (tx ((if n < 0 then [45] else []) ++ acc))) := by rw [hz, hy]; exact ar_adds (by split <;> simp <;> omega)
    rw [go_loop]
    simp (maxSteps := 1000000) only [go_sem, b_b_Decimal_l0, b_b_Decimal_r0, g0, g3, g4, hadd, ne_eq, not_true, decide_false, Nat.reduceEqDiff, ↓reduceIte]
    simp [dd]
   ·have hd : decide (¬ m = 0) = true := by simp [hm0]
    have hmod : (m.tmod 10).natAbs = m.natAbs % 10 := by rw [Int.natAbs_tmod]; rfl
    have hdiv : (m.tdiv 10).natAbs = m.natAbs / 10 := by rw [Int.natAbs_tdiv]; rfl
    have hml : m.natAbs % 10 < 10 := Nat.mod_lt _ (by decide)
    have hsz : ∀ q : Sig, callL AP (.fn 48) [I (m.tmod 10)] q = some (I ((m.natAbs % 10 : Nat) : Int), q) := fun q => by
     rw [b_Size (by omega) (by omega)]
     congr 3
     split <;> omega
    have w1 : IntKind.i64.wrap (48 + ((m.natAbs % 10 : Nat) : Int)) = 48 + ((m.natAbs % 10 : Nat) : Int) := by rw [wrap_id] <;> omega
    have w2 : IntKind.u8.wrap (48 + ((m.natAbs % 10 : Nat) : Int)) = ((48 + m.natAbs % 10 : Nat) : Int) := by
     have : (48 + ((m.natAbs % 10 : Nat) : Int)) = ((48 + m.natAbs % 10 : Nat) : Int) := by omega
     rw [this]
     show _ % 256 = _
     omega
    have w3 : IntKind.i64.wrap (m.tdiv 10) = m.tdiv 10 := by rw [wrap_id] <;> omega
    have ht : convOp .text (.slice .full 1 [[.v (.int .u8 ((48 + m.natAbs % 10 : Nat) : Int))]]) = some (S (tx [UInt8.ofNat (48 + m.natAbs % 10)])) := by
     show (bytesOf _).map _ = _
     simp only [bytesOf, byteOf]
     rw [if_pos ⟨by omega, by omega⟩]
     simp only [Option.map_some, Int.toNat_natCast]; rfl
    have hadd : arithOp .add (S (tx [UInt8.ofNat (48 + m.natAbs % 10)])) (S y) = some (S (tx (UInt8.ofNat (48 + m.natAbs % 10) :: acc))) := by rw [hy]; exact ar_adds (by simp; omega)
    rw [go_loop]
    have hq := ar_quo (a := m) (b := 10) rfl
    have hr := ar_rem (a := m) (b := 10) rfl
    obtain ⟨z1, hz1⟩ : ∃ z, tx [UInt8.ofNat (48 + m.natAbs % 10)] = z := ⟨_, rfl⟩
    obtain ⟨z2, hz2⟩ : ∃ z, tx (UInt8.ofNat (48 + m.natAbs % 10) :: acc) = z := ⟨_, rfl⟩
    rw [hz1] at ht hadd
    rw [hz2] at hadd
    simp (maxSteps := 1000000) only [go_sem, b_b_Decimal_l0, g0, g3, hd, ne_eq, hq, hr, hsz, w1, w2, w3, ht, hadd, Nat.reduceEqDiff, reduceCtorEq, ↓reduceIte]
    refine (ih (m.tdiv 10) _ (UInt8.ofNat (48 + m.natAbs % 10) :: acc) (by rw [hdiv]; rw [Nat.pow_succ] at hm; omega) (by omega) (by omega) ?_ ?_ ?_ (by simp; omega)).trans ?_
    ·rfl
    ·exact ⟨z2, rfl, hz2.symm⟩
    ·exact ⟨z, g4, hz⟩
    ·rw [hdiv, dd_step (u := m.natAbs) (by omega)]
     simp
 rw [callL_go (show AP 28 = some c_b_Decimal from rfl) rfl]
 by_cases hn : n = 0
 ·subst hn
  simp (maxSteps := 1000000) only [go_sem, b_b_Decimal, reduceCtorEq, ↓reduceIte]
  rw [Lib.itoa, if_neg (by decide)]
  rw [show (0 : Int).toNat = 0 from rfl, Lib.decDigits, dif_pos (by decide)]; rfl
 ·have hd : decide (n = 0) = false := by simp [hn]
  have hf : (if n < 0 then [45] else []) ++ dd n.natAbs ++ [] = Lib.itoa n := by
   have hn2 : ¬ n.natAbs = 0 := by omega
   rw [List.append_nil, Lib.itoa, dd, if_neg hn2]
   by_cases hneg : n < 0
   ·rw [if_pos hneg, if_pos hneg]; rfl
   ·rw [if_neg hneg, if_neg hneg, show n.natAbs = n.toNat by omega]; rfl
  have hp : n.natAbs < 10 ^ 20 := by
   have : (10 : Nat) ^ 20 = 100000000000000000000 := by decide
   omega
  by_cases hneg : n < 0
  ·have hd2 : decide (n < 0) = true := by simp [hneg]
   simp (maxSteps := 1000000) only [go_sem, b_b_Decimal, hd, hd2, reduceCtorEq, ↓reduceIte]
   refine (key 20 n _ [] hp h0 h1 ?_ ?_ ?_ (by decide)).trans (by rw [hf])
   ·rfl
   ·exact ⟨_, rfl, rfl⟩
   ·exact ⟨_, rfl, by rw [if_pos hneg]; rfl⟩
  ·have hd2 : decide (n < 0) = false := by simp [hneg]
   simp (maxSteps := 1000000) only [go_sem, b_b_Decimal, hd, hd2, reduceCtorEq, ↓reduceIte]
   refine (key 20 n _ [] hp h0 h1 ?_ ?_ ?_ (by decide)).trans (by rw [hf])
   ·rfl
   ·exact ⟨_, rfl, rfl⟩
   ·exact ⟨_, rfl, by rw [if_neg hneg]; rfl⟩
theorem ixt {l : List UInt8} {k : Nat} {c : UInt8} (h : l[k]? = some c) : indexStrOp (S (tx l)) (I (k : Int)) = some (.v (.int .u8 c.toNat)) := ixs (by rw [tx_list]; exact h)
def numR (at1 : Bool) (n : Nat) (l : List UInt8) : Int × Bool := if l.all isDig = true then (if at1 then -(dval n l : Int) else dval n l, true) else (0, false)
theorem number_loop {l : List UInt8} {a : Nat} (ha : a ≤ 1) (hl : l.length ≤ 5) : ∀ (k : Nat) ρ m, k ≤ l.length → (ρ 0 = S (tx l) ∧ ρ 6 = I a ∧ ρ 8 = I k ∧ m = s.push ⟨[], []⟩ ∧ ∃ n : Nat, ρ 7 = I n ∧ n < 10 ^ k ∧ numR (decide (a = 1)) n (l.drop k) = numR (decide (a = 1)) 0 (l.drop a)) →
  go AP f_b_Number (.c (.loop b_b_Number_l0) :: k_b_Number_0) ⟨ρ, m⟩ = some (.tuple [I (numR (decide (a = 1)) 0 (l.drop a)).1, B (numR (decide (a = 1)) 0 (l.drop a)).2], s) := by
 refine loop_up l.length _ _ ?_ ?_
 ·rintro k ρ m hk ⟨h0, h6, h8, rfl, n, h7, hn, hR⟩ ih
  obtain ⟨c, hc⟩ := get_some hk
  have hr := ixt hc
  have hk1 : decide ((k : Int) < ((tx l).size : Int)) = true := by rw [tx_size]; simp; omega
  rw [drop_get hc] at hR
  by_cases hd : isDig c = true
  ·have hdg := isDig_iff hd
   have d1 : decide ((c.toNat : Int) < 48) = false := by simp; omega
   have d2 : decide ((57 : Int) < (c.toNat : Int)) = false := by simp; omega
   have w1 : IntKind.u8.wrap ((c.toNat : Int) - 48) = (dv c : Int) := by
    show _ % 256 = _
    have : dv c = c.toNat - 48 := rfl
    omega
   have hp : (10 : Nat) ^ k ≤ 10 ^ 5 := Nat.pow_le_pow_right (by decide) (by omega)
   have hdv : dv c < 10 := by have : dv c = c.toNat - 48 := rfl; omega
   have hn5 : n < 100000 := by
    have : (10 : Nat) ^ 5 = 100000 := by decide
    omega
   have w2 : IntKind.i64.wrap (dv c : Int) = (dv c : Int) := by rw [wrap_id] <;> omega
   have w3 : IntKind.i64.wrap (10 * (n : Int)) = 10 * (n : Int) := by rw [wrap_id] <;> omega
   have w4 : IntKind.i64.wrap (10 * (n : Int) + (dv c : Int)) = ((10 * n + dv c : Nat) : Int) := by rw [wrap_id] <;> omega
   have hs8 : arithOp .sub (.v (.int .u8 (c.toNat : Int))) (.v (.int .u8 48)) = some (.v (.int .u8 (dv c : Int))) := by
    show some (AV.v (.int .u8 (IntKind.u8.wrap ((c.toNat : Int) - 48)))) = _
    rw [w1]
   simp (maxSteps := 1000000) only [go_sem, b_b_Number_l0, h0, h7, h8, hk1, hr, d1, d2, hs8, w2, w3, w4, wrap_succ hk (show (l.length : Int) < _ by omega), Nat.reduceEqDiff, reduceCtorEq, ↓reduceIte]
   refine ih _ _ ?_
   refine ⟨h0, h6, rfl, rfl, 10 * n + dv c, rfl, by rw [Nat.pow_succ]; omega, ?_⟩
   rw [← hR]
   unfold numR
   rw [List.all_cons, hd, Bool.true_and, dval_cons]
  ·have hd' : isDig c = false := by simpa using hd
   rw [← hR]
   have e : numR (decide (a = 1)) n (c :: l.drop (k + 1)) = (0, false) := by unfold numR; rw [List.all_cons, hd', Bool.false_and]; rfl
   rw [e]
   unfold isDig at hd'
   by_cases h48 : c.toNat < 48
   ·have d1 : decide ((c.toNat : Int) < 48) = true := by simp; omega
    simp (maxSteps := 1000000) only [go_sem, b_b_Number_l0, h0, h8, hk1, hr, d1, Nat.reduceEqDiff, reduceCtorEq, ↓reduceIte]
   ·have d1 : decide ((c.toNat : Int) < 48) = false := by simp; omega
    have d2 : decide ((57 : Int) < (c.toNat : Int)) = true := by
     rw [decide_eq_true (show 48 ≤ c.toNat by omega), Bool.true_and] at hd'
     have := of_decide_eq_false hd'
     simp; omega
    simp (maxSteps := 1000000) only [go_sem, b_b_Number_l0, h0, h8, hk1, hr, d1, d2, Nat.reduceEqDiff, reduceCtorEq, ↓reduceIte]
 ·rintro ρ m ⟨h0, h6, h8, rfl, n, h7, hn, hR⟩
  rw [List.drop_length] at hR
  have hk1 : decide ((l.length : Int) < ((tx l).size : Int)) = false := by rw [tx_size]; simp
  have hp : (10 : Nat) ^ l.length ≤ 10 ^ 5 := Nat.pow_le_pow_right (by decide) (by omega)
  have hn5 : n < 100000 := by
   have : (10 : Nat) ^ 5 = 100000 := by decide
   omega
  rw [← hR]
  have e : numR (decide (a = 1)) n [] = (if decide (a = 1) = true then -(n : Int) else n, true) := by unfold numR; rw [dval_nil]; rfl
  rw [e]
  by_cases ha1 : a = 1
  ·subst ha1
   have w1 : IntKind.i64.wrap (-(n : Int)) = -(n : Int) := by rw [wrap_id] <;> omega
   have h6' : ρ 6 = I 1 := h6
   simp (maxSteps := 1000000) only [go_sem, b_b_Number_l0, b_b_Number_r0, h0, h6', h7, h8, hk1, w1, Nat.reduceEqDiff, reduceCtorEq, ↓reduceIte]
  ·have : a = 0 := by omega
   subst this
   have h6' : ρ 6 = I 0 := h6
   simp (maxSteps := 1000000) only [go_sem, b_b_Number_l0, b_b_Number_r0, h0, h6', h7, h8, hk1, Nat.reduceEqDiff, reduceCtorEq, Int.reduceEq, ↓reduceIte]
theorem b_Number {l : List UInt8} (hl : l.length ≤ 1000000) : ∃ n ok, callL AP (.fn 76) [S (tx l), I 4] s = some (.tuple [I n, B ok], s) ∧ (∀ v, numE l = some v → n = v ∧ ok = true) ∧ (numE l = none → (ok && decide (0 ≤ n)) = false) := by
 have hsz := tx_size (a := l)
 have none' : numE l = none → callL AP (.fn 76) [S (tx l), I 4] s = some (.tuple [I 0, B false], s) → ∃ n ok, callL AP (.fn 76) [S (tx l), I 4] s = some (.tuple [I n, B ok], s) ∧ (∀ v, numE l = some v → n = v ∧ ok = true) ∧ (numE l = none → (ok && decide (0 ≤ n)) = false) := fun h1 h2 =>
  ⟨0, false, h2, fun v hv => (by rw [h1] at hv; cases hv), fun _ => rfl⟩
 cases l with
 | nil =>
  refine none' rfl ?_
  rw [callL_go (show AP 76 = some c_b_Number from rfl) rfl]
  simp (maxSteps := 1000000) only [go_sem, b_b_Number, hsz, Nat.reduceEqDiff, reduceCtorEq, Int.reduceLT, Int.cast_ofNat_Int, ↓reduceIte]
 | cons c r =>
  have hlen : (((tx (c :: r)).size : Nat) : Int) = ((r.length + 1 : Nat) : Int) := by rw [hsz]; rfl
  have d0 : decide ((0 : Int) < ((tx (c :: r)).size : Int)) = true := by rw [hlen]; simp only [decide_eq_true_eq]; omega
  have hr0 : indexStrOp (S (tx (c :: r))) (I 0) = some (.v (.int .u8 c.toNat)) := ixt (k := 0) (l := c :: r) rfl
  by_cases hc : c = 45
  ·have hnone : numE (c :: r) = none := by
    unfold numE
    rw [if_neg]
    rintro ⟨⟨_, h⟩, _⟩
    rw [List.all_cons, hc] at h
    exact absurd h (by simp [isDig])
   have d1 : decide ((c.toNat : Int) = 45) = true := by subst hc; rfl
   cases r with
   | nil =>
    refine none' hnone ?_
    rw [callL_go (show AP 76 = some c_b_Number from rfl) rfl]
    have d2 : decide (((tx [c]).size : Int) = 1) = true := by rw [hsz]; rfl
    simp (maxSteps := 1000000) only [go_sem, b_b_Number, d0, hr0, d1, d2, Nat.reduceEqDiff, reduceCtorEq, ↓reduceIte]
   | cons d r' =>
    have d2 : decide (((tx (c :: d :: r')).size : Int) = 1) = false := by rw [hlen]; simp; omega
    have hr1 : indexStrOp (S (tx (c :: d :: r'))) (I 1) = some (.v (.int .u8 d.toNat)) := ixt (k := 1) (l := c :: d :: r') rfl
    have w1 : IntKind.i64.wrap (((tx (c :: d :: r')).size : Int) - 1) = ((r'.length + 1 : Nat) : Int) := by
     simp only [List.length_cons] at hl hlen
     rw [wrap_id] <;> omega
    by_cases h4 : 4 < r'.length + 1
    ·have d3 : decide ((4 : Int) < ((r'.length + 1 : Nat) : Int)) = true := by simp only [decide_eq_true_eq]; omega
     refine none' hnone ?_
     rw [callL_go (show AP 76 = some c_b_Number from rfl) rfl]
     simp (maxSteps := 1000000) only [go_sem, b_b_Number, d0, hr0, d1, d2, w1, d3, Nat.reduceEqDiff, reduceCtorEq, ↓reduceIte]
    ·have d3 : decide ((4 : Int) < ((r'.length + 1 : Nat) : Int)) = false := by simp only [decide_eq_false_iff_not]; omega
     have d5 : decide ((1 : Int) < ((tx (c :: d :: r')).size : Int)) = true := by rw [hlen]; simp only [List.length_cons, decide_eq_true_eq]; omega
     by_cases h48 : d = 48
     ·have d4 : decide ((d.toNat : Int) = 48) = true := by subst h48; rfl
      refine none' hnone ?_
      rw [callL_go (show AP 76 = some c_b_Number from rfl) rfl]
      simp (maxSteps := 1000000) only [go_sem, b_b_Number, d0, hr0, hr1, d1, d2, w1, d3, d4, d5, Nat.reduceEqDiff, reduceCtorEq, ↓reduceIte]
     ·have d4 : decide ((d.toNat : Int) = 48) = false := by
       simp only [decide_eq_false_iff_not]
       intro e
       exact h48 (UInt8.toNat_inj.1 (by have : (48 : UInt8).toNat = 48 := rfl; omega))
      have hk := number_loop (s := s) (l := c :: d :: r') (a := 1) (Nat.le_refl _) (by simp only [List.length_cons]; omega) 1
      refine ⟨(numR (decide ((1 : Nat) = 1)) 0 ((c :: d :: r').drop 1)).1, (numR (decide ((1 : Nat) = 1)) 0 ((c :: d :: r').drop 1)).2, ?_, ⟨fun v hv => (by rw [hnone] at hv; cases hv), fun _ => ?_⟩⟩
      ·rw [callL_go (show AP 76 = some c_b_Number from rfl) rfl]
       simp (maxSteps := 1000000) only [go_sem, b_b_Number, d0, hr0, hr1, d1, d2, w1, d3, d4, Nat.reduceEqDiff, reduceCtorEq, ↓reduceIte]
       refine hk _ _ (by simp only [List.length_cons]; omega) ?_
       exact ⟨rfl, rfl, rfl, rfl, 0, rfl, by decide, rfl⟩
      ·rw [show (c :: d :: r').drop 1 = d :: r' from rfl, show decide ((1 : Nat) = 1) = true from rfl]
       unfold numR
       by_cases ha : (d :: r').all isDig = true
       ·rw [if_pos ha]
        have h5 := dec_dval _ rfl ha (by simp) (.inr (by simpa using h48))
        have : dval 0 (d :: r') ≠ 0 := by
         intro e
         rw [e, Lib.decDigits, dif_pos (by decide)] at h5
         simp only [List.cons.injEq] at h5
         exact h48 h5.1.symm
        simp only [if_true, Bool.true_and, decide_eq_false_iff_not]
        omega
       ·rw [if_neg ha]; rfl
  ·have d1 : decide ((c.toNat : Int) = 45) = false := by
    simp only [decide_eq_false_iff_not]
    intro e
    exact hc (UInt8.toNat_inj.1 (by have : (45 : UInt8).toNat = 45 := rfl; omega))
   have d2 : decide (((tx (c :: r)).size : Int) = 0) = false := by rw [hlen]; simp; omega
   have w1 : IntKind.i64.wrap (((tx (c :: r)).size : Int) - 0) = ((r.length + 1 : Nat) : Int) := by
    simp only [List.length_cons] at hl
    rw [wrap_id] <;> omega
   have w1' : IntKind.i64.wrap ((tx (c :: r)).size : Int) = ((r.length + 1 : Nat) : Int) := by
    simp only [List.length_cons] at hl
    rw [wrap_id] <;> omega
   by_cases h4 : 4 < r.length + 1
   ·have d3 : decide ((4 : Int) < ((r.length + 1 : Nat) : Int)) = true := by simp only [decide_eq_true_eq]; omega
    have hnone : numE (c :: r) = none := by
     unfold numE
     rw [if_neg]
     rintro ⟨⟨h, _⟩, _⟩
     simp only [List.length_cons] at h
     omega
    refine none' hnone ?_
    rw [callL_go (show AP 76 = some c_b_Number from rfl) rfl]
    simp (maxSteps := 1000000) only [go_sem, b_b_Number, d0, hr0, d1, d2, w1', d3, Int.sub_zero, Nat.reduceEqDiff, reduceCtorEq, ↓reduceIte]
   ·have d3 : decide ((4 : Int) < ((r.length + 1 : Nat) : Int)) = false := by simp only [decide_eq_false_iff_not]; omega
    have hk := number_loop (s := s) (l := c :: r) (a := 0) (by decide) (by simp only [List.length_cons]; omega) 0
    have fin : (∀ v, numE (c :: r) = some v → (numR (decide ((0 : Nat) = 1)) 0 ((c :: r).drop 0)).1 = v ∧ (numR (decide ((0 : Nat) = 1)) 0 ((c :: r).drop 0)).2 = true) ∧ ((c = 48 → r = []) → numE (c :: r) = none → ((numR (decide ((0 : Nat) = 1)) 0 ((c :: r).drop 0)).2 && decide (0 ≤ (numR (decide ((0 : Nat) = 1)) 0 ((c :: r).drop 0)).1)) = false) := by
     have e : numR (decide ((0 : Nat) = 1)) 0 ((c :: r).drop 0) = if (c :: r).all isDig = true then ((dval 0 (c :: r) : Int), true) else (0, false) := rfl
     rw [e]
     refine ⟨fun v hv => ?_, fun h48 hv => ?_⟩
     ·obtain ⟨_, _, _, _, _, h5, h6⟩ := numE_some hv
      rw [if_pos h6]
      exact ⟨h5.symm, rfl⟩
     ·by_cases ha : (c :: r).all isDig = true
      ·exfalso
       unfold numE at hv
       have hh : (c :: r).length = 1 ∨ (c :: r).head? ≠ some 48 := by
        by_cases h : c = 48
        ·left; rw [h48 h]; rfl
        ·right; simpa using h
       rw [if_pos ⟨⟨by simp only [List.length_cons]; omega, ha⟩, by simp, hh⟩] at hv
       cases hv
      ·rw [if_neg ha]; rfl
    by_cases h48 : c = 48
    ·have d4 : decide ((c.toNat : Int) = 48) = true := by subst h48; rfl
     by_cases hr : r = []
     ·have d5 : decide ((1 : Int) < ((tx (c :: r)).size : Int)) = false := by rw [hlen, hr]; rfl
      refine ⟨_, _, ?_, fin.1, fin.2 fun _ => hr⟩
      rw [callL_go (show AP 76 = some c_b_Number from rfl) rfl]
      simp (maxSteps := 1000000) only [go_sem, b_b_Number, d0, hr0, d1, d2, w1', d3, d4, d5, Int.sub_zero, Nat.reduceEqDiff, reduceCtorEq, ↓reduceIte]
      refine hk _ _ (Nat.zero_le _) ?_
      exact ⟨rfl, rfl, rfl, rfl, 0, rfl, by decide, rfl⟩
     ·have d5 : decide ((1 : Int) < ((tx (c :: r)).size : Int)) = true := by
       rw [hlen]
       have := List.length_pos_iff.2 hr
       simp only [decide_eq_true_eq]; omega
      have hnone : numE (c :: r) = none := by
       unfold numE
       rw [if_neg]
       rintro ⟨_, _, h⟩
       rcases h with h | h
       ·simp only [List.length_cons] at h
        exact hr (List.eq_nil_of_length_eq_zero (by omega))
       ·rw [h48] at h; exact h rfl
      refine none' hnone ?_
      rw [callL_go (show AP 76 = some c_b_Number from rfl) rfl]
      simp (maxSteps := 1000000) only [go_sem, b_b_Number, d0, hr0, d1, d2, w1', d3, d4, d5, Int.sub_zero, Nat.reduceEqDiff, reduceCtorEq, ↓reduceIte]
    ·have d4 : decide ((c.toNat : Int) = 48) = false := by
      simp only [decide_eq_false_iff_not]
      intro e
      exact h48 (UInt8.toNat_inj.1 (by have : (48 : UInt8).toNat = 48 := rfl; omega))
     refine ⟨_, _, ?_, fin.1, fin.2 fun h => absurd h h48⟩
     rw [callL_go (show AP 76 = some c_b_Number from rfl) rfl]
     simp (maxSteps := 1000000) only [go_sem, b_b_Number, d0, hr0, d1, d2, w1', d3, d4, Int.sub_zero, Nat.reduceEqDiff, reduceCtorEq, ↓reduceIte]
     refine hk _ _ (Nat.zero_le _) ?_
     exact ⟨rfl, rfl, rfl, rfl, 0, rfl, by decide, rfl⟩
theorem r_number {l : List UInt8} (hl : l.length ≤ 1000000) : ∃ n, callL AP (.fn 47) [S (tx l)] s = some (.tuple [I n, B (numE l).isSome], s) ∧ ∀ v, numE l = some v → n = v := by
 obtain ⟨n, ok, h1, h2, h3⟩ := b_Number (s := s.push ⟨[], []⟩) hl
 refine ⟨n, ?_, fun v hv => (h2 v hv).1⟩
 rw [callL_go (show AP 47 = some c_r_number from rfl) rfl]
 cases e : numE l with
 | none =>
  have h4 := h3 e
  cases ok with
  | false => simp (maxSteps := 1000000) only [go_sem, b_r_number, h1, Nat.reduceEqDiff, reduceCtorEq, ↓reduceIte]; rfl
  | true =>
   rw [Bool.true_and] at h4
   simp (maxSteps := 1000000) only [go_sem, b_r_number, h1, h4, Nat.reduceEqDiff, reduceCtorEq, ↓reduceIte]; rfl
 | some v =>
  obtain ⟨rfl, rfl⟩ := h2 v e
  have := (numE_some e).1
  have d : decide (0 ≤ n) = true := by simp [this]
  simp (maxSteps := 1000000) only [go_sem, b_r_number, h1, d, Nat.reduceEqDiff, reduceCtorEq, ↓reduceIte]; rfl
theorem eq_ifn : eqOp .iface (.v .nilIface) (.v .nilIface) = some true := rfl
theorem eq_ifo : eqOp .iface .opq (.v .nilIface) = some false := rfl
theorem s_number {l : List UInt8} (hl : l.length ≤ 1000000) : ∃ n, callL AP (.fn 24) [S (tx l)] s = some (.tuple [I n, B (numE l).isSome], s) ∧ ∀ v, numE l = some v → n = v := by
 cases e : numE l with
 | some v =>
  obtain ⟨v0, v1, v2, v3, v4, _, _⟩ := numE_some e
  have h1 : ∀ q : Sig, callL AP (.fn 45) [S (tx l)] q = some (.tuple [I v, .v .nilIface], q) := fun q => atoi_ok hl (numE_atoi e)
  have h2 : ∀ q : Sig, callL AP (.fn 18) [I v] q = some (S (tx l), q) := fun q => by rw [itoaA (by omega) (by omega), v2]
  have d : decide (0 ≤ v) = true := by simp [v0]
  have d2 : decide (((tx l).size : Int) ≤ 4) = true := by rw [tx_size]; simp only [decide_eq_true_eq]; omega
  refine ⟨v, ?_, fun u hu => by injection hu⟩
  rw [callL_go (show AP 24 = some c_s_number from rfl) rfl]
  simp (maxSteps := 1000000) only [go_sem, b_s_number, eq_ifn, h1, h2, d, d2, Nat.reduceEqDiff, reduceCtorEq, ↓reduceIte]; rfl
 | none =>
  by_cases ha : ∃ v, Lib.atoiAll l = .ok v
  ·obtain ⟨v, hv⟩ := ha
   have hb := Lib.atoiAll_bounds hv
   have h1 : ∀ q : Sig, callL AP (.fn 45) [S (tx l)] q = some (.tuple [I v, .v .nilIface], q) := fun q => atoi_ok hl hv
   have h2 : ∀ q : Sig, callL AP (.fn 18) [I v] q = some (S (tx (Lib.itoa v)), q) := fun q => itoaA hb.1 hb.2
   refine ⟨v, ?_, fun u hu => by cases hu⟩
   rw [callL_go (show AP 24 = some c_s_number from rfl) rfl]
   by_cases h0 : 0 ≤ v
   ·have d : decide (0 ≤ v) = true := by simp [h0]
    by_cases hi : Lib.itoa v = l
    ·have d1 : decide (tx (Lib.itoa v) = tx l) = true := by rw [hi]; simp
     have d2 : decide (((tx l).size : Int) ≤ 4) = false := by
      rw [tx_size]
      simp only [decide_eq_false_iff_not]
      intro h
      have := numE_itoa h0 (by rw [hi]; omega)
      rw [hi, e] at this
      cases this
     simp (maxSteps := 1000000) only [go_sem, b_s_number, eq_ifn, h1, h2, d, d1, d2, Nat.reduceEqDiff, reduceCtorEq, ↓reduceIte]; rfl
    ·have d1 : decide (tx (Lib.itoa v) = tx l) = false := by simp only [decide_eq_false_iff_not]; exact fun h => hi (tx_inj h)
     simp (maxSteps := 1000000) only [go_sem, b_s_number, eq_ifn, h1, h2, d, d1, Nat.reduceEqDiff, reduceCtorEq, ↓reduceIte]; rfl
   ·have d : decide (0 ≤ v) = false := by simp [h0]
    simp (maxSteps := 1000000) only [go_sem, b_s_number, eq_ifn, h1, d, Nat.reduceEqDiff, reduceCtorEq, ↓reduceIte]; rfl
  ·obtain ⟨n, h1⟩ := atoi_no (s := s.push ⟨[], []⟩) hl (fun v hv => ha ⟨v, hv⟩)
   refine ⟨n, ?_, fun u hu => by cases hu⟩
   rw [callL_go (show AP 24 = some c_s_number from rfl) rfl]
   simp (maxSteps := 1000000) only [go_sem, b_s_number, eq_ifo, h1, Nat.reduceEqDiff, reduceCtorEq, ↓reduceIte]; rfl
end
end Go.Ax.Sx.Sc

namespace Go.Ax.Sx.Sc
open Go.Ax
set_option linter.unusedSimpArgs false
set_option linter.unusedVariables false
set_option maxRecDepth 100000
abbrev rowT (b : List UInt8) : List AV := [S (tx b)]
theorem spl_ne {c : UInt8} : ∀ {l : List UInt8}, spl c l ≠ []
 | [] => by simp [spl]
 | x :: r => by
  rw [spl]
  split
  ·simp
  ·split <;> simp
def splp (c : UInt8) (pre l : List UInt8) : List (List UInt8) := match spl c l with
 | h :: t => (pre ++ h) :: t
 | [] => []
theorem splp_nil {c : UInt8} {l : List UInt8} : splp c [] l = spl c l := by
 unfold splp
 cases h : spl c l with
 | nil => rfl
 | cons a r => rfl
theorem splp_hit {c : UInt8} {pre r : List UInt8} : splp c pre (c :: r) = pre :: splp c [] r := by
 rw [splp_nil]; unfold splp; rw [spl, if_pos rfl]; simp
theorem splp_miss {c x : UInt8} {pre r : List UInt8} (h : x ≠ c) : splp c pre (x :: r) = splp c (pre ++ [x]) r := by
 unfold splp
 rw [spl, if_neg h]
 cases hs : spl c r with
 | nil => exact absurd hs spl_ne
 | cons a t => simp
theorem splp_end {c : UInt8} {pre : List UInt8} : splp c pre [] = [pre] := by unfold splp; rw [spl]; simp
theorem spl_len {c : UInt8} : ∀ {l : List UInt8}, (spl c l).length ≤ l.length + 1
 | [] => by simp [spl]
 | x :: r => by
  have ih := spl_len (c := c) (l := r)
  rw [spl]
  split
  ·simp only [List.length_cons]; omega
  ·cases hs : spl c r with
   | nil => simp
   | cons a t => rw [hs] at ih; simp only [List.length_cons] at ih ⊢; omega
theorem spl_sub {c : UInt8} : ∀ {l : List UInt8}, ∀ x ∈ spl c l, x.length ≤ l.length
 | [], x, h => by simp [spl] at h; subst h; simp
 | y :: r, x, h => by
  rw [spl] at h
  split at h
  ·rcases List.mem_cons.1 h with h | h
   ·subst h; simp
   ·have := spl_sub x h; simp only [List.length_cons]; omega
  ·cases hs : spl c r with
   | nil => exact absurd hs spl_ne
   | cons a t =>
    rw [hs] at h
    rcases List.mem_cons.1 h with h | h
    ·subst h
     have := spl_sub (c := c) (l := r) a (by rw [hs]; simp)
     simp only [List.length_cons]; omega
    ·have := spl_sub (c := c) (l := r) x (by rw [hs]; exact List.mem_cons_of_mem _ h)
     simp only [List.length_cons]; omega
section
variable {s : Sig} {w : W}
theorem tx_extract {l : List UInt8} {a b : Nat} : (tx l).extract a b = tx ((l.take b).drop a) := by
 apply ByteArray.ext
 apply Array.ext'
 simp only [tx, ByteArray.data_extract, Array.toList_extract]
 rw [List.drop_take]
theorem sl_str {l : List UInt8} {a b : Nat} (h : a ≤ b) (hb : b ≤ l.length) : sliceOp .str (S (tx l)) (some (I a)) (some (I b)) none = some (S (tx ((l.take b).drop a))) := by
 have h1 : hiOf (some (I b)) false (tx l).size (tx l).size = some b := by
  simp only [hiOf, asNat]; rw [if_pos ⟨by omega, by rw [tx_size]; omega⟩]; simp
 have h2 : loOf (some (I a)) b = some a := by
  simp only [loOf, asNat]; rw [if_pos ⟨by omega, by omega⟩]; simp
 simp only [sliceOp]
 rw [h1, Option.bind_some, h2, Option.map_some, tx_extract]
 rfl
theorem sl_strh {l : List UInt8} {a : Nat} (h : a ≤ l.length) : sliceOp .str (S (tx l)) (some (I a)) none none = some (S (tx (l.drop a))) := by
 have h1 : hiOf none false (tx l).size (tx l).size = some (tx l).size := rfl
 have h2 : loOf (some (I a)) (tx l).size = some a := by
  simp only [loOf, asNat]; rw [if_pos ⟨by omega, by rw [tx_size]; omega⟩]; simp
 simp only [sliceOp]
 rw [h1, Option.bind_some, h2, Option.map_some, tx_extract, tx_size, List.take_length]
 rfl
theorem sl_strl {l : List UInt8} {b : Nat} (hb : b ≤ l.length) : sliceOp .str (S (tx l)) none (some (I b)) none = some (S (tx (l.take b))) := by
 have h1 : hiOf (some (I b)) false (tx l).size (tx l).size = some b := by
  simp only [hiOf, asNat]; rw [if_pos ⟨by omega, by rw [tx_size]; omega⟩]; simp
 have h2 : loOf none b = some 0 := rfl
 simp only [sliceOp]
 rw [h1, Option.bind_some, h2, Option.map_some, tx_extract, List.drop_zero]
 rfl
theorem b_Cut {l : List UInt8} {c : UInt8} (hs : Ok s) (hl : l.length ≤ 1000000) : callL AP (.fn 26) [S (tx l), .v (.int .u8 c.toNat)] s = some (.slice .any 1 ((spl c l).map rowT), s) := by
 have key : ∀ k ρ m, k ≤ l.length → (ρ 0 = S (tx l) ∧ ρ 1 = .v (.int .u8 c.toNat) ∧ ρ 7 = I k ∧ ∃ (a : Nat) (done : List (List UInt8)) (og : Option Nat) (tk : List (Option Nat)), ρ 6 = I a ∧ a ≤ k ∧ done.length ≤ k ∧ Acc s.acts.length 1 (done.map rowT) (ρ 5) og tk ∧ m = s.push ⟨[], tk⟩ ∧ spl c l = done ++ splp c ((l.take k).drop a) (l.drop k)) →
   go AP f_b_Cut (.c (.loop b_b_Cut_l0) :: k_b_Cut_0) ⟨ρ, m⟩ = some (.slice .any 1 ((spl c l).map rowT), s) := by
  refine loop_up l.length _ _ ?_ ?_
  ·rintro k ρ m hk ⟨g0, g1, g7, a, done, og, tk, g6, hak, hdk, hA, rfl, he⟩ ih
   obtain ⟨x, hx⟩ := get_some hk
   have hr := ixt hx
   have hk1 : decide ((k : Int) < ((tx l).size : Int)) = true := by rw [tx_size]; simp only [decide_eq_true_eq]; omega
   have hw := wrap_succ hk (show (l.length : Int) < _ by omega)
   rw [drop_get hx] at he
   by_cases hxc : x = c
   ·subst hxc
    have hd : decide ((x.toNat : Int) = (x.toNat : Int)) = true := by simp
    have hsl := sl_str (l := l) hak (by omega)
    obtain ⟨x', og', tk', ha1, ha2, _⟩ := hA.append hs .full (ys := [rowT ((l.take k).drop a)]) (by simp) (by simp; omega)
    obtain ⟨z1, hz1⟩ : ∃ z, tx ((l.take k).drop a) = z := ⟨_, rfl⟩
    simp only [rowT] at ha1 ha2
    rw [hz1] at hsl ha1 ha2
    simp (maxSteps := 1000000) only [go_sem, b_b_Cut_l0, g0, g1, g6, g7, hk1, hr, hsl, ha1, hw, Nat.reduceEqDiff, reduceCtorEq, ↓reduceIte]
    refine ih _ _ ?_
    refine ⟨g0, g1, rfl, k + 1, done ++ [(l.take k).drop a], og', tk', rfl, Nat.le_refl _, by simp; omega, ?_, rfl, ?_⟩
    ·rw [List.map_append]; simp only [List.map_cons, List.map_nil, rowT]; rw [hz1]; exact ha2
    ·rw [he, splp_hit, List.append_assoc, show (l.take (k + 1)).drop (k + 1) = [] by rw [List.drop_eq_nil_iff]; rw [List.length_take]; omega]; rfl
   ·have hd : decide ((x.toNat : Int) = (c.toNat : Int)) = false := by
     simp only [decide_eq_false_iff_not]
     intro e
     exact hxc (UInt8.toNat_inj.1 (by omega))
    simp (maxSteps := 1000000) only [go_sem, b_b_Cut_l0, g0, g1, g7, hk1, hr, hd, hw, Nat.reduceEqDiff, reduceCtorEq, ↓reduceIte]
    refine ih _ _ ?_
    refine ⟨g0, g1, rfl, a, done, og, tk, g6, by omega, by omega, hA, rfl, ?_⟩
    rw [he, splp_miss hxc, take_get hx, List.drop_append_of_le_length (by rw [List.length_take]; omega)]
  ·rintro ρ m ⟨g0, g1, g7, a, done, og, tk, g6, hak, hdk, hA, rfl, he⟩
   have hk1 : decide ((l.length : Int) < ((tx l).size : Int)) = false := by rw [tx_size]; simp
   have hsl := sl_strh (l := l) hak
   obtain ⟨x', og', tk', ha1, ha2, _⟩ := hA.append hs .full (ys := [rowT (l.drop a)]) (by simp) (by simp; omega)
   rw [List.take_length, List.drop_length, splp_end] at he
   have hfin : accV 1 (done.map rowT ++ [rowT (l.drop a)]) = .slice .any 1 ((spl c l).map rowT) := by
    rw [he, List.map_append]
    cases done with
    | nil => rfl
    | cons b r => rfl
   obtain ⟨z1, hz1⟩ : ∃ z, tx (l.drop a) = z := ⟨_, rfl⟩
   have hlv := ha2.leave
   rw [hfin] at hlv
   simp only [rowT] at ha1
   rw [hz1] at hsl ha1
   simp (maxSteps := 1000000) only [go_sem, b_b_Cut_l0, b_b_Cut_r0, g0, g6, g7, hk1, hsl, ha1, hlv, Nat.reduceEqDiff, reduceCtorEq, ↓reduceIte]
 rw [callL_go (show AP 26 = some c_b_Cut from rfl) rfl]
 simp (maxSteps := 1000000) only [go_sem, b_b_Cut]
 refine key 0 _ _ (Nat.zero_le _) ?_
 exact ⟨rfl, rfl, rfl, 0, [], none, [], rfl, Nat.le_refl _, Nat.zero_le _, Acc.start, rfl, by rw [List.take_zero, List.drop_nil, splp_nil]; rfl⟩
end
end Go.Ax.Sx.Sc

namespace Go.Ax.Sx.Sc
open Go.Ax
set_option linter.unusedSimpArgs false
set_option linter.unusedVariables false
set_option maxRecDepth 100000
def numsE : List (List UInt8) → Option (List Int)
 | [] => some []
 | x :: r => match numE x, numsE r with
  | some v, some t => some (v :: t)
  | _, _ => none
def mkPass (q st : Int) (as : List Int) : P := ⟨q, st, acS 1 as⟩
def passW (l : List UInt8) : Option P := match spl 43 l with
 | [] => none
 | p0 :: ps => match spl 64 p0 with
  | [a, b] => match numE a, numE b, numsE ps with
   | some q, some st, some as => some (mkPass q st as)
   | _, _, _ => none
  | _ => none
theorem numsE_app : ∀ {l : List (List UInt8)} {x : List UInt8}, numsE (l ++ [x]) = match numsE l, numE x with
  | some t, some v => some (t ++ [v])
  | _, _ => none
 | [], x => by simp only [List.nil_append, numsE]; cases numE x <;> rfl
 | y :: l, x => by
  simp only [List.cons_append, numsE, numsE_app (l := l)]
  cases numE y <;> cases numsE l <;> cases numE x <;> rfl
section
variable {s : Sig} {w : W}
theorem Acc.v {as : List Int} {d : Nat} {x : AV} {og : Option Nat} {tk : List (Option Nat)} : accV 1 (as.map rowI) = (acS 1 as).v rowI := acS_v
theorem r_passOf {l : List UInt8} (hs : Ok s) (hl : l.length ≤ 100000) : ∃ p : P, callL AP (.fn 27) [S (tx l)] s = some (.tuple [.agg (rowP p), B (passW l).isSome], s) ∧ (∀ v, passW l = some v → p = v) := by
 have hc1 : ∀ r, callL AP (.fn 26) [S (tx l), .v (.int .u8 43)] (s.push r) = some (.slice .any 1 ((spl 43 l).map rowT), s.push r) := fun r => b_Cut (c := 43) (hs.push r) (by omega)
 cases hsp : spl 43 l with
 | nil => exact absurd hsp spl_ne
 | cons p0 ps =>
  rw [hsp] at hc1
  have hlp : p0.length ≤ l.length := spl_sub (c := 43) p0 (by rw [hsp]; simp)
  have hlps : ∀ x ∈ ps, x.length ≤ l.length := fun x hx => spl_sub (c := 43) x (by rw [hsp]; simp [hx])
  have hln : ps.length + 1 ≤ l.length + 1 := by have := spl_len (c := 43) (l := l); rw [hsp] at this; simpa using this
  have hc2 : ∀ r, callL AP (.fn 26) [S (tx p0), .v (.int .u8 64)] (s.push r) = some (.slice .any 1 ((spl 64 p0).map rowT), s.push r) := fun r => b_Cut (c := 64) (hs.push r) (by omega)
  have hr0 : indexAddrOp none 1 (.slice .any 1 (((p0 :: ps)).map rowT)) (I 0) = some (.eptr (rowT p0) 0) := ix_map (f := rowT) (o := .any) (es := 1) (l := p0 :: ps) (k := 0) rfl
  have no2 : (∀ a b, spl 64 p0 ≠ [a, b]) → ∃ p : P, callL AP (.fn 27) [S (tx l)] s = some (.tuple [.agg (rowP p), B (passW l).isSome], s) ∧ (∀ v, passW l = some v → p = v) := by
   intro hno
   have hp : passW l = none := by
    unfold passW
    rw [hsp]
    show (match spl 64 p0 with | [a, b] => _ | _ => none) = _
    split
    ·rename_i a b e; exact absurd e (hno a b)
    ·rfl
   have hd : decide (¬ (((spl 64 p0).length : Nat) : Int) = 2) = true := by
    simp only [decide_eq_true_eq]
    intro e
    have : (spl 64 p0).length = 2 := by omega
    match h : spl 64 p0, this with
    | [a, b], _ => exact hno a b h
   refine ⟨⟨0, 0, ⟨.nilS, 0, []⟩⟩, ?_, fun v hv => by rw [hp] at hv; cases hv⟩
   rw [hp]
   rw [callL_go (show AP 27 = some c_r_passOf from rfl) rfl]
   simp only [List.map_cons, rowT] at hr0 hc1 hc2
   simp (maxSteps := 1000000) only [go_sem, b_r_passOf, hs, hc1, hc2, hr0, hd, ne_eq, Nat.reduceEqDiff, reduceCtorEq, ↓reduceIte]
   rfl
  by_cases hno : ∀ a b, spl 64 p0 ≠ [a, b]
  ·exact no2 hno
  simp only [Classical.not_forall, ne_eq, Classical.not_not] at hno
  obtain ⟨wa, wb, hw2⟩ := hno
  rw [hw2] at hc2
  have hla : wa.length ≤ p0.length := spl_sub (c := 64) wa (by rw [hw2]; simp)
  have hlb : wb.length ≤ p0.length := spl_sub (c := 64) wb (by rw [hw2]; simp)
  have hra : indexAddrOp none 1 (.slice .any 1 (([wa, wb]).map rowT)) (I 0) = some (.eptr (rowT wa) 0) := ix_map (f := rowT) (o := .any) (es := 1) (l := [wa, wb]) (k := 0) rfl
  have hrb : indexAddrOp none 1 (.slice .any 1 (([wa, wb]).map rowT)) (I 1) = some (.eptr (rowT wb) 0) := ix_map (f := rowT) (o := .any) (es := 1) (l := [wa, wb]) (k := 1) rfl
  have hp : passW l = match numE wa, numE wb, numsE ps with
   | some q, some st, some as => some (mkPass q st as)
   | _, _, _ => none := by
   unfold passW
   rw [hsp]
   show (match spl 64 p0 with | [a, b] => _ | _ => none) = _
   rw [hw2]
  obtain ⟨q, hq1, hq2⟩ := r_number (s := s.push ⟨[[I 0, I 0, .slice .nilS 0 []]], []⟩) (l := wa) (by omega)
  obtain ⟨st, hst1, hst2⟩ := r_number (s := s.push ⟨[[I 0, I 0, .slice .nilS 0 []]], []⟩) (l := wb) (by omega)
  have hd : decide (¬ ((2 : Nat) : Int) = 2) = false := by decide
  have key : ∀ (k : Nat) ρ m, k ≤ ps.length → (ρ 2 = .ptr s.acts.length 0 0 ∧ ρ 4 = .slice .any 1 ((p0 :: ps).map rowT) ∧ ρ 9 = B (numE wb).isSome ∧ ρ 10 = .ptr s.acts.length 1 0 ∧ ρ 11 = I ((k + 1 : Nat) : Int) ∧
    ∃ (ok : Bool) (as : List Int) (x : AV) (og : Option Nat) (tk : List (Option Nat)), ρ 7 = B ok ∧ as.length = k ∧ ok = ((numE wa).isSome && (numsE (ps.take k)).isSome) ∧ (∀ bs, numsE (ps.take k) = some bs → as = bs) ∧ Acc s.acts.length 1 (as.map rowI) x og tk ∧
     m = s.push ⟨[[I 0, I 0, .slice .nilS 0 []], [I q, I st, x]], tk⟩) →
    ∃ p : P, go AP f_r_passOf (.c (.loop b_r_passOf_l0) :: k_r_passOf_0) ⟨ρ, m⟩ = some (.tuple [.agg (rowP p), B (passW l).isSome], s) ∧ (∀ v, passW l = some v → p = v) := by
   refine loop_ex ps.length _ (fun r => ∃ p : P, r = some (.tuple [.agg (rowP p), B (passW l).isSome], s) ∧ (∀ v, passW l = some v → p = v)) ?_ ?_
   ·rintro k ρ m hk ⟨g2, g4, g9, g10, g11, ok, as, x, og, tk, g7, hlen, hok, has, hA, rfl⟩ ih
    obtain ⟨wd, hwd⟩ := get_some hk
    have hwl := hlps wd (List.mem_of_getElem? hwd)
    have hr := ix_map (f := rowT) (o := .any) (es := 1) (l := p0 :: ps) (k := k + 1) (a := wd) (by simpa using hwd)
    obtain ⟨n, hn1, hn2⟩ := r_number (s := s.push ⟨[[I 0, I 0, .slice .nilS 0 []], [I q, I st, x]], tk⟩) (l := wd) (by omega)
    obtain ⟨x', og', tk', ha1, ha2, _⟩ := hA.append hs .full (ys := [[I n]]) (by simp) (by simp; omega)
    have hd1 : decide (((k + 1 : Nat) : Int) < ((ps.length + 1 : Nat) : Int)) = true := by simp only [decide_eq_true_eq]; omega
    have hwr : IntKind.i64.wrap (((k + 1 : Nat) : Int) + 1) = ((k + 1 + 1 : Nat) : Int) := by rw [wrap_id] <;> omega
    have htake : numsE (ps.take (k + 1)) = match numsE (ps.take k), numE wd with
     | some t, some v => some (t ++ [v])
     | _, _ => none := by rw [take_get hwd, numsE_app]
    simp only [List.map_cons, rowT] at hr g4
    have goal2 : ∀ ok2, ok2 = (ok && (numE wd).isSome) → ok2 = ((numE wa).isSome && (numsE (ps.take (k + 1))).isSome) := by
     intro ok2 h
     rw [h, hok, htake]
     cases numE wa <;> cases numsE (ps.take k) <;> cases numE wd <;> rfl
    have goal3 : ∀ bs, numsE (ps.take (k + 1)) = some bs → as ++ [n] = bs := by
     intro bs hbs
     rw [htake] at hbs
     cases h1 : numsE (ps.take k) with
     | none => rw [h1] at hbs; cases hbs
     | some t =>
      cases h2 : numE wd with
      | none => rw [h1, h2] at hbs; cases hbs
      | some v =>
       rw [h1, h2] at hbs
       injection hbs with hbs
       rw [← hbs, has t h1, hn2 v h2]
    obtain ⟨o', e', r', rfl⟩ := Acc.sl ha2
    obtain ⟨ox, ex, rx, rfl⟩ := Acc.sl hA
    cases ok with
    | true =>
     simp (maxSteps := 1000000) only [go_sem, b_r_passOf_l0, g4, g7, g10, g11, hs, hd1, hr, hn1, ha1, hwr, Nat.reduceEqDiff, Nat.reduceAdd, ↓reduceIte]
     refine ih _ _ ?_
     refine ⟨g2, by simp only [List.map_cons, rowT]; exact g4, g9, g10, rfl, (numE wd).isSome, as ++ [n], _, og', tk', rfl, by simp [hlen], goal2 _ (by simp), goal3, ?_, rfl⟩
     rw [List.map_append]; exact ha2
    | false =>
     simp (maxSteps := 1000000) only [go_sem, b_r_passOf_l0, g4, g7, g10, g11, hs, hd1, hr, hn1, ha1, hwr, Nat.reduceEqDiff, Nat.reduceAdd, ↓reduceIte]
     refine ih _ _ ?_
     refine ⟨g2, by simp only [List.map_cons, rowT]; exact g4, g9, g10, rfl, false, as ++ [n], _, og', tk', rfl, by simp [hlen], goal2 _ (by simp), goal3, ?_, rfl⟩
     rw [List.map_append]; exact ha2
   ·rintro ρ m ⟨g2, g4, g9, g10, g11, ok, as, x, og, tk, g7, hlen, hok, has, hA, rfl⟩
    rw [List.take_length] at hok has
    have hd1 : decide (((ps.length + 1 : Nat) : Int) < ((ps.length + 1 : Nat) : Int)) = false := by simp
    simp only [List.map_cons, rowT] at g4
    have hlv : ∀ m, leaveCell m x = some ((acS 1 as).v rowI) := fun m => by rw [hA.leavec, acS_v]
    have hres : ((ok && (numE wb).isSome) = (passW l).isSome) := by
     rw [hok, hp]
     cases numE wa <;> cases numE wb <;> cases numsE ps <;> rfl
    refine ⟨mkPass q st as, ?_, fun v hv => ?_⟩
    ·rw [← hres]
     obtain ⟨ox, ex, rx, rfl⟩ := Acc.sl hA
     cases ok with
     | true => simp (maxSteps := 1000000) only [go_sem, b_r_passOf_l0, b_r_passOf_r0, g2, g4, g7, g9, g10, g11, hs, hd1, hlv, mkPass, Nat.reduceEqDiff, ↓reduceIte]
     | false =>
      simp (maxSteps := 1000000) only [go_sem, b_r_passOf_l0, b_r_passOf_r0, g2, g4, g7, g10, g11, hs, hd1, hlv, mkPass, Nat.reduceEqDiff, ↓reduceIte]
      rfl
    ·rw [hp] at hv
     cases h1 : numE wa with
     | none => rw [h1] at hv; cases hv
     | some a =>
      cases h2 : numE wb with
      | none => rw [h1, h2] at hv; cases hv
      | some b =>
       cases h3 : numsE ps with
       | none => rw [h1, h2, h3] at hv; cases hv
       | some bs =>
        rw [h1, h2, h3] at hv
        injection hv with hv
        rw [← hv, hq2 a h1, hst2 b h2, has bs h3]
  simp only [List.map_cons, List.map_nil, rowT] at hr0 hc1 hc2 hra hrb
  rw [callL_go (show AP 27 = some c_r_passOf from rfl) rfl]
  simp (maxSteps := 1000000) only [go_sem, b_r_passOf, hs, hc1, hc2, hr0, hra, hrb, hq1, hst1, ne_eq, not_true, decide_false, Nat.reduceEqDiff, reduceCtorEq, Nat.reduceAdd, Int.cast_ofNat_Int, ↓reduceIte]
  refine key 0 _ _ (Nat.zero_le _) ?_
  refine ⟨rfl, rfl, rfl, rfl, rfl, (numE wa).isSome, [], .slice .nilS 0 [], none, [], rfl, rfl, ?_, fun bs h => ?_, Acc.start, rfl⟩
  ·rw [List.take_zero]; simp [numsE]
  ·rw [List.take_zero] at h; simp only [numsE, Option.some.injEq] at h; exact h
end
end Go.Ax.Sx.Sc

namespace Go.Ax.Sx.Sc
open Go.Ax
set_option linter.unusedSimpArgs false
set_option linter.unusedVariables false
set_option maxRecDepth 100000
def passesE : List (List UInt8) → Option (List P)
 | [] => some []
 | x :: r => match passW x, passesE r with
  | some v, some t => some (v :: t)
  | _, _ => none
def parsedE : Option (List P) → List P × Int
 | none => ([], 7)
 | some ps => if 12 < ps.length then ([], 8) else (ps, 0)
def parseE (l : List UInt8) : List P × Int :=
 if 60000 < l.length then ([], 8) else
 if l = [] then ([], 0) else
 parsedE (passesE (spl 32 l))
theorem passW_ok {l : List UInt8} {p : P} (h : passW l = some p) : p.an.ok 1 := by
 unfold passW at h
 split at h
 ·cases h
 ·split at h
  ·split at h
   ·injection h with h
    rw [← h]; exact acS_ok
   ·cases h
  ·cases h
theorem passesE_len : ∀ {l : List (List UInt8)} {ps : List P}, passesE l = some ps → ps.length = l.length
 | [], ps, h => by injection h with h; rw [← h]; rfl
 | x :: r, ps, h => by
  simp only [passesE] at h
  split at h
  ·rename_i v t h1 h2
   injection h with h
   rw [← h, List.length_cons, List.length_cons, passesE_len h2]
  ·cases h
theorem passesE_none {x : List UInt8} (hx : passW x = none) : ∀ {l : List (List UInt8)}, x ∈ l → passesE l = none
 | y :: r, h => by
  simp only [passesE]
  rcases List.mem_cons.1 h with h | h
  ·rw [← h, hx]
  ·rw [passesE_none hx h]
   cases passW y <;> rfl
theorem passesE_app {x : List UInt8} {v : P} (hx : passW x = some v) : ∀ {l : List (List UInt8)} {ps : List P}, passesE l = some ps → passesE (l ++ [x]) = some (ps ++ [v])
 | [], ps, h => by injection h with h; rw [← h]; simp only [List.nil_append, passesE, hx]
 | y :: r, ps, h => by
  simp only [passesE, List.cons_append] at h ⊢
  split at h
  ·rename_i a t h1 h2
   injection h with h
   rw [passesE_app hx h2, h1, ← h]; rfl
  ·cases h
theorem at_app0 {α : Type} {l : List α} {x : α} : (l ++ [x])[l.length]? = some x := by simp
theorem set_app0 {α : Type} {l : List α} {x y : α} : (l ++ [x]).set l.length y = l ++ [y] := by simp
section
variable {s : Sig} {w : W}
theorem r_ParsePlan {l : List UInt8} (hs : Ok s) (hl : l.length ≤ 100000) : callL AP (.fn 10) [S (tx l)] s = some (.tuple [accV 3 ((parseE l).1.map rowP), I (parseE l).2], s) := by
 unfold parseE
 by_cases h6 : 60000 < l.length
 ·rw [if_pos h6]
  have hd : decide ((60000 : Int) < ((tx l).size : Int)) = true := by rw [tx_size]; simp only [decide_eq_true_eq]; omega
  rw [callL_go (show AP 10 = some c_r_ParsePlan from rfl) rfl]
  simp (maxSteps := 1000000) only [go_sem, b_r_ParsePlan, hd, Nat.reduceEqDiff, reduceCtorEq, ↓reduceIte]
  rfl
 rw [if_neg h6]
 have hd : decide ((60000 : Int) < ((tx l).size : Int)) = false := by rw [tx_size]; simp only [decide_eq_false_iff_not]; omega
 by_cases hn : l = []
 ·rw [if_pos hn]
  have hd2 : decide (tx l = ⟨#[]⟩) = true := by rw [hn]; simp [tx]
  rw [callL_go (show AP 10 = some c_r_ParsePlan from rfl) rfl]
  simp (maxSteps := 1000000) only [go_sem, b_r_ParsePlan, hd, hd2, Nat.reduceEqDiff, reduceCtorEq, ↓reduceIte]
  rfl
 rw [if_neg hn]
 have hd2 : decide (tx l = ⟨#[]⟩) = false := by
  simp only [decide_eq_false_iff_not]
  exact fun h => hn (tx_inj (a := l) (b := []) h)
 have hc : ∀ r, callL AP (.fn 26) [S (tx l), .v (.int .u8 32)] (s.push r) = some (.slice .any 1 ((spl 32 l).map rowT), s.push r) := fun r => b_Cut (c := 32) (hs.push r) (by omega)
 have hsl : (spl 32 l).length ≤ l.length + 1 := spl_len
 generalize hws : spl 32 l = ws at *
 have hwl : ∀ x ∈ ws, x.length ≤ l.length := fun x hx => spl_sub (c := 32) x (by rw [hws]; exact hx)
 have key : ∀ (k : Nat) ρ m, k ≤ ws.length → (ρ 5 = .slice .any 1 (ws.map rowT) ∧ ρ 6 = I k ∧ ∃ (ps : List P) (og : Option Nat) (tk : List (Option Nat)) (bx : List (List AV)), passesE (ws.take k) = some ps ∧ Acc s.acts.length 3 (ps.map rowP) (ρ 4) og tk ∧ m = s.push ⟨bx, tk⟩) →
   go AP f_r_ParsePlan (.c (.loop b_r_ParsePlan_l0) :: k_r_ParsePlan_0) ⟨ρ, m⟩ = some (.tuple [accV 3 ((parsedE (passesE ws)).1.map rowP), I (parsedE (passesE ws)).2], s) := by
  refine loop_up ws.length _ _ ?_ ?_
  ·rintro k ρ m hk ⟨g5, g6, ps, og, tk, bx, hps, hA, rfl⟩ ih
   obtain ⟨wd, hwd⟩ := get_some hk
   have hwm := List.mem_of_getElem? hwd
   have hwl := hwl wd hwm
   have hr := ix_map (f := rowT) (o := .any) (es := 1) hwd
   obtain ⟨p, hp1, hp2⟩ := r_passOf (s := s.push ⟨bx, tk⟩) (l := wd) (hs.push _) (by omega)
   have hwr := wrap_succ hk (show (ws.length : Int) < _ by omega)
   have hpl := passesE_len hps
   rw [List.length_take] at hpl
   simp only [rowT] at hr g5
   simp only [rowP, Sl.v] at hp1
   cases hpw : passW wd with
   | none =>
    rw [passesE_none hpw hwm]
    rw [hpw] at hp1
    have hp1 : callL AP (.fn 27) [S (tx wd)] (s.push ⟨bx, tk⟩) = some (.tuple [.agg [I p.req, I p.start, .slice p.an.o p.an.e (p.an.l.map rowI)], B false], s.push ⟨bx, tk⟩) := hp1
    simp (maxSteps := 1000000) only [go_sem, b_r_ParsePlan_l0, g5, g6, hs, lt_dec hk, hr, hp1, at_app0, set_app0, Nat.reduceEqDiff, ↓reduceIte]
    rfl
   | some v =>
    have hv := hp2 v hpw
    subst hv
    rw [hpw] at hp1
    have hp1 : callL AP (.fn 27) [S (tx wd)] (s.push ⟨bx, tk⟩) = some (.tuple [.agg [I p.req, I p.start, .slice p.an.o p.an.e (p.an.l.map rowI)], B true], s.push ⟨bx, tk⟩) := hp1
    have hpc := Sl.close (f := rowI) (passW_ok hpw)
    obtain ⟨x', og', tk', ha1, ha2, _⟩ := hA.append hs .full (ys := [rowP p]) (by simp) (by simp; omega)
    simp only [rowP, Sl.v] at ha1 hpc
    simp (maxSteps := 1000000) only [go_sem, b_r_ParsePlan_l0, g5, g6, hs, lt_dec hk, hr, hp1, at_app0, set_app0, hpc, ha1, hwr, Nat.reduceEqDiff, ↓reduceIte]
    refine ih _ _ ?_
    refine ⟨g5, rfl, ps ++ [p], og', tk', _, ?_, ?_, rfl⟩
    ·rw [take_get hwd]; exact passesE_app hpw hps
    ·rw [List.map_append]; exact ha2
  ·rintro ρ m ⟨g5, g6, ps, og, tk, bx, hps, hA, rfl⟩
   rw [List.take_length] at hps
   have hlen := hA.len
   have hlv := hA.leave
   rw [List.length_map] at hlen
   rw [hps]
   by_cases h12 : 12 < ps.length
   ·have hd3 : decide ((12 : Int) < (ps.length : Int)) = true := by simp only [decide_eq_true_eq]; omega
    rw [parsedE, if_pos h12]
    simp (maxSteps := 1000000) only [go_sem, b_r_ParsePlan_l0, b_r_ParsePlan_r0, g5, g6, ge_dec, hlen, hd3, Nat.reduceEqDiff, ↓reduceIte]
    rfl
   ·have hd3 : decide ((12 : Int) < (ps.length : Int)) = false := by simp only [decide_eq_false_iff_not]; omega
    rw [parsedE, if_neg h12]
    simp (maxSteps := 1000000) only [go_sem, b_r_ParsePlan_l0, b_r_ParsePlan_r0, g5, g6, ge_dec, hlen, hd3, hlv, Nat.reduceEqDiff, ↓reduceIte]
 rw [callL_go (show AP 10 = some c_r_ParsePlan from rfl) rfl]
 simp (maxSteps := 1000000) only [go_sem, b_r_ParsePlan, hd, hd2, hc, reduceCtorEq, ↓reduceIte]
 refine key 0 _ _ (Nat.zero_le _) ?_
 exact ⟨rfl, rfl, [], none, [], [], rfl, Acc.start, rfl⟩
end
end Go.Ax.Sx.Sc

namespace Go.Ax.Sx.Sc
open Go.Ax
set_option linter.unusedSimpArgs false
set_option linter.unusedVariables false
set_option maxRecDepth 100000
theorem spl_notin {c : UInt8} : ∀ {l : List UInt8}, c ∉ l → spl c l = [l]
 | [], _ => rfl
 | x :: r, h => by
  have hx : x ≠ c := fun e => h (by simp [e])
  have hr : c ∉ r := fun e => h (List.mem_cons_of_mem _ e)
  rw [spl, if_neg hx, spl_notin hr]
theorem splp_notin {c : UInt8} {b : List UInt8} : ∀ {a pre : List UInt8}, c ∉ a → splp c pre (a ++ b) = splp c (pre ++ a) b
 | [], pre, _ => by simp
 | x :: r, pre, h => by
  have hx : x ≠ c := fun e => h (by simp [e])
  have hr : c ∉ r := fun e => h (List.mem_cons_of_mem _ e)
  rw [List.cons_append, splp_miss hx, splp_notin hr, List.append_assoc]; rfl
theorem spl_two {c : UInt8} : ∀ {l : List UInt8}, c ∈ l → ∃ a b t, spl c l = a :: b :: t
 | x :: r, h => by
  rw [spl]
  by_cases hx : x = c
  ·rw [if_pos hx]
   cases hs : spl c r with
   | nil => exact absurd hs spl_ne
   | cons b t => exact ⟨[], b, t, rfl⟩
  ·rw [if_neg hx]
   have hr : c ∈ r := by
    rcases List.mem_cons.1 h with h | h
    ·exact absurd h.symm hx
    ·exact h
   obtain ⟨a, b, t, e⟩ := spl_two hr
   rw [e]; exact ⟨_, _, _, rfl⟩
theorem cut1_notin {c : UInt8} : ∀ {l : List UInt8}, c ∉ l → cut1 c l = (l, [], false)
 | [], _ => rfl
 | x :: r, h => by
  have hx : x ≠ c := fun e => h (by simp [e])
  have hr : c ∉ r := fun e => h (List.mem_cons_of_mem _ e)
  rw [cut1, if_neg hx, cut1_notin hr]
theorem cut1_hit {c : UInt8} {b : List UInt8} : ∀ {a : List UInt8}, c ∉ a → cut1 c (a ++ c :: b) = (a, b, true)
 | [], _ => by rw [List.nil_append, cut1, if_pos rfl]
 | x :: r, h => by
  have hx : x ≠ c := fun e => h (by simp [e])
  have hr : c ∉ r := fun e => h (List.mem_cons_of_mem _ e)
  rw [List.cons_append, cut1, if_neg hx, cut1_hit hr]
theorem mem_split {c : UInt8} : ∀ {l : List UInt8}, c ∈ l → ∃ a b, l = a ++ c :: b ∧ c ∉ a
 | x :: r, h => by
  by_cases hx : x = c
  ·exact ⟨[], r, by rw [hx]; rfl, by simp⟩
  ·have hr : c ∈ r := by
    rcases List.mem_cons.1 h with h | h
    ·exact absurd h.symm hx
    ·exact h
   obtain ⟨a, b, e, hn⟩ := mem_split hr
   refine ⟨x :: a, b, by rw [e]; rfl, fun h => ?_⟩
   rcases List.mem_cons.1 h with h | h
   ·exact hx h.symm
   ·exact hn h
theorem numE_dig {l : List UInt8} {c : UInt8} (h : c ∈ l) (hc : isDig c = false) : numE l = none := by
 cases e : numE l with
 | none => rfl
 | some v =>
  obtain ⟨_, _, _, _, _, _, h6⟩ := numE_some e
  rw [List.all_eq_true.1 h6 c h] at hc
  cases hc
def passS (l : List UInt8) : Option P := match spl 43 (cut1 64 l).2.1 with
 | [] => none
 | p0 :: ps => match numE (cut1 64 l).1, numE p0, numsE ps with
   | some q, some st, some as => some (mkPass q st as)
   | _, _, _ => none
theorem passS_eq {l : List UInt8} : passS l = passW l := by
 unfold passS passW
 by_cases h : (64 : UInt8) ∈ l
 ·obtain ⟨a, b, rfl, ha⟩ := mem_split h
  rw [cut1_hit ha]
  show (match spl 43 b with | [] => none | p0 :: ps => match numE a, numE p0, numsE ps with | some q, some st, some as => some (mkPass q st as) | _, _, _ => none) = _
  by_cases hp : (43 : UInt8) ∈ a
  ·rw [numE_dig hp (by decide)]
   obtain ⟨a1, a2, rfl, ha1⟩ := mem_split hp
   have e : spl 43 ((a1 ++ 43 :: a2) ++ 64 :: b) = a1 :: splp 43 [] (a2 ++ 64 :: b) := by
    rw [List.append_assoc, ← splp_nil, splp_notin ha1, List.cons_append, splp_hit, List.nil_append]
   rw [e]
   have e2 : spl 64 a1 = [a1] := spl_notin fun h => ha (by simp [h])
   show _ = (match spl 64 a1 with | [a, b] => _ | _ => none)
   rw [e2]
   cases spl 43 b with
   | nil => rfl
   | cons p0 ps => cases numE p0 <;> cases numsE ps <;> rfl
  ·cases hb : spl 43 b with
   | nil => exact absurd hb spl_ne
   | cons h0 t =>
    have e : spl 43 (a ++ 64 :: b) = (a ++ 64 :: h0) :: t := by
     rw [← splp_nil, splp_notin hp, splp_miss (by decide)]
     unfold splp
     rw [hb]; simp
    rw [e]
    show _ = (match spl 64 (a ++ 64 :: h0) with | [a, b] => _ | _ => none)
    have e2 : spl 64 (a ++ 64 :: h0) = a :: spl 64 h0 := by
     rw [← splp_nil, splp_notin ha, splp_hit, splp_nil, List.nil_append]
    rw [e2]
    by_cases hh : (64 : UInt8) ∈ h0
    ·obtain ⟨x, y, z, e3⟩ := spl_two hh
     rw [e3]
     show (match numE a, numE h0, numsE t with | some q, some st, some as => some (mkPass q st as) | _, _, _ => none) = none
     rw [numE_dig hh (by decide)]
     cases numE a <;> cases numsE t <;> rfl
    ·rw [spl_notin hh]; try rfl
 ·rw [cut1_notin h]
  show (match spl 43 [] with | [] => none | p0 :: ps => match numE l, numE p0, numsE ps with | some q, some st, some as => some (mkPass q st as) | _, _, _ => none) = _
  have e0 : spl 43 [] = [[]] := rfl
  rw [e0]
  have e1 : numE [] = none := rfl
  show (match numE l, numE [], numsE [] with | some q, some st, some as => some (mkPass q st as) | _, _, _ => none) = _
  rw [e1]
  have e2 : (match numE l, (none : Option Int), numsE [] with | some q, some st, some as => some (mkPass q st as) | _, _, _ => none) = none := by cases numE l <;> rfl
  rw [e2]
  cases hs : spl 43 l with
  | nil => rfl
  | cons p0 ps =>
   have hn : (64 : UInt8) ∉ p0 := by
    intro hm
    apply h
    have : ∀ (l : List UInt8) (x : List UInt8), x ∈ spl 43 l → ∀ c ∈ x, c ∈ l := by
     intro l
     induction l with
     | nil => intro x hx c hc; simp [spl] at hx; subst hx; simp at hc
     | cons y r ih =>
      intro x hx c hc
      rw [spl] at hx
      split at hx
      ·rcases List.mem_cons.1 hx with hx | hx
       ·subst hx; simp at hc
       ·exact List.mem_cons_of_mem _ (ih x hx c hc)
      ·cases hr : spl 43 r with
       | nil => exact absurd hr spl_ne
       | cons a t =>
        rw [hr] at hx ih
        rcases List.mem_cons.1 hx with hx | hx
        ·subst hx
         rcases List.mem_cons.1 hc with hc | hc
         ·simp [hc]
         ·exact List.mem_cons_of_mem _ (ih a (by simp) c hc)
        ·exact List.mem_cons_of_mem _ (ih x (List.mem_cons_of_mem _ hx) c hc)
    exact this l p0 (by rw [hs]; simp) _ hm
   show none = (match spl 64 p0 with | [a, b] => _ | _ => none)
   rw [spl_notin hn]
end Go.Ax.Sx.Sc

namespace Go.Ax.Sx.Sc
open Go.Ax
set_option linter.unusedSimpArgs false
set_option linter.unusedVariables false
set_option maxRecDepth 100000
theorem appm_growT {s : Sig} {bs : List (List AV)} {tk : List (Option Nat)} {es n b : Nat} {o : Own} {row r2 : List AV} (hb : bs[b]? = some row) (hl : row.length = n * es) (hn : 0 < n) (hm : n + 1 ≤ 4294967296) :
  appendmOp (s.push ⟨bs, tk⟩) es (.rsl s.acts.length b 0 es n 0) (.slice o es [r2]) = some (.rsl s.acts.length bs.length 0 es (n + 1) 0, s.push ⟨bs.set b [] ++ [row ++ r2], tk ++ [none]⟩) := by
 have hbox : (s.push ⟨bs, tk⟩).box s.acts.length b = some row := by rw [box_push]; exact hb
 have hreg : (s.push ⟨bs, tk⟩).regrow b (row ++ r2) = s.push ⟨bs.set b [] ++ [row ++ r2], tk ++ [none]⟩ := by
  unfold Sig.regrow
  rw [cur_push, onRec_push]
 simp [appendmOp, most, cur_push, nbox_push, hn, hm, hbox, hl, hreg]
theorem len_rslT {d b off es n cap : Nat} : lenOp false (.rsl d b off es n cap) = some (I (n : Int)) := rfl
theorem ix_rslT {d b es n : Nat} {i : Nat} (h : i < n) : indexAddrOp none es (.rsl d b 0 es n 0) (I (i : Int)) = some (.ptr d b (0 + i * es)) := by
 have h1 : idx (I (i : Int)) n = some i := by simp [idx]; omega
 simp [indexAddrOp, h1]
theorem mkm_two {s : Sig} {bs : List (List AV)} {tk : List (Option Nat)} : mkSlicemOp (s.push ⟨bs, tk⟩) 1 [B false] (I 2) (I 2) = some (.rsl s.acts.length bs.length 0 1 2 0, s.push ⟨bs ++ [[B false, B false]], tk⟩) := by
 have h1 : asNat (I 2) most = some 2 := by simp [asNat, most]
 have h2 : asNat (I 2) 2 = some 2 := by simp [asNat]
 simp only [mkSlicemOp, h1, h2, Option.bind_some]
 simp [cur_push, nbox_push, newBox_push, List.replicate]
theorem Acc.more {d es : Nat} {xs : List (List AV)} {x : AV} {og : Option Nat} {tk t2 : List (Option Nat)} (h : Acc d es xs x og tk) : Acc d es xs x og (tk ++ t2) := by
 cases og with
 | none => exact h
 | some g =>
  obtain ⟨h1, h2, h3⟩ := h
  exact ⟨h1, h2, by rw [List.getElem?_append_left (List.getElem?_eq_some_iff.1 h3).1]; exact h3⟩
theorem callL_inlS {f : FuncId} {np nt : Nat} {b : ACode} {rs : List ARes} {own : Bool} (hf : AP f = some (.code np nt b rs own)) {as : List AV} {m : Sig} (hl : as.length = np) (hm : m.ro < m.acts.length) :
  callL AP (.inl f) as m = go AP (fun e st => match e with | .exit _ => none | _ => (rawsOf st rs).map fun l => (packed l, st.sig)) [.c b] ⟨argsT as, m⟩ := by
 rw [callL_inl hf, if_pos ⟨hl, hm⟩]
 simp only [go, goE]
 cases h : runL AP b ⟨argsT as, m⟩ with
 | none => rfl
 | some p => obtain ⟨e, st'⟩ := p; cases e <;> rfl
section
variable {s : Sig} {w : W}
theorem z_Index_boolR {m : Sig} {d b n : Nat} {bs : List Bool} (hb : m.box d b = some (bs.map fun x => B x)) (hd : d < m.acts.length) (hn : bs.length = n) (hl : n ≤ 1000000) :
  callL AP (.fn 46) [.rsl d b 0 1 n 0, B false] m = some (I (findI (fun x => !x) bs), m) := by
 subst hn
 have key : ∀ k ρ q, k ≤ bs.length → (ρ 0 = .rsl d b 0 1 bs.length 0 ∧ ρ 1 = B false ∧ ρ 7 = I bs.length ∧ ρ 8 = I k ∧ (∀ (j : Nat) x, j < k → bs[j]? = some x → (!x) = false) ∧ q = m.push ⟨[], []⟩) → go AP f_z_Index_bool (.c (.loop b_z_Index_bool_l0) :: k_z_Index_bool_0) ⟨ρ, q⟩ = some (I (findI (fun x => !x) bs), m) := by
  refine loop_up bs.length _ _ ?_ ?_
  ·rintro k ρ q hk ⟨g0, g1, g7, g8, hno, rfl⟩ ih
   obtain ⟨x, hx⟩ := get_some hk
   have hix := ix_rslT (d := d) (b := b) (es := 1) hk
   have hrow : ∀ r, (m.push r).box d b = some (bs.map fun x => B x) := fun r => by rw [box_low hd]; exact hb
   have hget : (bs.map fun x => B x)[0 + k * 1]? = some (B x) := by rw [Nat.zero_add, Nat.mul_one, List.getElem?_map, hx]; rfl
   have hwr := wrap_succ hk (show (bs.length : Int) < _ by omega)
   cases x with
   | true =>
    simp (maxSteps := 1000000) only [go_sem, b_z_Index_bool_l0, g0, g1, g7, g8, lt_dec hk, hix, hrow, hget, eq_bool, hwr, Nat.reduceEqDiff, reduceCtorEq, ↓reduceIte]
    refine ih _ _ ?_
    refine ⟨g0, g1, g7, rfl, fun j y hj hy => ?_, rfl⟩
    by_cases hjk : j = k
    ·subst hjk; rw [hx] at hy; injection hy with hy; rw [← hy]; rfl
    ·exact hno j y (by omega) hy
   | false =>
    have hf : findI (fun x => !x) bs = (k : Int) := by
     rcases findI_cases (fun x => !x) bs with ⟨h1, h2⟩ | ⟨h1, j, y, h2, h3, h4, h5⟩
     ·have := List.any_eq_false.1 h1 false (List.mem_of_getElem? hx)
      simp at this
     ·rw [h4]
      have : j = k := by
       rcases Nat.lt_trichotomy j k with h | h | h
       ·have := hno j y h h2; rw [this] at h3; cases h3
       ·exact h
       ·have := h5 k false h hx; simp at this
      rw [this]
    rw [hf]
    simp (maxSteps := 1000000) only [go_sem, b_z_Index_bool_l0, g0, g1, g7, g8, lt_dec hk, hix, hrow, hget, eq_bool, Nat.reduceEqDiff, reduceCtorEq, ↓reduceIte]
  ·rintro ρ q ⟨g0, g1, g7, g8, hno, rfl⟩
   have hf : findI (fun x => !x) bs = -1 := by
    rcases findI_cases (fun x => !x) bs with ⟨h1, h2⟩ | ⟨h1, j, y, h2, h3, h4, h5⟩
    ·exact h2
    ·have := hno j y (List.getElem?_eq_some_iff.1 h2).1 h2
     rw [this] at h3; cases h3
   rw [hf]
   simp (maxSteps := 1000000) only [go_sem, b_z_Index_bool_l0, b_z_Index_bool_r0, g7, g8, ge_dec, Int.reduceNeg, ↓reduceIte]
 rw [callL_go (show AP 46 = some c_z_Index_bool from rfl) rfl]
 simp (maxSteps := 1000000) only [go_sem, b_z_Index_bool, len_rslT, reduceCtorEq, ↓reduceIte]
 refine key 0 _ _ (Nat.zero_le _) ?_
 exact ⟨rfl, rfl, rfl, rfl, fun j x hj => absurd hj (Nat.not_lt_zero _), rfl⟩
theorem z_Contains_boolR {m : Sig} {d b n : Nat} {bs : List Bool} (hb : m.box d b = some (bs.map fun x => B x)) (hd : d < m.acts.length) (hn : bs.length = n) (hl : n ≤ 1000000) :
  callL AP (.fn 25) [.rsl d b 0 1 n 0, B false] m = some (B (bs.any fun x => !x), m) := by
 have hi : ∀ r, callL AP (.fn 46) [.rsl d b 0 1 n 0, B false] (m.push r) = some (I (findI (fun x => !x) bs), m.push r) := fun r => z_Index_boolR (by rw [box_low hd]; exact hb) (low_push hd) hn hl
 rw [callL_go (show AP 25 = some c_z_Contains_bool from rfl) rfl]
 have := findI_nn (p := fun x => !x) (l := bs)
 simp (maxSteps := 1000000) only [go_sem, b_z_Contains_bool, hi, this, Nat.reduceEqDiff, reduceCtorEq, ↓reduceIte]
theorem strings_Cut {l : List UInt8} (hl : l.length ≤ 1000000) : callL AP (.fn 22) [S (tx l), S ⟨#[64]⟩] s = some (.tuple [S (tx (cut1 64 l).1), S (tx (cut1 64 l).2.1), B (cut1 64 l).2.2], s) := by
 rw [callL_prim (show AP 22 = some pCut from rfl)]
 simp only [closeAll_cons, closeAll_nil, close_str, Option.bind_some, Option.map_some, cutF]
 show Option.map _ (if (tx l).size ≤ 1000000 then _ else _) = _
 rw [if_pos (by rw [tx_size]; exact hl), tx_list]; rfl
theorem strings_Split {l : List UInt8} (hl : l.length ≤ 1000000) : callL AP (.fn 23) [S (tx l), S ⟨#[43]⟩] s = some (.slice .any 1 ((spl 43 l).map rowT), s) := by
 rw [callL_prim (show AP 23 = some pSplit from rfl)]
 simp only [closeAll_cons, closeAll_nil, close_str, Option.bind_some, Option.map_some, splitF]
 show Option.map _ (if (tx l).size ≤ 1000000 then _ else _) = _
 rw [if_pos (by rw [tx_size]; exact hl), tx_list]; rfl
theorem strings_Index {l : List UInt8} (hl : l.length ≤ 1000000) : callL AP (.fn 70) [S (tx l), S ⟨#[32]⟩] s = some (I (idx1 32 l), s) := by
 rw [callL_prim (show AP 70 = some pIndex from rfl)]
 simp only [closeAll_cons, closeAll_nil, close_str, Option.bind_some, Option.map_some, indexF]
 show Option.map _ (if (tx l).size ≤ 1000000 then _ else _) = _
 rw [if_pos (by rw [tx_size]; exact hl), tx_list]; rfl
theorem strings_SplitSeq {l : List UInt8} {a b c : List AV} (hs : Ok s) : callL AP (.inl 21) [S (tx l), S ⟨#[32]⟩] (s.push ⟨[a, b, c], []⟩) = some (.fn 68 [] [.ptr s.acts.length 4 0, .ptr s.acts.length 3 0, .ptr s.acts.length 5 0], s.push ⟨[a, b, c, [S (tx l)], [S ⟨#[32]⟩], [I 0]], []⟩) := by
 have hro : (s.push ⟨[a, b, c], []⟩).ro < (s.push ⟨[a, b, c], []⟩).acts.length := by
  have := hs.ro
  simp only [Sig.push, List.length_append, List.length_singleton]
  omega
 have h2 : callL AP (.inl 42) [S (tx l), S ⟨#[32]⟩, I 0] (s.push ⟨[a, b, c], []⟩) = some (.fn 68 [] [.ptr s.acts.length 4 0, .ptr s.acts.length 3 0, .ptr s.acts.length 5 0], s.push ⟨[a, b, c, [S (tx l)], [S ⟨#[32]⟩], [I 0]], []⟩) := by
  rw [callL_inlS (show AP 42 = some c_strings_splitSeq from rfl) rfl hro]
  simp (maxSteps := 1000000) only [go_sem, b_strings_splitSeq, Nat.reduceEqDiff, Nat.reduceAdd, ↓reduceIte]
  rfl
 rw [callL_inlS (show AP 21 = some c_strings_SplitSeq from rfl) rfl hro]
 simp (maxSteps := 1000000) only [go_sem, b_strings_SplitSeq, h2, Nat.reduceEqDiff, reduceCtorEq, ↓reduceIte]
 rfl
end
end Go.Ax.Sx.Sc

namespace Go.Ax.Sx.Sc
open Go.Ax
set_option linter.unusedSimpArgs false
set_option linter.unusedVariables false
set_option maxRecDepth 100000
abbrev ppB (e1 e2 x : AV) (rem : List UInt8) : List (List AV) := [[e1], [e2], [x], [S (tx rem)], [S ⟨#[32]⟩], [I 0]]
theorem pass_none {l : List UInt8} (h : passS l = none) {p0 : List UInt8} {ps : List (List UInt8)} (hs : spl 43 (cut1 64 l).2.1 = p0 :: ps) : (numE (cut1 64 l).1).isSome = false ∨ (numE p0).isSome = false ∨ (numsE ps).isSome = false := by
 unfold passS at h
 rw [hs] at h
 cases h1 : numE (cut1 64 l).1 with
 | none => exact .inl rfl
 | some a =>
  cases h2 : numE p0 with
  | none => exact .inr (.inl rfl)
  | some b =>
   cases h3 : numsE ps with
   | none => exact .inr (.inr rfl)
   | some c =>
    have h : (match numE (cut1 64 l).1, numE p0, numsE ps with | some q, some st, some as => some (mkPass q st as) | _, _, _ => none) = none := h
    rw [h1, h2, h3] at h; cases h
theorem pass_some {l : List UInt8} {p : P} (h : passS l = some p) {p0 : List UInt8} {ps : List (List UInt8)} (hs : spl 43 (cut1 64 l).2.1 = p0 :: ps) : ∃ a b c, numE (cut1 64 l).1 = some a ∧ numE p0 = some b ∧ numsE ps = some c ∧ p = mkPass a b c := by
 unfold passS at h
 rw [hs] at h
 have h : (match numE (cut1 64 l).1, numE p0, numsE ps with | some q, some st, some as => some (mkPass q st as) | _, _, _ => none) = some p := h
 cases h1 : numE (cut1 64 l).1 with
 | none => rw [h1] at h; cases h
 | some a =>
  cases h2 : numE p0 with
  | none => rw [h1, h2] at h; cases h
  | some b =>
   cases h3 : numsE ps with
   | none => rw [h1, h2, h3] at h; cases h
   | some c =>
    rw [h1, h2, h3] at h
    injection h with h
    exact ⟨a, b, c, rfl, rfl, rfl, h.symm⟩
theorem cut1_len {c : UInt8} : ∀ {l : List UInt8}, (cut1 c l).1.length ≤ l.length ∧ (cut1 c l).2.1.length ≤ l.length
 | [] => by simp [cut1]
 | x :: r => by
  have ih := cut1_len (c := c) (l := r)
  rw [cut1]
  split
  ·simp
  ·simp only [List.length_cons]; omega
section
variable {s : Sig} {w : W}
theorem pp_set {A row r2 : List AV} {k : Nat} : (A :: (List.replicate k [] ++ [row])).set (k + 1) [] ++ [r2] = A :: (List.replicate (k + 1) [] ++ [r2]) := by
 rw [List.set_cons_succ, List.set_append_right _ _ (by simp), List.length_replicate, Nat.sub_self, List.set_cons_zero, List.replicate_succ']
 simp
theorem pp_get {A row : List AV} {k : Nat} : (A :: (List.replicate k [] ++ [row]))[k + 1]? = some row := by
 rw [List.getElem?_cons_succ, List.getElem?_append_right (by simp), List.length_replicate, Nat.sub_self]; rfl
theorem pp_nums {Q : Sig} {l : Nat} {ps : List (List UInt8)} {q1 q2 : Int} {o1 o2 : Bool} {o' : Own} {p2 p3 p4 : AV} {R : Option (AV × Sig) → Prop} (hQ : Ok Q) (hps : ∀ x ∈ ps, x.length ≤ 100000) (hln : ps.length ≤ 100000)
    (fin : ∀ (ρ : Nat → AV) (as : List Int) (oks : List Bool) (xa : AV) (og : Option Nat) (tk : List (Option Nat)), (ρ 2 = p2 ∧ ρ 3 = p3 ∧ ρ 4 = p4) → ρ 10 = .ptr Q.acts.length 0 0 → ρ 11 = .rsl Q.acts.length (ps.length + 1) 0 1 (ps.length + 2) 0 → oks = o1 :: o2 :: ps.map (fun x => (numE x).isSome) → (∀ bs, numsE ps = some bs → as = bs) → Acc Q.acts.length 1 (as.map rowI) xa og tk →
      R (go AP (finR l) k_s_ParsePlan_1 ⟨ρ, Q.push ⟨[I q1, I q2, xa] :: (List.replicate ps.length [] ++ [oks.map fun b => B b]), tk⟩⟩)) :
    ∀ (k : Nat) ρ m, k ≤ ps.length → ((ρ 2 = p2 ∧ ρ 3 = p3 ∧ ρ 4 = p4) ∧ ρ 10 = .ptr Q.acts.length 0 0 ∧ ρ 11 = .rsl Q.acts.length (k + 1) 0 1 (k + 2) 0 ∧ ρ 52 = .slice o' 1 (ps.map rowT) ∧ ρ 53 = I ps.length ∧ ρ 54 = I k ∧
      ∃ (as : List Int) (xa : AV) (og : Option Nat) (tk : List (Option Nat)), as.length = k ∧ (∀ bs, numsE (ps.take k) = some bs → as = bs) ∧ Acc Q.acts.length 1 (as.map rowI) xa og tk ∧ m = Q.push ⟨[I q1, I q2, xa] :: (List.replicate k [] ++ [(o1 :: o2 :: (ps.take k).map (fun x => (numE x).isSome)).map fun b => B b]), tk⟩) →
      R (go AP (finR l) (.c (.loop b_s_ParsePlan_l1) :: k_s_ParsePlan_1) ⟨ρ, m⟩) := by
  have key := loop_ex (AP := AP) (F := finR l) (L := b_s_ParsePlan_l1) (ks := k_s_ParsePlan_1) ps.length (fun k ρ m => (ρ 2 = p2 ∧ ρ 3 = p3 ∧ ρ 4 = p4) ∧ ρ 10 = .ptr Q.acts.length 0 0 ∧ ρ 11 = .rsl Q.acts.length (k + 1) 0 1 (k + 2) 0 ∧ ρ 52 = .slice o' 1 (ps.map rowT) ∧ ρ 53 = I ps.length ∧ ρ 54 = I k ∧
      ∃ (as : List Int) (xa : AV) (og : Option Nat) (tk : List (Option Nat)), as.length = k ∧ (∀ bs, numsE (ps.take k) = some bs → as = bs) ∧ Acc Q.acts.length 1 (as.map rowI) xa og tk ∧ m = Q.push ⟨[I q1, I q2, xa] :: (List.replicate k [] ++ [(o1 :: o2 :: (ps.take k).map (fun x => (numE x).isSome)).map fun b => B b]), tk⟩) R ?_ ?_
  · exact key
  · rintro k ρ m hk ⟨g0, g10, g11, g52, g53, g54, as, xa, og, tk, hlen, has, hA, rfl⟩ ih
    obtain ⟨wd, hwd⟩ := get_some hk
    have hwl := hps wd (List.mem_of_getElem? hwd)
    have hr := ix_map (f := rowT) (o := o') (es := 1) hwd
    obtain ⟨n, hn1, hn2⟩ := s_number (s := Q.push ⟨[I q1, I q2, xa] :: (List.replicate k [] ++ [(o1 :: o2 :: (ps.take k).map (fun x => (numE x).isSome)).map fun b => B b]), tk⟩) (l := wd) (by omega)
    obtain ⟨x', og', tk', ha1, ha2, _⟩ := hA.append hQ .full (ys := [[I n]]) (by simp) (by simp; omega)
    have hap := appm_growT (s := Q) (bs := [I q1, I q2, xa] :: (List.replicate k [] ++ [(o1 :: o2 :: (ps.take k).map (fun x => (numE x).isSome)).map fun b => B b])) (tk := tk') (es := 1) (n := k + 2) (b := k + 1) (o := .full) (r2 := [B (numE wd).isSome]) pp_get (by simp; omega) (by omega) (by omega)
    rw [pp_set] at hap
    have hbl : ([I q1, I q2, xa] :: (List.replicate k [] ++ [(o1 :: o2 :: (ps.take k).map (fun x => (numE x).isSome)).map fun b => B b])).length = k + 1 + 1 := by simp
    rw [hbl] at hap
    have hwr := wrap_succ hk (show (ps.length : Int) < _ by omega)
    have hok2 : (o1 :: o2 :: (ps.take (k + 1)).map (fun x => (numE x).isSome)).map (fun b => B b) = (o1 :: o2 :: (ps.take k).map (fun x => (numE x).isSome)).map (fun b => B b) ++ [B (numE wd).isSome] := by rw [take_get hwd]; simp
    have goal3 : ∀ bs, numsE (ps.take (k + 1)) = some bs → as ++ [n] = bs := by
      intro bs hbs
      rw [take_get hwd, numsE_app] at hbs
      cases h1 : numsE (ps.take k) with
      | none => rw [h1] at hbs; cases hbs
      | some t =>
        cases h2 : numE wd with
        | none => rw [h1, h2] at hbs; cases hbs
        | some v =>
          rw [h1, h2] at hbs
          injection hbs with hbs
          rw [← hbs, has t h1, hn2 v h2]
    obtain ⟨o2', e2', r2', rfl⟩ := Acc.sl ha2
    obtain ⟨ox, ex, rx, rfl⟩ := Acc.sl hA
    generalize hbools : (o1 :: o2 :: (ps.take k).map (fun x => (numE x).isSome)).map (fun b => B b) = bools at *
    simp only [rowT] at hr
    simp (maxSteps := 1000000) only [go_sem, b_s_ParsePlan_l1, g10, g11, g52, g53, g54, hQ, lt_dec hk, hr, hn1, ha1, hap, hwr, Nat.reduceEqDiff, Nat.reduceAdd, ↓reduceIte]
    refine ih _ _ ?_
    refine ⟨g0, g10, rfl, g52, g53, rfl, as ++ [n], .slice o2' e2' r2', og', tk' ++ [none], by simp [hlen], goal3, ?_, ?_⟩
    · rw [List.map_append]; exact Acc.more ha2
    · rw [hok2]
  · rintro ρ m ⟨g0, g10, g11, g52, g53, g54, as, xa, og, tk, hlen, has, hA, rfl⟩
    rw [List.take_length] at has
    simp (maxSteps := 1000000) only [go_sem, b_s_ParsePlan_l1, g53, g54, ge_dec, ↓reduceIte]
    rw [List.take_length]
    refine fin _ as (o1 :: o2 :: ps.map (fun x => (numE x).isSome)) xa og tk ?_ ?_ ?_ rfl has hA
    · exact g0
    · exact g10
    · exact g11
theorem anyno_iff {o1 o2 : Bool} {ps : List (List UInt8)} : ((o1 :: o2 :: ps.map (fun x => (numE x).isSome)).any fun x => !x) = !(o1 && o2 && (numsE ps).isSome) := by
 have h : ∀ {ps : List (List UInt8)}, ((ps.map (fun x => (numE x).isSome)).any fun x => !x) = !(numsE ps).isSome := by
  intro ps
  induction ps with
  | nil => rfl
  | cons x r ih =>
   rw [List.map_cons, List.any_cons, ih]
   simp only [numsE]
   cases numE x <;> cases numsE r <;> rfl
 rw [List.any_cons, List.any_cons, h]
 cases o1 <;> cases o2 <;> simp
theorem pp_round {X T : Rec → Sig} {l d : Nat} {ρ : Nat → AV} {r : Rec} {wd rem : List UInt8} {x : AV} {og : Option Nat} {dn : List P} (hM : Mid X d) (hX : ∀ r, busy l (T r) = X r) (hR : ∀ r, Ready l ⟨true, none, ρ, [23], b_s_ParsePlan_a1, b_s_ParsePlan_y0⟩ (T r)) (hok : ∀ r, Ok (T r))
  (h2 : ρ 2 = .ptr d 0 0) (h3 : ρ 3 = .ptr d 1 0) (h4 : ρ 4 = .ptr d 2 0) (hd : dn.length < 1000000) (hw : wd.length ≤ 100000)
  (hb : r.boxes = ppB (.slice .nilS 0 []) (I 0) x rem) (hA : Acc d 3 (dn.map rowP) x og r.toks) :
  (∀ p, passW wd = some p → ∃ r' x' og', callL AP (.yield l) [S (tx wd)] (T r) = some (.v (.bool true), T r') ∧ r'.boxes = ppB (.slice .nilS 0 []) (I 0) x' rem ∧ Acc d 3 ((dn ++ [p]).map rowP) x' og' r'.toks) ∧
  (passW wd = none → ∃ r', callL AP (.yield l) [S (tx wd)] (T r) = some (.v (.bool false), over l .ret (T r')) ∧ r'.boxes = ppB (.slice .nilS 0 []) (I 7) x rem) := by
 have hfin : ∀ r ρ' q, finR l .normal ⟨ρ', (X r).push q⟩ = some (.v (.bool true), T r) := fun r ρ' q => by rw [← hX]; exact finR_n (hR r)
 have hfinr : ∀ r ρ' q, finR l .ret ⟨ρ', (X r).push q⟩ = some (.v (.bool false), over l .ret (T r)) := fun r ρ' q => by rw [← hX]; exact finR_r
 have hokX : ∀ r, Ok (X r) := fun r => by rw [← hX]; exact (hok r).busy
 have hTX : ∀ r, (T r).acts.length = (X r).acts.length := fun r => by rw [← hX]; rfl
 have k2 : ∀ q, ((X r).push q).box d 2 = some [x] := fun q => by rw [hM.box, hb]; rfl
 have st0 : ∀ q, ((X r).push q).store 1 (.ptr d 0 0) (.slice .nilS 0 []) = some ((X ⟨r.boxes.set 0 [.slice .nilS 0 []], r.toks⟩).push q) := fun q =>
  hM.store (r := r) (r0 := q) (b := 0) (off := 0) (n := 1) (y := .slice .nilS 0 []) (by rfl) (by rfl) (row := [.slice .nilS 0 []]) (row' := [.slice .nilS 0 []]) (by rw [hb]; rfl) rfl
 have st1 : ∀ q, ((X ⟨r.boxes.set 0 [.slice .nilS 0 []], r.toks⟩).push q).store 1 (.ptr d 1 0) (I 7) = some ((X ⟨(r.boxes.set 0 [.slice .nilS 0 []]).set 1 [I 7], r.toks⟩).push q) := fun q =>
  hM.store (r := ⟨r.boxes.set 0 [.slice .nilS 0 []], r.toks⟩) (r0 := q) (b := 1) (off := 0) (n := 1) (y := I 7) (by rfl) (by rfl) (row := [I 0]) (row' := [I 7]) (by rw [hb]; rfl) rfl
 have hlt : d < (X r).acts.length := hM.lt r
 have hc : ∀ q, callL AP (.fn 22) [S (tx wd), S ⟨#[64]⟩] ((X r).push q) = some (.tuple [S (tx (cut1 64 wd).1), S (tx (cut1 64 wd).2.1), B (cut1 64 wd).2.2], (X r).push q) := fun q => strings_Cut (by omega)
 have hcl := cut1_len (c := 64) (l := wd)
 have hps0 : ∀ p0 ps, spl 43 (cut1 64 wd).2.1 = p0 :: ps → (passW wd).isSome = ((numE (cut1 64 wd).1).isSome && (numE p0).isSome && (numsE ps).isSome) ∧ ∀ p, passW wd = some p → ∃ a b c, numE (cut1 64 wd).1 = some a ∧ numE p0 = some b ∧ numsE ps = some c ∧ p = mkPass a b c := fun p0 ps h => by
  rw [← passS_eq]
  refine ⟨?_, fun p hp => pass_some hp h⟩
  cases hq : passS wd with
  | none =>
   rcases pass_none hq h with h | h | h
   ·rw [h]; rfl
   ·rw [h, Bool.and_false]; rfl
   ·rw [h, Bool.and_false]; rfl
  | some p =>
   obtain ⟨a, b, c, h1, h2, h3, _⟩ := pass_some hq h
   rw [h1, h2, h3]; rfl
 generalize hwa : (cut1 64 wd).1 = wa at *
 generalize hwb : (cut1 64 wd).2.1 = wb at *
 generalize (cut1 64 wd).2.2 = wc at *
 have hsp : ∀ q, callL AP (.fn 23) [S (tx wb), S ⟨#[43]⟩] ((X r).push q) = some (.slice .any 1 ((spl 43 wb).map rowT), (X r).push q) := fun q => strings_Split (by omega)
 cases hpp : spl 43 wb with
 | nil => exact absurd hpp spl_ne
 | cons p0 ps =>
  rw [hpp] at hsp
  obtain ⟨hps1, hps2⟩ := hps0 p0 ps hpp
  have hlp : p0.length ≤ wb.length := spl_sub (c := 43) p0 (by rw [hpp]; simp)
  have hlps : ∀ x ∈ ps, x.length ≤ 100000 := fun x hx => by have := spl_sub (c := 43) (l := wb) x (by rw [hpp]; simp [hx]); omega
  have hln : ps.length + 1 ≤ wb.length + 1 := by have := spl_len (c := 43) (l := wb); rw [hpp] at this; simpa using this
  obtain ⟨q1, hq1, hq2⟩ := s_number (s := (X r).push ⟨[[I 0, I 0, .slice .nilS 0 []], [B false, B false]], []⟩) (l := wa) (by omega)
  obtain ⟨q2, hst1, hst2⟩ := s_number (s := (X r).push ⟨[[I q1, I 0, .slice .nilS 0 []], [B (numE wa).isSome, B false]], []⟩) (l := p0) (by omega)
  have hr0 : indexAddrOp none 1 (.slice .any 1 (((p0 :: ps)).map rowT)) (I 0) = some (.eptr (rowT p0) 0) := ix_map (f := rowT) (o := .any) (es := 1) (l := p0 :: ps) (k := 0) rfl
  have hx0 : indexAddrOp none 1 (.rsl (X r).acts.length 1 0 1 2 0) (I 0) = some (.ptr (X r).acts.length 1 0) := ix_rslT (i := 0) (by omega)
  have hx1 : indexAddrOp none 1 (.rsl (X r).acts.length 1 0 1 2 0) (I 1) = some (.ptr (X r).acts.length 1 1) := ix_rslT (i := 1) (by omega)
  obtain ⟨o', ho'⟩ := slice_drop (f := rowT) (o := .any) (es := 1) (l := p0 :: ps) (k := 1) (by simp)
  have hmk : ∀ bs tk, mkSlicemOp ((X r).push ⟨bs, tk⟩) 1 [B false] (I 2) (I 2) = some (.rsl (X r).acts.length bs.length 0 1 2 0, (X r).push ⟨bs ++ [[B false, B false]], tk⟩) := fun bs tk => mkm_two
  have body : ∀ (R : Option (AV × Sig) → Prop), (∀ (ρ' : Nat → AV) (as : List Int) (oks : List Bool) (xa : AV) (og : Option Nat) (tk : List (Option Nat)), (ρ' 2 = .ptr d 0 0 ∧ ρ' 3 = .ptr d 1 0 ∧ ρ' 4 = .ptr d 2 0) → ρ' 10 = .ptr (X r).acts.length 0 0 → ρ' 11 = .rsl (X r).acts.length (ps.length + 1) 0 1 (ps.length + 2) 0 → oks = (numE wa).isSome :: (numE p0).isSome :: ps.map (fun x => (numE x).isSome) → (∀ bs, numsE ps = some bs → as = bs) → Acc (X r).acts.length 1 (as.map rowI) xa og tk →
    R (go AP (finR l) k_s_ParsePlan_1 ⟨ρ', (X r).push ⟨[I q1, I q2, xa] :: (List.replicate ps.length [] ++ [oks.map fun b => B b]), tk⟩⟩)) → R (callL AP (.yield l) [S (tx wd)] (T r)) := by
   intro R hfinish
   have hn := pp_nums (l := l) (o' := o') (hokX r) hlps (by omega) hfinish 0
   rw [callL_round (hR r) rfl]
   have ho2 : sliceOp (.sl 1) (.slice .any 1 ((p0 :: ps).map rowT)) (some (I 1)) none none = some (.slice o' 1 (ps.map rowT)) := ho'
   simp only [List.map_cons, rowT] at hr0 hsp ho2
   simp (maxSteps := 1000000) only [go_sem, b_s_ParsePlan_a1, finA_n (hR r), setParams_1, ↓reduceIte]
   simp (maxSteps := 1000000) only [go_sem, b_s_ParsePlan_y0, hX, hokX, hc, hsp, hmk, hq1, hst1, hr0, hx0, hx1, ho2, Nat.reduceEqDiff, Nat.reduceAdd, ↓reduceIte]
   refine hn _ _ (Nat.zero_le _) ?_
   refine ⟨⟨h2, h3, h4⟩, rfl, rfl, rfl, rfl, rfl, [], .slice .nilS 0 [], none, [], rfl, fun bs h => ?_, Acc.start, rfl⟩
   rw [List.take_zero] at h; simp only [numsE, Option.some.injEq] at h; exact h
  have hcont : ∀ (oks : List Bool) (xa : AV) (tk : List (Option Nat)) (oo : Bool), oks = (numE wa).isSome :: (numE p0).isSome :: ps.map (fun x => (numE x).isSome) → oo = !(passW wd).isSome → callL AP (.fn 25) [.rsl (X r).acts.length (ps.length + 1) 0 1 (ps.length + 2) 0, B false] ((X r).push ⟨[I q1, I q2, xa] :: (List.replicate ps.length [] ++ [oks.map fun b => B b]), tk⟩) = some (B oo, (X r).push ⟨[I q1, I q2, xa] :: (List.replicate ps.length [] ++ [oks.map fun b => B b]), tk⟩) := by
   intro oks xa tk oo ho hoo
   rw [z_Contains_boolR (bs := oks) (by rw [box_push]; exact pp_get) low_self (by rw [ho]; simp) (by omega), ho, anyno_iff, hoo, hps1]
  refine ⟨fun p hp => ?_, fun hp => ?_⟩
  ·obtain ⟨a, b, c, e1, e2, e3, rfl⟩ := hps2 p hp
   refine body (fun R => ∃ r' x' og', R = some (.v (.bool true), T r') ∧ r'.boxes = ppB (.slice .nilS 0 []) (I 0) x' rem ∧ Acc d 3 ((dn ++ [mkPass a b c]).map rowP) x' og' r'.toks) ?_
   rintro ρ' as oks xa og2 tk ⟨g2, g3, g4⟩ g10 g11 ho has hA2
   have hcn := hcont oks xa tk false ho (by rw [hp]; rfl)
   have hmp : mkPass a b c = mkPass q1 q2 as := by rw [hq2 a e1, hst2 b e2, has c e3]
   rw [hmp]
   have hxc : xa.close = some ((acS 1 as).v rowI) := by rw [hA2.close, acS_v]
   generalize (List.replicate ps.length [] ++ [oks.map fun b => B b]) = bs at hcn ⊢
   obtain ⟨x1, m1, r0', x', og', tk', a1, a2, a3, a4, a5, a6⟩ := hM.append (r0 := ⟨[I q1, I q2, xa] :: bs, tk⟩) hA .full (ys := [rowP (mkPass q1 q2 as)]) (by simp) (by simp; omega) (b := 2) (by rw [hb]; simp) ⟨x, by rw [hb]; rfl⟩
   obtain ⟨ox, ex, rx, rfl⟩ := Acc.sl hA2
   refine ⟨⟨r.boxes.set 2 [x'], tk'⟩, x', og', ?_, by rw [hb]; rfl, by rw [List.map_append]; exact a4⟩
   simp only [rowP, Sl.v, mkPass] at a1 a2 hxc
   simp (maxSteps := 1000000) only [go_sem, b_s_ParsePlan_r1, g4, g10, g11, hcn, k2, hxc, a1, a2, hfin, Nat.reduceEqDiff, ↓reduceIte]
  ·refine body (fun R => ∃ r', R = some (.v (.bool false), over l .ret (T r')) ∧ r'.boxes = ppB (.slice .nilS 0 []) (I 7) x rem) ?_
   rintro ρ' as oks xa og2 tk ⟨g2, g3, g4⟩ g10 g11 ho has hA2
   have hcn := hcont oks xa tk true ho (by rw [hp]; rfl)
   refine ⟨⟨(r.boxes.set 0 [.slice .nilS 0 []]).set 1 [I 7], r.toks⟩, ?_, by rw [hb]; rfl⟩
   simp (maxSteps := 1000000) only [go_sem, b_s_ParsePlan_r1, g2, g3, g11, hcn, st0, st1, hfinr, Nat.reduceEqDiff, ↓reduceIte]
end
end Go.Ax.Sx.Sc

namespace Go.Ax.Sx.Sc
open Go.Ax
set_option linter.unusedSimpArgs false
set_option linter.unusedVariables false
set_option maxRecDepth 100000
theorem mid_enter {s : Sig} {lp : ALoop} (hs : Ok s) : Mid (fun r => enterLoop (s.push r) lp) s.acts.length := by
 refine ⟨fun r => ?_, fun r f => ?_, fun r => hs.ro⟩
 ·simp [enterLoop, Sig.push]
 ·have : (s.acts ++ [r]).modify s.acts.length f = s.acts ++ [f r] := congrArg Sig.acts (onRec_push s r f)
  simp only [Sig.onRec, enterLoop, Sig.push, this]
abbrev ppT (s : Sig) (ρ : Nat → AV) (r : Rec) : Sig := enterLoop (s.push r) ⟨true, none, ρ, [23], b_s_ParsePlan_a1, b_s_ParsePlan_y0⟩
section
variable {s : Sig} {w : W}
theorem pp_word {ρ : Nat → AV} {r : Rec} {wd rem : List UInt8} {x : AV} {og : Option Nat} {dn : List P} (hs : Ok s)
  (h2 : ρ 2 = .ptr s.acts.length 0 0) (h3 : ρ 3 = .ptr s.acts.length 1 0) (h4 : ρ 4 = .ptr s.acts.length 2 0) (hd : dn.length < 1000000) (hw : wd.length ≤ 100000)
  (hb : r.boxes = ppB (.slice .nilS 0 []) (I 0) x rem) (hA : Acc s.acts.length 3 (dn.map rowP) x og r.toks) (q : Rec) :
  (∀ p, passW wd = some p → ∃ r' x' og', callL AP (.yield s.loops.length) [S (tx wd)] ((ppT s ρ r).push q) = some (.v (.bool true), (ppT s ρ r').push q) ∧ r'.boxes = ppB (.slice .nilS 0 []) (I 0) x' rem ∧ Acc s.acts.length 3 ((dn ++ [p]).map rowP) x' og' r'.toks) ∧
  (passW wd = none → ∃ r', callL AP (.yield s.loops.length) [S (tx wd)] ((ppT s ρ r).push q) = some (.v (.bool false), (over s.loops.length .ret (ppT s ρ r')).push q) ∧ r'.boxes = ppB (.slice .nilS 0 []) (I 7) x rem) := by
 have hM : Mid (fun r => up (busy s.loops.length (enterLoop (s.push r) ⟨true, none, ρ, [23], b_s_ParsePlan_a1, b_s_ParsePlan_y0⟩)) [q] []) s.acts.length := mid_loop hs
 have hX : ∀ r, busy s.loops.length (up (ppT s ρ r) [q] []) = (fun r => up (busy s.loops.length (enterLoop (s.push r) ⟨true, none, ρ, [23], b_s_ParsePlan_a1, b_s_ParsePlan_y0⟩)) [q] []) r := fun r => up_busy (by simp [enterLoop, Sig.push])
 have hov : ∀ r, over s.loops.length .ret (up (ppT s ρ r) [q] []) = (over s.loops.length .ret (ppT s ρ r)).push q := fun r => by rw [up_over (by simp [enterLoop, Sig.push]), ← push_up]
 have := pp_round (T := fun r => up (ppT s ρ r) [q] []) (rem := rem) hM hX (fun r => up_ready (enter_ready (hs.push r))) (fun r => ((hs.push _).enter).up) h2 h3 h4 hd hw hb hA
 simp only [hov] at this
 simp only [← push_up] at this
 exact this
theorem passesE_cons {x : List UInt8} {r : List (List UInt8)} {ps : List P} (h : passesE (x :: r) = some ps) : ∃ p t, passW x = some p ∧ passesE r = some t ∧ ps = p :: t := by
 simp only [passesE] at h
 split at h
 ·rename_i v t h1 h2
  injection h with h
  exact ⟨v, t, h1, h2, h.symm⟩
 ·cases h
theorem split_loop {ρ1 : Nat → AV} (hs : Ok s) (h2 : ρ1 2 = .ptr s.acts.length 0 0) (h3 : ρ1 3 = .ptr s.acts.length 1 0) (h4 : ρ1 4 = .ptr s.acts.length 2 0) :
  ∀ (n : Nat) (rem : List UInt8) (dn : List P) (r : Rec) (x : AV) (og : Option Nat) (ρ : Nat → AV), rem.length < n → dn.length + rem.length ≤ 100000 → r.boxes = ppB (.slice .nilS 0 []) (I 0) x rem → Acc s.acts.length 3 (dn.map rowP) x og r.toks →
   (ρ 0 = .yield s.loops.length ∧ ρ 1 = .ptr s.acts.length 4 0 ∧ ρ 2 = .ptr s.acts.length 3 0 ∧ ρ 3 = .ptr s.acts.length 5 0) →
   (∀ ps, passesE (spl 32 rem) = some ps → ∃ r' x' og' rem', go AP f_strings_splitSeq_1 (.c (.loop b_strings_splitSeq_1_l0) :: k_strings_splitSeq_1_0) ⟨ρ, (ppT s ρ1 r).push ⟨[], []⟩⟩ = some (.tuple [], ppT s ρ1 r') ∧ r'.boxes = ppB (.slice .nilS 0 []) (I 0) x' rem' ∧ Acc s.acts.length 3 ((dn ++ ps).map rowP) x' og' r'.toks) ∧
   (passesE (spl 32 rem) = none → ∃ r' x' rem', go AP f_strings_splitSeq_1 (.c (.loop b_strings_splitSeq_1_l0) :: k_strings_splitSeq_1_0) ⟨ρ, (ppT s ρ1 r).push ⟨[], []⟩⟩ = some (.tuple [], over s.loops.length .ret (ppT s ρ1 r')) ∧ r'.boxes = ppB (.slice .nilS 0 []) (I 7) x' rem') := by
 have hM : Mid (fun r => ppT s ρ1 r) s.acts.length := mid_enter hs
 have hokT : ∀ r, Ok (ppT s ρ1 r) := fun r => (hs.push r).enter
 intro n
 induction n with
 | zero => intro rem dn r x og ρ hn; omega
 | succ n ih =>
  rintro rem dn r x og ρ hn hdl hb hA ⟨g0, g1, g2, g3⟩
  have k3 : ∀ q, ((ppT s ρ1 r).push q).box s.acts.length 3 = some [S (tx rem)] := fun q => by rw [hM.box (X := fun r => ppT s ρ1 r), hb]; rfl
  have k4 : ∀ q, ((ppT s ρ1 r).push q).box s.acts.length 4 = some [S ⟨#[32]⟩] := fun q => by rw [hM.box (X := fun r => ppT s ρ1 r), hb]; rfl
  have k5 : ∀ q, ((ppT s ρ1 r).push q).box s.acts.length 5 = some [I 0] := fun q => by rw [hM.box (X := fun r => ppT s ρ1 r), hb]; rfl
  have hix : ∀ q, callL AP (.fn 70) [S (tx rem), S ⟨#[32]⟩] q = some (I (idx1 32 rem), q) := fun q => strings_Index (by omega)
  have hge := idx1_ge (c := 32) (l := rem)
  by_cases hm : idx1 32 rem = -1
  ·rw [spl_miss hm]
   have hd1 : decide (idx1 32 rem < 0) = true := by simp only [decide_eq_true_eq]; omega
   obtain ⟨w1, w2⟩ := pp_word (wd := rem) hs h2 h3 h4 (by omega) (by omega) hb hA ⟨[], []⟩
   refine ⟨fun ps hps => ?_, fun hps => ?_⟩
   ·obtain ⟨p, t, e1, e2, rfl⟩ := passesE_cons hps
    injection e2 with e2
    subst e2
    obtain ⟨r', x', og', c1, c2, c3⟩ := w1 p e1
    refine ⟨r', x', og', rem, ?_, c2, c3⟩
    rw [go_loop]
    simp (maxSteps := 1000000) only [go_sem, b_strings_splitSeq_1_l0, b_strings_splitSeq_1_r0, g0, g1, g2, k3, k4, hix, hd1, c1, Nat.reduceEqDiff, reduceCtorEq, ↓reduceIte]
   ·have e1 : passW rem = none := by
     cases h : passW rem with
     | none => rfl
     | some v => simp only [passesE, h] at hps; cases hps
    obtain ⟨r', c1, c2⟩ := w2 e1
    refine ⟨r', x, rem, ?_, c2⟩
    rw [go_loop]
    simp (maxSteps := 1000000) only [go_sem, b_strings_splitSeq_1_l0, b_strings_splitSeq_1_r0, g0, g1, g2, k3, k4, hix, hd1, c1, Nat.reduceEqDiff, reduceCtorEq, ↓reduceIte]
  ·obtain ⟨i, hi⟩ : ∃ i : Nat, idx1 32 rem = i := ⟨(idx1 32 rem).toNat, by omega⟩
   have hroom : i < rem.length := by
    have : ∀ (l : List UInt8) (i : Nat), idx1 32 l = i → i < l.length := by
     intro l
     induction l with
     | nil => intro i h; simp [idx1] at h
     | cons b l ih =>
      intro i h
      rw [idx1] at h
      split at h
      ·simp only [List.length_cons]; omega
      ·split at h
       ·omega
       ·have := ih (i - 1) (by omega)
        simp only [List.length_cons]; omega
    exact this rem i hi
   rw [hi] at hix
   rw [spl_hit hi]
   have hd1 : decide ((i : Int) < 0) = false := by simp only [decide_eq_false_iff_not]; omega
   have w0 : IntKind.i64.wrap ((i : Int) + 0) = (i : Int) := by rw [wrap_id] <;> omega
   have w1' : IntKind.i64.wrap ((i : Int) + (((⟨#[32]⟩ : ByteArray).size : Nat) : Int)) = ((i + 1 : Nat) : Int) := by
    show IntKind.i64.wrap ((i : Int) + 1) = _
    rw [wrap_id] <;> omega
   have sl1 := sl_strl (l := rem) (b := i) (by omega)
   have sl2 := sl_strh (l := rem) (a := i + 1) (by omega)
   obtain ⟨w1, w2⟩ := pp_word (wd := rem.take i) hs h2 h3 h4 (by omega) (by rw [List.length_take]; omega) hb hA ⟨[], []⟩
   cases hw : passW (rem.take i) with
   | none =>
    obtain ⟨r', c1, c2⟩ := w2 hw
    refine ⟨fun ps hps => ?_, fun _ => ?_⟩
    ·obtain ⟨p, t, e1, e2, rfl⟩ := passesE_cons hps
     rw [hw] at e1; cases e1
    ·refine ⟨r', x, rem, ?_, c2⟩
     rw [go_loop]
     simp (maxSteps := 1000000) only [go_sem, b_strings_splitSeq_1_l0, g0, g1, g2, g3, k3, k4, k5, hix, hd1, w0, sl1, c1, Nat.reduceEqDiff, reduceCtorEq, ↓reduceIte]
   | some p =>
    obtain ⟨r', x', og', c1, c2, c3⟩ := w1 p hw
    have k3' : ∀ q, ((ppT s ρ1 r').push q).box s.acts.length 3 = some [S (tx rem)] := fun q => by rw [hM.box (X := fun r => ppT s ρ1 r), c2]; rfl
    have k4' : ∀ q, ((ppT s ρ1 r').push q).box s.acts.length 4 = some [S ⟨#[32]⟩] := fun q => by rw [hM.box (X := fun r => ppT s ρ1 r), c2]; rfl
    have st3 : ∀ q, ((ppT s ρ1 r').push q).store 1 (.ptr s.acts.length 3 0) (S (tx (rem.drop (i + 1)))) = some ((ppT s ρ1 ⟨r'.boxes.set 3 [S (tx (rem.drop (i + 1)))], r'.toks⟩).push q) := fun q =>
     hM.store (X := fun r => ppT s ρ1 r) (r := r') (r0 := q) (b := 3) (off := 0) (n := 1) (y := S (tx (rem.drop (i + 1)))) (by rfl) (by rfl) (row := [S (tx rem)]) (row' := [S (tx (rem.drop (i + 1)))]) (by rw [c2]; rfl) rfl
    have ihn := ih (rem.drop (i + 1)) (dn ++ [p]) ⟨r'.boxes.set 3 [S (tx (rem.drop (i + 1)))], r'.toks⟩ x' og'
    have hstep : ∃ ρ', (ρ' 0 = .yield s.loops.length ∧ ρ' 1 = .ptr s.acts.length 4 0 ∧ ρ' 2 = .ptr s.acts.length 3 0 ∧ ρ' 3 = .ptr s.acts.length 5 0) ∧ go AP f_strings_splitSeq_1 (.c (.loop b_strings_splitSeq_1_l0) :: k_strings_splitSeq_1_0) ⟨ρ, (ppT s ρ1 r).push ⟨[], []⟩⟩ = go AP f_strings_splitSeq_1 (.c (.loop b_strings_splitSeq_1_l0) :: k_strings_splitSeq_1_0) ⟨ρ', (ppT s ρ1 ⟨r'.boxes.set 3 [S (tx (rem.drop (i + 1)))], r'.toks⟩).push ⟨[], []⟩⟩ := by
     refine ⟨?_, ?_, ?_⟩
     rotate_left 2
     ·rw [go_loop]
      simp (maxSteps := 1000000) only [go_sem, b_strings_splitSeq_1_l0, g0, g1, g2, g3, k3, k4, k5, hix, hd1, w0, w1', sl1, sl2, c1, k3', k4', st3, Nat.reduceEqDiff, reduceCtorEq, ↓reduceIte]
      rfl
     ·exact ⟨g0, g1, g2, g3⟩
    obtain ⟨ρ', hρ, hst⟩ := hstep
    rw [hst]
    obtain ⟨i1, i2⟩ := ihn ρ' (by rw [List.length_drop]; omega) (by rw [List.length_drop, List.length_append, List.length_singleton]; omega) (by rw [c2]; rfl) c3 hρ
    refine ⟨fun ps hps => ?_, fun hps => ?_⟩
    ·obtain ⟨p', t, e1, e2, rfl⟩ := passesE_cons hps
     rw [hw] at e1
     injection e1 with e1
     subst e1
     obtain ⟨r2, x2, og2, rem2, f1, f2, f3⟩ := i1 t e2
     exact ⟨r2, x2, og2, rem2, f1, f2, by simpa using f3⟩
    ·refine i2 ?_
     cases h : passesE (spl 32 (rem.drop (i + 1))) with
     | none => rfl
     | some t => simp only [passesE, hw, h] at hps; cases hps
theorem split_calls {ρ1 : Nat → AV} {l : List UInt8} {r : Rec} {x : AV} {og : Option Nat} (hs : Ok s) (h2 : ρ1 2 = .ptr s.acts.length 0 0) (h3 : ρ1 3 = .ptr s.acts.length 1 0) (h4 : ρ1 4 = .ptr s.acts.length 2 0) (hl : l.length ≤ 100000)
  (hb : r.boxes = ppB (.slice .nilS 0 []) (I 0) x l) (hA : Acc s.acts.length 3 [] x og r.toks) :
   (∀ ps, passesE (spl 32 l) = some ps → ∃ r' x' og' rem', callL AP (.fn 68) [.yield s.loops.length, .ptr s.acts.length 4 0, .ptr s.acts.length 3 0, .ptr s.acts.length 5 0] (ppT s ρ1 r) = some (.tuple [], ppT s ρ1 r') ∧ r'.boxes = ppB (.slice .nilS 0 []) (I 0) x' rem' ∧ Acc s.acts.length 3 (ps.map rowP) x' og' r'.toks) ∧
   (passesE (spl 32 l) = none → ∃ r' x' rem', callL AP (.fn 68) [.yield s.loops.length, .ptr s.acts.length 4 0, .ptr s.acts.length 3 0, .ptr s.acts.length 5 0] (ppT s ρ1 r) = some (.tuple [], over s.loops.length .ret (ppT s ρ1 r')) ∧ r'.boxes = ppB (.slice .nilS 0 []) (I 7) x' rem') := by
 have hM : Mid (fun r => ppT s ρ1 r) s.acts.length := mid_enter hs
 have k4 : ∀ q, ((ppT s ρ1 r).push q).box s.acts.length 4 = some [S ⟨#[32]⟩] := fun q => by rw [hM.box (X := fun r => ppT s ρ1 r), hb]; rfl
 have hd : decide (((⟨#[32]⟩ : ByteArray).size : Int) = 0) = false := by decide
 obtain ⟨a, b⟩ := split_loop (ρ1 := ρ1) hs h2 h3 h4 (l.length + 1) l [] r x og
  (put 11 (B false) (put 10 (I 1) (put 9 (S ⟨#[32]⟩) (argsT [.yield s.loops.length, .ptr s.acts.length 4 0, .ptr s.acts.length 3 0, .ptr s.acts.length 5 0])))) (by omega) (by simpa using hl) hb hA ⟨rfl, rfl, rfl, rfl⟩
 have he : callL AP (.fn 68) [.yield s.loops.length, .ptr s.acts.length 4 0, .ptr s.acts.length 3 0, .ptr s.acts.length 5 0] (ppT s ρ1 r) = go AP f_strings_splitSeq_1 (.c (.loop b_strings_splitSeq_1_l0) :: k_strings_splitSeq_1_0) ⟨put 11 (B false) (put 10 (I 1) (put 9 (S ⟨#[32]⟩) (argsT [.yield s.loops.length, .ptr s.acts.length 4 0, .ptr s.acts.length 3 0, .ptr s.acts.length 5 0]))), (ppT s ρ1 r).push ⟨[], []⟩⟩ := by
  rw [callL_go (show AP 68 = some c_strings_splitSeq_1 from rfl) rfl]
  simp (maxSteps := 1000000) only [go_sem, b_strings_splitSeq_1, b_strings_splitSeq_1_r1, k4, hd, ↓reduceIte]
  rfl
 rw [he]
 exact ⟨a, b⟩
theorem s_ParsePlan {l : List UInt8} (hs : Ok s) (hl : l.length ≤ 100000) : callL AP (.fn 9) [S (tx l)] s = some (.tuple [accV 3 ((parseE l).1.map rowP), I (parseE l).2], s) := by
 unfold parseE
 by_cases h6 : 60000 < l.length
 ·rw [if_pos h6]
  have hd : decide ((60000 : Int) < ((tx l).size : Int)) = true := by rw [tx_size]; simp only [decide_eq_true_eq]; omega
  rw [callL_go (show AP 9 = some c_s_ParsePlan from rfl) rfl]
  simp (maxSteps := 1000000) only [go_sem, b_s_ParsePlan, hs, hd, Nat.reduceEqDiff, reduceCtorEq, Nat.reduceAdd, ↓reduceIte]
  rfl
 rw [if_neg h6]
 have hd : decide ((60000 : Int) < ((tx l).size : Int)) = false := by rw [tx_size]; simp only [decide_eq_false_iff_not]; omega
 by_cases hn : l = []
 ·rw [if_pos hn]
  have hd2 : decide (tx l = ⟨#[]⟩) = true := by rw [hn]; simp [tx]
  rw [callL_go (show AP 9 = some c_s_ParsePlan from rfl) rfl]
  simp (maxSteps := 1000000) only [go_sem, b_s_ParsePlan, hs, hd, hd2, Nat.reduceEqDiff, reduceCtorEq, Nat.reduceAdd, ↓reduceIte]
  rfl
 rw [if_neg hn]
 have hd2 : decide (tx l = ⟨#[]⟩) = false := by
  simp only [decide_eq_false_iff_not]
  exact fun h => hn (tx_inj (a := l) (b := []) h)
 have hsq : ∀ a b c, callL AP (.inl 21) [S (tx l), S ⟨#[32]⟩] (s.push ⟨[a, b, c], []⟩) = some (.fn 68 [] [.ptr s.acts.length 4 0, .ptr s.acts.length 3 0, .ptr s.acts.length 5 0], s.push ⟨[a, b, c, [S (tx l)], [S ⟨#[32]⟩], [I 0]], []⟩) := fun a b c => strings_SplitSeq hs
 have key : ∀ ρ : Nat → AV, ρ 2 = .ptr s.acts.length 0 0 → ρ 3 = .ptr s.acts.length 1 0 → ρ 4 = .ptr s.acts.length 2 0 → ρ 22 = .fn 68 [] [.ptr s.acts.length 4 0, .ptr s.acts.length 3 0, .ptr s.acts.length 5 0] →
   go AP f_s_ParsePlan (.c (.rangeFunc (.tmp 22) [23] b_s_ParsePlan_a1 b_s_ParsePlan_y0) :: k_s_ParsePlan_0) ⟨ρ, s.push ⟨ppB (.slice .nilS 0 []) (I 0) (.slice .nilS 0 []) l, []⟩⟩ = some (.tuple [accV 3 ((parsedE (passesE (spl 32 l))).1.map rowP), I (parsedE (passesE (spl 32 l))).2], s) := by
  intro ρ h2 h3 h4 h22
  obtain ⟨c1, c2⟩ := split_calls (ρ1 := ρ) (l := l) (r := ⟨ppB (.slice .nilS 0 []) (I 0) (.slice .nilS 0 []) l, []⟩) (x := .slice .nilS 0 []) (og := none) hs h2 h3 h4 hl rfl Acc.start
  rw [go_range (x := .tmp 22) h22]
  cases hp : passesE (spl 32 l) with
  | none =>
   obtain ⟨r', x', rem', e1, e2⟩ := c2 hp
   refine (congrArg (Option.bind · _) e1).trans ?_
   simp only [Option.bind_some]
   have hov : over s.loops.length .ret (ppT s ρ r') = enterLoop (s.push r') ⟨false, some .ret, ρ, [23], b_s_ParsePlan_a1, b_s_ParsePlan_y0⟩ := over_enter (m := s.push r')
   rw [hov]
   refine (goL_ret (m := s.push r') rfl rfl).trans ?_
   obtain ⟨bx, tk⟩ := r'
   simp only at e2
   subst e2
   simp (maxSteps := 1000000) only [go_sem, h2, h3]
   rfl
  | some ps =>
   obtain ⟨r', x', og', rem', e1, e2, hA⟩ := c1 ps hp
   refine (congrArg (Option.bind · _) e1).trans ?_
   simp only [Option.bind_some]
   refine (goL_normal (m := s.push r') (lp := ⟨true, none, ρ, [23], b_s_ParsePlan_a1, b_s_ParsePlan_y0⟩) rfl rfl rfl).trans ?_
   obtain ⟨bx, tk⟩ := r'
   simp only at e2 hA
   subst e2
   have hlen := hA.len
   have hlv := hA.leave
   have hlc := hA.leavec
   rw [List.length_map] at hlen
   by_cases h12 : 12 < ps.length
   ·have hd3 : decide ((12 : Int) < (ps.length : Int)) = true := by simp only [decide_eq_true_eq]; omega
    rw [parsedE, if_pos h12]
    obtain ⟨o', e', r', rfl⟩ := Acc.sl hA
    simp (maxSteps := 1000000) only [go_sem, b_s_ParsePlan_r0, h2, h3, h4, hs, hlen, hd3, Nat.reduceEqDiff, ↓reduceIte]
    rfl
   ·have hd3 : decide ((12 : Int) < (ps.length : Int)) = false := by simp only [decide_eq_false_iff_not]; omega
    rw [parsedE, if_neg h12]
    obtain ⟨o', e', r', rfl⟩ := Acc.sl hA
    simp (maxSteps := 1000000) only [go_sem, b_s_ParsePlan_r0, h2, h3, h4, hs, hlen, hd3, hlv, Nat.reduceEqDiff, ↓reduceIte]
 rw [callL_go (show AP 9 = some c_s_ParsePlan from rfl) rfl]
 simp (maxSteps := 1000000) only [go_sem, b_s_ParsePlan, hd, hd2, hsq, reduceCtorEq, Nat.reduceAdd, ↓reduceIte]
 refine key _ ?_ ?_ ?_ ?_
 all_goals rfl
end
end Go.Ax.Sx.Sc
