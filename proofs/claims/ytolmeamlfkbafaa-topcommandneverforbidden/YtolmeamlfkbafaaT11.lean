/- A part of the proof. -/
import Derived.Test.YtolmeamlfkbafaaT10
namespace Go.Ax.Sx.Cm
open Go.Ax
set_option linter.unusedSimpArgs false
set_option linter.unusedVariables false
set_option maxRecDepth 100000
section
variable {s : Sig}
theorem command_within {a b c : Int} : callL AP (.fn 29) [I a, I b, I c] s = some (B (wi a b c), s) := by
 rw [callL_go (show AP 29 = some c_command_within from rfl) rfl]
 simp (maxSteps := 1000000) only [go_sem, b_command_within, Nat.reduceEqDiff, reduceCtorEq, ↓reduceIte]
 unfold wi
 cases decide (b ≤ a) <;> cases decide (a ≤ c) <;> rfl
theorem command_unless {c : Bool} {e : Int} : callL AP (.fn 31) [B c, I e] s = some (I (cond c 0 e), s) := by
 rw [callL_go (show AP 31 = some c_command_unless from rfl) rfl]
 simp (maxSteps := 1000000) only [go_sem, b_command_unless, Nat.reduceEqDiff, reduceCtorEq, ↓reduceIte]
 cases c <;> rfl
theorem command_first {l : List Int} {o : Own} (hl : (l.length : Int) < 9223372036854775808) : callL AP (.fn 24) [.slice o 1 (ints l)] s = some (I (firstErr l), s) := by
 have key : ∀ k ρ m, k ≤ l.length → (ρ 5 = .slice o 1 (ints l) ∧ ρ 6 = I l.length ∧ ρ 7 = I k ∧ m = s.push ⟨[], []⟩) → go AP f_command_first (.c (.loop b_command_first_l0) :: k_command_first_0) ⟨ρ, m⟩ = some (I (firstErr (l.drop k)), s) := by
  refine loop_up l.length _ _ ?_ ?_
  ·rintro k ρ m hk ⟨h5, h6, h7, rfl⟩ ih
   obtain ⟨x, hx⟩ := get_some hk
   have hr := ix_sl (o := o) (es := 1) (ints_get hx)
   simp (maxSteps := 1000000) only [go_sem, b_command_first_l0, h5, h6, h7, lt_dec hk, hr, wrap_succ hk hl, Nat.reduceEqDiff, ↓reduceIte, ne_eq]
   rw [drop_get hx]
   by_cases h0 : x = 0
   ·subst h0
    simp only [not_true, decide_false, cond_false]
    refine (ih _ _ ?_).trans rfl
    exact ⟨h5, h6, rfl, rfl⟩
   ·simp only [h0, not_false_iff, decide_true, cond_true, firstErr, if_false]
  ·rintro ρ m ⟨h5, h6, h7, rfl⟩
   simp (maxSteps := 1000000) only [go_sem, b_command_first_l0, b_command_first_r0, h6, h7, ge_dec, ↓reduceIte]
   rw [List.drop_length]; rfl
 rw [callL_go (show AP 24 = some c_command_first from rfl) rfl]
 simp (maxSteps := 1000000) only [go_sem, b_command_first, ints_len, reduceCtorEq, ↓reduceIte]
 exact key 0 _ _ (Nat.zero_le _) ⟨rfl, rfl, rfl, rfl⟩
theorem command_first2 {a b : Int} : callL AP (.fn 24) [.slice .full 1 [[I a], [I b]]] s = some (I (firstErr [a, b]), s) := command_first (l := [a, b]) (show (2 : Int) < _ by decide)
theorem command_first3 {a b c : Int} : callL AP (.fn 24) [.slice .full 1 [[I a], [I b], [I c]]] s = some (I (firstErr [a, b, c]), s) := command_first (l := [a, b, c]) (show (3 : Int) < _ by decide)
theorem command_first4 {a b c d : Int} : callL AP (.fn 24) [.slice .full 1 [[I a], [I b], [I c], [I d]]] s = some (I (firstErr [a, b, c, d]), s) := command_first (l := [a, b, c, d]) (show (4 : Int) < _ by decide)
theorem nameFrom_get {k : Nat} {l : List UInt8} {c : UInt8} (h : l[k]? = some c) : nameFrom k (l.drop k) = (nameAt k c && nameFrom (k + 1) (l.drop (k + 1))) := by
 rw [drop_get h]; rfl
theorem nameAt_int {k : Nat} {c : UInt8} : nameAt k c = ((decide ((97 : Int) ≤ (c.toNat : Int)) && decide ((c.toNat : Int) ≤ 122)) || (decide ((65 : Int) ≤ (c.toNat : Int)) && decide ((c.toNat : Int) ≤ 90)) || (!decide ((k : Int) = 0) && (decide ((c.toNat : Int) = 45) || (decide ((48 : Int) ≤ (c.toNat : Int)) && decide ((c.toNat : Int) ≤ 57))))) := by
 unfold nameAt letter
 have e1 : decide (97 ≤ c.toNat) = decide ((97 : Int) ≤ (c.toNat : Int)) := by simp; omega
 have e2 : decide (c.toNat ≤ 122) = decide ((c.toNat : Int) ≤ 122) := by simp; omega
 have e3 : decide (65 ≤ c.toNat) = decide ((65 : Int) ≤ (c.toNat : Int)) := by simp; omega
 have e4 : decide (c.toNat ≤ 90) = decide ((c.toNat : Int) ≤ 90) := by simp; omega
 have e5 : decide (k = 0) = decide ((k : Int) = 0) := by simp
 have e6 : decide (c.toNat = 45) = decide ((c.toNat : Int) = 45) := by simp; omega
 have e7 : decide (48 ≤ c.toNat) = decide ((48 : Int) ≤ (c.toNat : Int)) := by simp; omega
 have e8 : decide (c.toNat ≤ 57) = decide ((c.toNat : Int) ≤ 57) := by simp; omega
 rw [e1, e2, e3, e4, e5, e6, e7, e8]
theorem command_isName {x : ByteArray} (hx : (x.size : Int) < 9223372036854775808) : callL AP (.fn 78) [S x] s = some (B (isName x), s) := by
 have hsz : x.data.size = x.size := rfl
 have hl : x.data.toList.length = x.size := by simp [hsz]
 have key : ∀ k ρ m, k ≤ x.size → (ρ 0 = S x ∧ ρ 7 = .slice .any 1 (byteCells x) ∧ ρ 8 = I x.size ∧ ρ 9 = I k ∧ m = s.push ⟨[], []⟩) → go AP f_command_isName (.c (.loop b_command_isName_l0) :: k_command_isName_0) ⟨ρ, m⟩ = some (B (nameFrom k (x.data.toList.drop k) && decide (1 ≤ x.size) && decide (x.size ≤ 12)), s) := by
  refine loop_up x.size _ _ ?_ ?_
  ·rintro k ρ m hk ⟨h0, h7, h8, h9, rfl⟩ ih
   obtain ⟨c, hc⟩ := get_some (l := x.data.toList) (k := k) (by omega)
   have hr := ix_sl (o := .any) (es := 1) (byteCells_get hc)
   rw [nameFrom_get hc, nameAt_int]
   simp (maxSteps := 1000000) only [go_sem, b_command_isName_l0, h7, h8, h9, lt_dec hk, hr, wrap_succ hk hx, Nat.reduceEqDiff, reduceCtorEq, ↓reduceIte, ne_eq]
   simp only [decide_not]
   have ih2 : ∀ (ρ' : Nat → AV), ρ' 0 = S x → ρ' 7 = AV.slice Own.any 1 (byteCells x) → ρ' 8 = I ↑x.size → ρ' 9 = I ↑(k + 1) → go AP f_command_isName (.c (.loop b_command_isName_l0) :: k_command_isName_0) ⟨ρ', s.push ⟨[], []⟩⟩ = some (B (nameFrom (k + 1) (List.drop (k + 1) x.data.toList) && decide (1 ≤ x.size) && decide (x.size ≤ 12)), s) := fun ρ' a b c d => ih ρ' _ ⟨a, b, c, d, rfl⟩
   generalize decide ((97 : Int) ≤ (c.toNat : Int)) = a1
   generalize decide ((c.toNat : Int) ≤ 122) = a2
   generalize decide ((65 : Int) ≤ (c.toNat : Int)) = a3
   generalize decide ((c.toNat : Int) ≤ 90) = a4
   generalize decide ((c.toNat : Int) = 45) = a5
   have e8 : decide ((c.toNat : Int) < 48) = !decide ((48 : Int) ≤ (c.toNat : Int)) := dec_lt _ _
   have e9 : decide ((57 : Int) < (c.toNat : Int)) = !decide ((c.toNat : Int) ≤ 57) := dec_lt _ _
   rw [e8, e9]
   generalize decide ((48 : Int) ≤ (c.toNat : Int)) = a6
   generalize decide ((c.toNat : Int) ≤ 57) = a7
   generalize decide ((k : Int) = 0) = a8
   generalize nameFrom (k + 1) (List.drop (k + 1) x.data.toList) = nf at *
   cases a1 <;> cases a2 <;> cases a3 <;> cases a4 <;> cases a5 <;> cases a6 <;> cases a7 <;> cases a8 <;> first
    | rfl
    | exact ih2 _ h0 h7 h8 rfl
  ·rintro ρ m ⟨h0, h7, h8, h9, rfl⟩
   simp (maxSteps := 1000000) only [go_sem, b_command_isName_l0, b_command_isName_r0, h0, h8, h9, ge_dec, Nat.reduceEqDiff, reduceCtorEq, ↓reduceIte, ne_eq]
   have e1 : List.drop x.size x.data.toList = [] := by rw [← hl, List.drop_length]
   have e2 : decide (x ≠ ⟨#[]⟩) = decide (1 ≤ x.size) := by
    by_cases h : x = ⟨#[]⟩
    ·subst h; rfl
    ·have : x.size ≠ 0 := fun e => h (ByteArray.ext (by have : x.data.size = 0 := e; exact Array.eq_empty_of_size_eq_zero this))
     simp only [ne_eq, h, not_false_iff, decide_true]
     exact (decide_eq_true (by omega)).symm
   have e3 : decide ((x.size : Int) ≤ 12) = decide (x.size ≤ 12) := by
    by_cases h : x.size ≤ 12
    ·rw [decide_eq_true h, decide_eq_true (by omega)]
    ·rw [decide_eq_false h, decide_eq_false (by omega)]
   rw [e1, e2, e3]; rfl
 rw [callL_go (show AP 78 = some c_command_isName from rfl) rfl]
 simp (maxSteps := 1000000) only [go_sem, b_command_isName, hsz, reduceCtorEq, ↓reduceIte]
 refine (key 0 _ _ (Nat.zero_le _) ⟨rfl, rfl, rfl, rfl, rfl⟩).trans ?_
 rfl
end
end Go.Ax.Sx.Cm

namespace Go.Ax.Sx.Cm
open Go.Ax
set_option linter.unusedSimpArgs false
set_option linter.unusedVariables false
set_option maxRecDepth 100000
def seenB (nm : Nat → ByteArray) (k : Nat) : Bool := (List.range k).any fun j => decide (nm j = nm k)
def itemE (nm : Nat → ByteArray) (ot : Nat → Int) (k : Nat) : Int := firstErr [cond (isName (nm k)) 0 4, cond (!seenB nm k) 0 5, ot k]
def itemsE (nm : Nat → ByteArray) (ot : Nat → Int) : Nat → Nat → Option (Nat × Int)
 | _, 0 => none
 | k, n + 1 => if itemE nm ot k = 0 then itemsE nm ot (k + 1) n else some (k, itemE nm ot k)
def keysN (nm : Nat → ByteArray) (k : Nat) : List AV := (List.range k).map fun j => S (nm j)
theorem keysN_s {nm : Nat → ByteArray} {k : Nat} : keysN nm (k + 1) = keysN nm k ++ [S (nm k)] := by
 unfold keysN
 rw [List.range_succ, List.map_append]; rfl
theorem keysN_has {nm : Nat → ByteArray} {k : Nat} : hasKey (keysN nm k) (nm k) = seenB nm k := by
 unfold hasKey keysN seenB
 rw [List.any_map]; rfl
def listE (nm : Nat → ByteArray) (ot : Nat → Int) (part n few most : Int) (c : Int × Int × Int) : Int × Int × Int :=
  if c.2.2 = 0 then
    (let e := firstErr [cond (decide (few ≤ n)) 0 10, cond (decide (n ≤ most)) 0 8]
     if e = 0 then (match itemsE nm ot 0 n.toNat with | some (k, x) => (part, (k : Int), x) | none => c) else (part, 0, e))
  else c
section
variable {Q : Sig} {bx : List (List AV)} {tk : List (Option Nat)} {b0 : Nat}
theorem mid_here (hQ : Ok Q) : Mid (fun r => Q.push r) Q.acts.length := ⟨fun r => by simp [Sig.push], fun r f => onRec_push Q r f, fun r => hQ.ro⟩
theorem command_checker_list {nm : Nat → ByteArray} {ot : Nat → Int} {g1 g2 : FuncId} {caps1 caps2 : List AV} {pt few most : Int} {n : Nat} {c1 c2 c3 : Int} (hQ : Ok Q) (hn : (n : Int) < 9223372036854775808) (hb : bx[b0]? = some [I c1, I c2, I c3])
  (h1 : ∀ (i : Nat) r, i < n → callL AP (.fn g1) (I i :: caps1) ((Q.push ⟨bx, tk⟩).push r) = some (S (nm i), (Q.push ⟨bx, tk⟩).push r))
  (h2 : ∀ (i : Nat) r, i < n → callL AP (.fn g2) (I i :: caps2) ((Q.push ⟨bx, tk⟩).push r) = some (I (ot i), (Q.push ⟨bx, tk⟩).push r)) (hsz : ∀ i, i < n → ((nm i).size : Int) < 9223372036854775808) :
  callL AP (.fn 66) [.ptr Q.acts.length b0 0, I pt, I n, I few, I most, .fn g1 [] caps1, .fn g2 [] caps2] (Q.push ⟨bx, tk⟩) =
   some (.tuple [], Q.push ⟨bx.set b0 [I (listE nm ot pt n few most (c1, c2, c3)).1, I (listE nm ot pt n few most (c1, c2, c3)).2.1, I (listE nm ot pt n few most (c1, c2, c3)).2.2], tk⟩) := by
 have hs : Ok (Q.push ⟨bx, tk⟩) := hQ.push _
 have hM := mid_here hQ
 have hbx : ∀ r, ((Q.push ⟨bx, tk⟩).push r).box Q.acts.length b0 = some [I c1, I c2, I c3] := fun r => (hM.box (r := ⟨bx, tk⟩)).trans hb
 have hlt := (List.getElem?_eq_some_iff.1 hb).1
 have hst2 : ∀ r a b, ((Q.push ⟨bx, tk⟩).push r).store 2 (.ptr Q.acts.length b0 0) (.agg [I a, I b]) = some ((Q.push ⟨bx.set b0 [I a, I b, I c3], tk⟩).push r) := fun r a b =>
  hM.store (r := ⟨bx, tk⟩) rfl rfl hb rfl
 have hst1 : ∀ r a b e, ((Q.push ⟨bx.set b0 [I a, I b, I c3], tk⟩).push r).store 1 (.ptr Q.acts.length b0 2) (I e) = some ((Q.push ⟨bx.set b0 [I a, I b, I e], tk⟩).push r) := fun r a b e => by
  have := hM.store (r := ⟨bx.set b0 [I a, I b, I c3], tk⟩) (r0 := r) (b := b0) (off := 2) (n := 1) (y := I e) rfl rfl (row := [I a, I b, I c3]) (row' := [I a, I b, I e]) (by simp [hlt]) rfl
  simpa using this
 have hself : bx.set b0 [I c1, I c2, I c3] = bx := by
  refine List.ext_getElem? fun i => ?_
  rw [List.getElem?_set]
  split
  ·rename_i e; subst e
   exact hb.symm
  ·rfl
 unfold listE
 by_cases he : c3 = 0
 ·subst he
  have hmh : ∀ k x tks, mapHasOp ((Q.push ⟨bx, tk⟩).push ⟨[.opq :: keysN nm k], tks⟩) (.mp (Q.push ⟨bx, tk⟩).acts.length 0) (S x) = some (B (hasKey (keysN nm k) x)) := fun k x tks => mapHas_push rfl
  have hro : (Q.push ⟨bx, tk⟩).ro ≤ (Q.push ⟨bx, tk⟩).acts.length := hs.ro
  have hfe : firstErr [cond (decide (few ≤ (n : Int))) 0 10, cond (decide ((n : Int) ≤ most)) 0 8] = firstErr [cond (decide (few ≤ (n : Int))) 0 10, cond (decide ((n : Int) ≤ most)) 0 8] := rfl
  generalize hE : firstErr [cond (decide (few ≤ (n : Int))) 0 10, cond (decide ((n : Int) ≤ most)) 0 8] = E at *
  have hff : ∀ m : Sig, callL AP (.fn 24) [.slice .full 1 [[I (cond (decide (few ≤ (n : Int))) 0 10)], [I (cond (decide ((n : Int) ≤ most)) 0 8)]]] m = some (I E, m) := fun m => by rw [command_first2, hE]
  simp only [if_true, Int.toNat_natCast]
  by_cases h0 : E = 0
  ·subst h0
   simp only [if_true]
   have key : ∀ (k : Nat) ρ m, k ≤ n → (ρ 0 = .ptr Q.acts.length b0 0 ∧ ρ 1 = I pt ∧ ρ 5 = .fn g1 [] caps1 ∧ ρ 6 = .fn g2 [] caps2 ∧ ρ 15 = .mp (Q.push ⟨bx, tk⟩).acts.length 0 ∧ ρ 45 = I n ∧ ρ 46 = I k ∧ m = (Q.push ⟨bx, tk⟩).push ⟨[.opq :: keysN nm k], []⟩) →
     go AP f_command_checker_list (.c (.loop b_command_checker_list_l0) :: k_command_checker_list_0) ⟨ρ, m⟩ = some (.tuple [], match itemsE nm ot k (n - k) with | some (j, x) => Q.push ⟨bx.set b0 [I pt, I (j : Int), I x], tk⟩ | none => Q.push ⟨bx, tk⟩) := by
    refine loop_up n _ (fun k => some (.tuple [], match itemsE nm ot k (n - k) with | some (j, x) => Q.push ⟨bx.set b0 [I pt, I (j : Int), I x], tk⟩ | none => Q.push ⟨bx, tk⟩)) ?_ ?_
    ·rintro k ρ m hk ⟨g0, g1', g5, g6, g15, g45, g46, rfl⟩ ih
     have e1 := fun r => h1 k r hk
     have e2 := fun r => h2 k r hk
     have e3 : ∀ m : Sig, callL AP (.fn 78) [S (nm k)] m = some (B (isName (nm k)), m) := fun m => command_isName (hsz k hk)
     have hwk := wrap_succ hk hn
     rw [show n - k = (n - (k + 1)) + 1 by omega]
     simp only [itemsE]
     have hie : firstErr [cond (isName (nm k)) 0 4, cond (!seenB nm k) 0 5, ot k] = itemE nm ot k := rfl
     have hf3 : ∀ m : Sig, callL AP (.fn 24) [.slice .full 1 [[I (cond (isName (nm k)) 0 4)], [I (cond (!seenB nm k) 0 5)], [I (ot k)]]] m = some (I (itemE nm ot k), m) := fun m => by rw [command_first3, hie]
     by_cases hz : itemE nm ot k = 0
     ·have hsn : seenB nm k = false := by
       cases hh : seenB nm k with
       | false => rfl
       | true =>
        have : itemE nm ot k ≠ 0 := by
         unfold itemE
         rw [hh]
         cases isName (nm k)
         ·show (if (4 : Int) = 0 then _ else (4 : Int)) ≠ 0
          rw [if_neg (by decide)]; decide
         ·show (if (0 : Int) = 0 then (if (5 : Int) = 0 then _ else (5 : Int)) else _) ≠ 0
          rw [if_pos rfl, if_neg (by decide)]; decide
        exact absurd hz this
      rw [hz] at hf3
      have hma := mapAdd_push (s := Q.push ⟨bx, tk⟩) (bs := [.opq :: keysN nm k]) (tk := []) (b := 0) (ks := keysN nm k) (x := nm k) hro rfl (by rw [keysN_has]; exact hsn)
      rw [hsn] at hf3
      simp only [Bool.not_false, cond_true] at hf3
      simp (maxSteps := 1000000) only [go_sem, b_command_checker_list_l0, g5, g6, g15, g45, g46, lt_dec hk, e1, e2, e3, hmh, keysN_has, hsn, command_unless, hf3, hma, hwk, ne_eq, not_true, decide_false, Nat.reduceEqDiff, ↓reduceIte, ne_eq, not_true]
      simp only [hz, if_true]
      refine ih _ _ ?_
      exact ⟨g0, g1', g5, g6, g15, g45, rfl, by rw [keysN_s]⟩
     ·simp only [hz, if_false]
      simp (maxSteps := 1000000) only [go_sem, b_command_checker_list_l0, g0, g1', g5, g6, g15, g45, g46, lt_dec hk, e1, e2, e3, hmh, keysN_has, command_unless, hf3, hz, hst2, hst1, ne_eq, not_false_iff, decide_true, Nat.reduceEqDiff, reduceCtorEq, Nat.reduceAdd, ↓reduceIte, ne_eq]
    ·rintro ρ m ⟨g0, g1', g5, g6, g15, g45, g46, rfl⟩
     rw [Nat.sub_self]
     simp (maxSteps := 1000000) only [go_sem, b_command_checker_list_l0, g45, g46, ge_dec, ↓reduceIte]
     rfl
   rw [callL_go (show AP 66 = some c_command_checker_list from rfl) rfl]
   simp (maxSteps := 1000000) only [go_sem, b_command_checker_list, hbx, command_unless, hff, mkMap_push, ne_eq, not_true, decide_false, Nat.reduceEqDiff, Nat.reduceAdd, ↓reduceIte, ne_eq, not_true]
   refine (key 0 _ _ (Nat.zero_le _) ?_).trans ?_
   ·exact ⟨rfl, rfl, rfl, rfl, rfl, rfl, rfl, rfl⟩
   rw [Nat.sub_zero]
   cases itemsE nm ot 0 n with
   | none => simp only [hself]
   | some q => rfl
  ·simp only [h0, if_false]
   rw [callL_go (show AP 66 = some c_command_checker_list from rfl) rfl]
   simp (maxSteps := 1000000) only [go_sem, b_command_checker_list, hbx, command_unless, hff, h0, hst2, hst1, ne_eq, not_true, not_false_iff, decide_false, decide_true, Nat.reduceEqDiff, reduceCtorEq, Nat.reduceAdd, ↓reduceIte, ne_eq, not_true]
 ·simp only [he, if_false, hself]
  rw [callL_go (show AP 66 = some c_command_checker_list from rfl) rfl]
  simp (maxSteps := 1000000) only [go_sem, b_command_checker_list, hbx, he, ne_eq, not_false_iff, decide_true, Nat.reduceAdd, ↓reduceIte, ne_eq]
end
end Go.Ax.Sx.Cm

namespace Go.Ax.Sx.Cm
open Go.Ax
set_option linter.unusedSimpArgs false
set_option linter.unusedVariables false
set_option maxRecDepth 100000
structure Kd where
 name : ByteArray
 to : Int
structure Ru where
 name : ByteArray
 kind : Int
 mode : Int
 after : Int
 gap : Int
structure Mo where
 modes : Sl ByteArray
 kinds : Sl Kd
 rules : Sl Ru
structure Ac where
 kind : Int
 lo : Int
 hi : Int
abbrev rowS (x : ByteArray) : List AV := [S x]
abbrev rowKd (k : Kd) : List AV := [S k.name, I k.to]
abbrev rowRu (r : Ru) : List AV := [S r.name, I r.kind, I r.mode, I r.after, I r.gap]
abbrev rowMo (m : Mo) : List AV := [m.modes.v rowS, m.kinds.v rowKd, m.rules.v rowRu]
abbrev Mo.v (m : Mo) : AV := .agg (rowMo m)
abbrev rowAc (a : Ac) : List AV := [I a.kind, I a.lo, I a.hi]
def isB (n count : Int) : Bool := decide (n = -1) || wi n 0 (count - 1)
def ruleE (kinds modes : Int) (r : Ru) : Int := firstErr [cond (wi r.kind 0 (kinds - 1) && isB r.mode modes && isB r.after kinds) 0 6, cond (wi r.gap 1 1000000) 0 2, cond (!decide (r.after = -1) || decide (r.gap = 1)) 0 3]
section
variable {s : Sig}
theorem command_isTick {a : Int} : callL AP (.fn 32) [I a] s = some (B (wi a 0 1000000000000), s) := by
 rw [callL_go (show AP 32 = some c_command_isTick from rfl) rfl]
 simp (maxSteps := 1000000) only [go_sem, b_command_isTick, command_within, reduceCtorEq, ↓reduceIte]
theorem command_CheckModel_1 {n c : Int} (h0 : -1000 ≤ c) (h1 : c ≤ 9223372036854775000) : callL AP (.fn 65) [I n, I c] s = some (B (isB n c), s) := by
 unfold isB
 rw [callL_go (show AP 65 = some c_command_CheckModel_1 from rfl) rfl]
 cases h : decide (n = -1) with
 | true => simp (maxSteps := 1000000) only [go_sem, b_command_CheckModel_1, h, Nat.reduceEqDiff, reduceCtorEq, Int.reduceNeg, ↓reduceIte] <;> rfl
 | false => simp (maxSteps := 1000000) only [go_sem, b_command_CheckModel_1, h, command_within, wrap_id (x := c - 1) (by omega) (by omega), Nat.reduceEqDiff, reduceCtorEq, Int.reduceNeg, ↓reduceIte] <;> rfl
theorem command_CheckModel_2 {m : Mo} {d b i : Nat} {x : ByteArray} (hm : m.modes.ok 1) (hb : s.box d b = some (rowMo m)) (hx : m.modes.l[i]? = some x) : callL AP (.fn 67) [I i, .ptr d b 0] s = some (S x, s) := by
 have hix := Sl.ix (f := rowS) hm hx
 simp only [rowS, Sl.v] at hix
 rw [callL_go (show AP 67 = some c_command_CheckModel_2 from rfl) rfl]
 simp (maxSteps := 1000000) only [go_sem, b_command_CheckModel_2, box_keep hb, hix, Nat.reduceEqDiff, reduceCtorEq, Nat.reduceAdd, ↓reduceIte]
theorem command_CheckModel_3 {i : Int} : callL AP (.fn 68) [I i] s = some (I 0, s) := by
 rw [callL_go (show AP 68 = some c_command_CheckModel_3 from rfl) rfl]
 simp (maxSteps := 1000000) only [go_sem, b_command_CheckModel_3, ↓reduceIte]
theorem command_CheckModel_4 {m : Mo} {d b i : Nat} {x : Kd} (hm : m.kinds.ok 2) (hb : s.box d b = some (rowMo m)) (hx : m.kinds.l[i]? = some x) : callL AP (.fn 69) [I i, .ptr d b 0] s = some (S x.name, s) := by
 have hix := Sl.ix (f := rowKd) hm hx
 simp only [rowKd, Sl.v] at hix
 rw [callL_go (show AP 69 = some c_command_CheckModel_4 from rfl) rfl]
 simp (maxSteps := 1000000) only [go_sem, b_command_CheckModel_4, box_keep hb, hix, Nat.reduceEqDiff, reduceCtorEq, Nat.reduceAdd, ↓reduceIte]
theorem command_CheckModel_6 {m : Mo} {d b i : Nat} {x : Ru} (hm : m.rules.ok 5) (hb : s.box d b = some (rowMo m)) (hx : m.rules.l[i]? = some x) : callL AP (.fn 71) [I i, .ptr d b 0] s = some (S x.name, s) := by
 have hix := Sl.ix (f := rowRu) hm hx
 simp only [rowRu, Sl.v] at hix
 rw [callL_go (show AP 71 = some c_command_CheckModel_6 from rfl) rfl]
 simp (maxSteps := 1000000) only [go_sem, b_command_CheckModel_6, box_keep hb, hix, Nat.reduceEqDiff, reduceCtorEq, Nat.reduceAdd, ↓reduceIte]
theorem command_CheckModel_5 {m : Mo} {d b0 b1 b2 i : Nat} {x : Kd} {c : Int} (hc : 0 ≤ c) (hc1 : c ≤ 1000000) (hm : m.kinds.ok 2) (hb0 : s.box d b0 = some [.fn 65 [] []]) (hb : s.box d b1 = some (rowMo m)) (hb2 : s.box d b2 = some [I c]) (hx : m.kinds.l[i]? = some x) :
  callL AP (.fn 70) [I i, .ptr d b0 0, .ptr d b1 0, .ptr d b2 0] s = some (I (cond (isB x.to c) 0 6), s) := by
 have hix := Sl.ix (f := rowKd) hm hx
 have h1 : ∀ m : Sig, callL AP (.fn 65) [I x.to, I c] m = some (B (isB x.to c), m) := fun m => command_CheckModel_1 (by omega) (by omega)
 simp only [rowKd, Sl.v] at hix
 rw [callL_go (show AP 70 = some c_command_CheckModel_5 from rfl) rfl]
 simp (maxSteps := 1000000) only [go_sem, b_command_CheckModel_5, box_keep hb, box_keep hb0, box_keep hb2, hix, h1, command_unless, Nat.reduceEqDiff, reduceCtorEq, Nat.reduceAdd, ↓reduceIte]
theorem command_CheckModel_7 {m : Mo} {d b1 b2 b3 b4 i : Nat} {x : Ru} {kc mc : Int} (hs : Ok s) (hk0 : 0 ≤ kc) (hk1 : kc ≤ 1000000) (hm0 : 0 ≤ mc) (hm1 : mc ≤ 1000000) (hm : m.rules.ok 5) (hb1 : s.box d b1 = some (rowMo m)) (hb2 : s.box d b2 = some [I kc]) (hb3 : s.box d b3 = some [.fn 65 [] []]) (hb4 : s.box d b4 = some [I mc]) (hx : m.rules.l[i]? = some x) :
  callL AP (.fn 72) [I i, .ptr d b1 0, .ptr d b2 0, .ptr d b3 0, .ptr d b4 0] s = some (I (ruleE kc mc x), s) := by
 have hix := Sl.ix (f := rowRu) hm hx
 have e1 : ∀ m : Sig, callL AP (.fn 65) [I x.mode, I mc] m = some (B (isB x.mode mc), m) := fun m => command_CheckModel_1 (by omega) (by omega)
 have e2 : ∀ m : Sig, callL AP (.fn 65) [I x.after, I kc] m = some (B (isB x.after kc), m) := fun m => command_CheckModel_1 (by omega) (by omega)
 have hw := wrap_id (x := kc - 1) (by omega) (by omega)
 unfold ruleE
 simp only [rowRu, Sl.v] at hix
 rw [callL_go (show AP 72 = some c_command_CheckModel_7 from rfl) rfl]
 cases h1 : wi x.kind 0 (kc - 1) with
 | false =>
  cases h4 : decide (x.after = -1) <;> simp (maxSteps := 1000000) only [go_sem, b_command_CheckModel_7, hs, box_keep hb1, box_keep hb2, hix, hw, command_within, h1, command_unless, command_first3, h4, ne_eq, decide_not, Bool.not_true, Bool.not_false, Nat.reduceEqDiff, reduceCtorEq, Nat.reduceAdd, Int.reduceNeg, ↓reduceIte, ne_eq] <;> rfl
 | true =>
 cases h2 : isB x.mode mc with
 | false =>
  rw [h2] at e1
  cases h4 : decide (x.after = -1) <;> simp (maxSteps := 1000000) only [go_sem, b_command_CheckModel_7, hs, box_keep hb1, box_keep hb2, box_keep hb3, box_keep hb4, hix, hw, command_within, h1, e1, command_unless, command_first3, h4, ne_eq, decide_not, Bool.not_true, Bool.not_false, Nat.reduceEqDiff, reduceCtorEq, Nat.reduceAdd, Int.reduceNeg, ↓reduceIte, ne_eq] <;> rfl
 | true =>
  rw [h2] at e1
  cases h4 : decide (x.after = -1) <;> simp (maxSteps := 1000000) only [go_sem, b_command_CheckModel_7, hs, box_keep hb1, box_keep hb2, box_keep hb3, box_keep hb4, hix, hw, command_within, h1, e1, e2, command_unless, command_first3, h4, ne_eq, decide_not, Bool.not_true, Bool.not_false, Nat.reduceEqDiff, reduceCtorEq, Nat.reduceAdd, Int.reduceNeg, ↓reduceIte, ne_eq] <;> rfl
end
end Go.Ax.Sx.Cm

namespace Go.Ax.Sx.Cm
open Go.Ax
set_option linter.unusedSimpArgs false
set_option linter.unusedVariables false
set_option maxRecDepth 100000
structure Mo.Ok (m : Mo) : Prop where
 modes : m.modes.ok 1
 kinds : m.kinds.ok 2
 rules : m.rules.ok 5
 ml : m.modes.l.length ≤ 1000000
 kl : m.kinds.l.length ≤ 1000000
 rl : m.rules.l.length ≤ 1000000
 mz : ∀ x ∈ m.modes.l, (x.size : Int) < 9223372036854775808
 kz : ∀ x ∈ m.kinds.l, (x.name.size : Int) < 9223372036854775808
 rz : ∀ x ∈ m.rules.l, (x.name.size : Int) < 9223372036854775808
def nmM (m : Mo) (i : Nat) : ByteArray := (m.modes.l[i]?).getD ByteArray.empty
def nmK (m : Mo) (i : Nat) : ByteArray := ((m.kinds.l[i]?).map (·.name)).getD ByteArray.empty
def nmR (m : Mo) (i : Nat) : ByteArray := ((m.rules.l[i]?).map (·.name)).getD ByteArray.empty
def otK (m : Mo) (i : Nat) : Int := ((m.kinds.l[i]?).map fun k => cond (isB k.to m.modes.l.length) 0 6).getD 0
def otR (m : Mo) (i : Nat) : Int := ((m.rules.l[i]?).map fun r => ruleE m.kinds.l.length m.modes.l.length r).getD 0
def modC1 (m : Mo) : Int × Int × Int := listE (nmM m) (fun _ => 0) 1 m.modes.l.length 1 6 (0, 0, 0)
def modC2 (m : Mo) : Int × Int × Int := listE (nmK m) (otK m) 2 m.kinds.l.length 1 8 (modC1 m)
def modC (m : Mo) : Int × Int × Int := listE (nmR m) (otR m) 3 m.rules.l.length 0 10 (modC2 m)
section
variable {s : Sig}
theorem command_CheckModel {m : Mo} (hs : Ok s) (hm : m.Ok) : callL AP (.fn 46) [m.v] s = some (.tuple [.agg [I (modC m).1, I (modC m).2.1], I (modC m).2.2], s) := by
  have hml := hm.ml
  have hkl := hm.kl
  have hrl := hm.rl
  have hbox : ∀ (bx : List (List AV)) b c r, bx[b]? = some c → ((s.push ⟨bx, []⟩).push r).box s.acts.length b = some c := fun bx b c r h => box_keep (by rw [box_push]; exact h) r
  have l1 : callL AP (.fn 66) [.ptr s.acts.length 2 0, I 1, I m.modes.l.length, I 1, I 6, .fn 67 [] [.ptr s.acts.length 0 0], .fn 68 [] []] (s.push ⟨[rowMo m, [I 0, I 0], [I 0, I 0, I 0], [.fn 65 [] []], [I m.modes.l.length], [I m.kinds.l.length]], []⟩) =
      some (.tuple [], s.push ⟨[rowMo m, [I 0, I 0], [I (modC1 m).1, I (modC1 m).2.1, I (modC1 m).2.2], [.fn 65 [] []], [I m.modes.l.length], [I m.kinds.l.length]], []⟩) :=
    command_checker_list (nm := nmM m) (ot := fun _ => 0) (c1 := 0) (c2 := 0) (c3 := 0) hs (by omega) rfl
      (fun i r hi => by
        obtain ⟨x, hx⟩ := get_some hi
        rw [show nmM m i = x by unfold nmM; rw [hx]; rfl]
        exact command_CheckModel_2 hm.modes (hbox _ _ _ _ rfl) hx)
      (fun i r hi => command_CheckModel_3)
      (fun i hi => by
        obtain ⟨x, hx⟩ := get_some hi
        rw [show nmM m i = x by unfold nmM; rw [hx]; rfl]
        exact hm.mz x (List.mem_of_getElem? hx))
  have l2 : callL AP (.fn 66) [.ptr s.acts.length 2 0, I 2, I m.kinds.l.length, I 1, I 8, .fn 69 [] [.ptr s.acts.length 0 0], .fn 70 [] [.ptr s.acts.length 3 0, .ptr s.acts.length 0 0, .ptr s.acts.length 4 0]] (s.push ⟨[rowMo m, [I 0, I 0], [I (modC1 m).1, I (modC1 m).2.1, I (modC1 m).2.2], [.fn 65 [] []], [I m.modes.l.length], [I m.kinds.l.length]], []⟩) =
      some (.tuple [], s.push ⟨[rowMo m, [I 0, I 0], [I (modC2 m).1, I (modC2 m).2.1, I (modC2 m).2.2], [.fn 65 [] []], [I m.modes.l.length], [I m.kinds.l.length]], []⟩) :=
    command_checker_list (nm := nmK m) (ot := otK m) (c1 := (modC1 m).1) (c2 := (modC1 m).2.1) (c3 := (modC1 m).2.2) hs (by omega) rfl
      (fun i r hi => by
        obtain ⟨x, hx⟩ := get_some hi
        rw [show nmK m i = x.name by unfold nmK; rw [hx]; rfl]
        exact command_CheckModel_4 hm.kinds (hbox _ _ _ _ rfl) hx)
      (fun i r hi => by
        obtain ⟨x, hx⟩ := get_some hi
        rw [show otK m i = cond (isB x.to m.modes.l.length) 0 6 by unfold otK; rw [hx]; rfl]
        exact command_CheckModel_5 (by omega) (by omega) hm.kinds (hbox _ _ _ _ rfl) (hbox _ _ _ _ rfl) (hbox _ _ _ _ rfl) hx)
      (fun i hi => by
        obtain ⟨x, hx⟩ := get_some hi
        rw [show nmK m i = x.name by unfold nmK; rw [hx]; rfl]
        exact hm.kz x (List.mem_of_getElem? hx))
  have l3 : callL AP (.fn 66) [.ptr s.acts.length 2 0, I 3, I m.rules.l.length, I 0, I 10, .fn 71 [] [.ptr s.acts.length 0 0], .fn 72 [] [.ptr s.acts.length 0 0, .ptr s.acts.length 5 0, .ptr s.acts.length 3 0, .ptr s.acts.length 4 0]] (s.push ⟨[rowMo m, [I 0, I 0], [I (modC2 m).1, I (modC2 m).2.1, I (modC2 m).2.2], [.fn 65 [] []], [I m.modes.l.length], [I m.kinds.l.length]], []⟩) =
      some (.tuple [], s.push ⟨[rowMo m, [I 0, I 0], [I (modC m).1, I (modC m).2.1, I (modC m).2.2], [.fn 65 [] []], [I m.modes.l.length], [I m.kinds.l.length]], []⟩) :=
    command_checker_list (nm := nmR m) (ot := otR m) (c1 := (modC2 m).1) (c2 := (modC2 m).2.1) (c3 := (modC2 m).2.2) hs (by omega) rfl
      (fun i r hi => by
        obtain ⟨x, hx⟩ := get_some hi
        rw [show nmR m i = x.name by unfold nmR; rw [hx]; rfl]
        exact command_CheckModel_6 hm.rules (hbox _ _ _ _ rfl) hx)
      (fun i r hi => by
        obtain ⟨x, hx⟩ := get_some hi
        rw [show otR m i = ruleE m.kinds.l.length m.modes.l.length x by unfold otR; rw [hx]; rfl]
        exact command_CheckModel_7 ((hs.push _).push _) (by omega) (by omega) (by omega) (by omega) hm.rules (hbox _ _ _ _ rfl) (hbox _ _ _ _ rfl) (hbox _ _ _ _ rfl) (hbox _ _ _ _ rfl) hx)
      (fun i hi => by
        obtain ⟨x, hx⟩ := get_some hi
        rw [show nmR m i = x.name by unfold nmR; rw [hx]; rfl]
        exact hm.rz x (List.mem_of_getElem? hx))
  generalize (modC1 m).1 = p1 at *
  generalize (modC1 m).2.1 = p2 at *
  generalize (modC1 m).2.2 = p3 at *
  generalize (modC2 m).1 = q1 at *
  generalize (modC2 m).2.1 = q2 at *
  generalize (modC2 m).2.2 = q3 at *
  generalize (modC m).1 = r1 at *
  generalize (modC m).2.1 = r2 at *
  generalize (modC m).2.2 = r3 at *
  simp only [rowMo, Sl.v] at l1 l2 l3
  rw [callL_go (show AP 46 = some c_command_CheckModel from rfl) rfl]
  simp (maxSteps := 1000000) only [go_sem, b_command_CheckModel, hs, l1, l2, l3, List.map_cons, List.map_nil, Option.getD_some, List.all_cons, List.all_nil, List.length_map, rep2, Bool.or_true, Bool.true_or, Nat.reduceEqDiff, Nat.reduceAdd, Nat.reduceSub, ↓reduceIte, Nat.reduceLeDiff, Nat.lt_add_one, Nat.reduceLT]
end
end Go.Ax.Sx.Cm

namespace Go.Ax.Sx.Cm
open Go.Ax
set_option linter.unusedSimpArgs false
set_option linter.unusedVariables false
set_option maxRecDepth 100000
def actE (m : Mo) (a : Ac) : Int := firstErr [cond (wi a.kind 0 (m.kinds.l.length - 1)) 0 15, cond (wi a.lo 0 1000000000000 && wi a.hi 0 1000000000000) 0 2, cond (decide (a.lo ≤ a.hi)) 0 9]
def actsE (m : Mo) : Nat → List Ac → Option (Nat × Int)
 | _, [] => none
 | k, a :: r => if actE m a = 0 then actsE m (k + 1) r else some (k, actE m a)
def fileE (m : Mo) (l : List Ac) : Int × Int :=
 let e := firstErr [(modC m).2.2, cond (decide (0 < (l.length : Int))) 0 10, cond (decide ((l.length : Int) ≤ 12)) 0 8]
 if e = 0 then (match actsE m 0 l with | some (k, x) => ((k : Int), x) | none => (0, 0)) else (0, e)
section
variable {s : Sig}
theorem command_modelErr {m : Mo} (hs : Ok s) (hm : m.Ok) : callL AP (.fn 30) [m.v] s = some (I (modC m).2.2, s) := by
 have h : ∀ r, callL AP (.fn 46) [m.v] (s.push r) = some (.tuple [.agg [I (modC m).1, I (modC m).2.1], I (modC m).2.2], s.push r) := fun r => command_CheckModel (hs.push r) hm
 generalize (modC m).1 = p1 at *
 generalize (modC m).2.1 = p2 at *
 generalize (modC m).2.2 = p3 at *
 simp only [Mo.v, rowMo, Sl.v] at h
 rw [callL_go (show AP 30 = some c_command_modelErr from rfl) rfl]
 simp (maxSteps := 1000000) only [go_sem, b_command_modelErr, hs, h, Nat.reduceEqDiff, Nat.reduceAdd, ↓reduceIte]
theorem command_actErr {m : Mo} {a : Ac} (hs : Ok s) (hm : m.Ok) : callL AP (.fn 49) [m.v, .agg (rowAc a)] s = some (I (actE m a), s) := by
 have hk := hm.kl
 have hw := wrap_id (x := (m.kinds.l.length : Int) - 1) (by omega) (by omega)
 unfold actE
 rw [callL_go (show AP 49 = some c_command_actErr from rfl) rfl]
 cases h1 : wi a.lo 0 1000000000000 <;> simp (maxSteps := 1000000) only [go_sem, b_command_actErr, hw, command_within, command_isTick, h1, command_unless, command_first3, List.length_map, Nat.reduceEqDiff, Nat.reduceAdd, ↓reduceIte] <;> rfl
theorem command_CheckFile {m : Mo} {l : List Ac} {o : Own} {e : Nat} (hs : Ok s) (hm : m.Ok) (he : l = [] ∨ e = 3) (hl : l.length ≤ 1000000) : callL AP (.fn 36) [m.v, .slice o e (l.map rowAc)] s = some (.tuple [I (fileE m l).1, I (fileE m l).2], s) := by
 have hme : ∀ r, callL AP (.fn 30) [m.v] (s.push r) = some (I (modC m).2.2, s.push r) := fun r => command_modelErr (hs.push r) hm
 have hae : ∀ a r, callL AP (.fn 49) [m.v, .agg (rowAc a)] (s.push r) = some (I (actE m a), s.push r) := fun a r => command_actErr (hs.push r) hm
 simp only [Mo.v, rowMo, Sl.v] at hme hae
 unfold fileE
 generalize hE : firstErr [(modC m).2.2, cond (decide (0 < (l.length : Int))) 0 10, cond (decide ((l.length : Int) ≤ 12)) 0 8] = E
 have hff : ∀ q : Sig, callL AP (.fn 24) [.slice .full 1 [[I (modC m).2.2], [I (cond (decide (0 < (l.length : Int))) 0 10)], [I (cond (decide ((l.length : Int) ≤ 12)) 0 8)]]] q = some (I E, q) := fun q => by rw [command_first3, hE]
 generalize (modC m).2.2 = p3 at *
 by_cases h0 : E = 0
 ·subst h0
  simp only [if_true]
  have key : ∀ (k : Nat) ρ q, k ≤ l.length → (ρ 2 = .ptr s.acts.length 0 0 ∧ ρ 25 = .slice o e (l.map rowAc) ∧ ρ 26 = I l.length ∧ ρ 27 = I k ∧ ρ 4 = I 0 ∧ ρ 5 = I 0 ∧ ∃ bx, q = s.push ⟨rowMo m :: bx, []⟩) →
    go AP f_command_CheckFile (.c (.loop b_command_CheckFile_l0) :: k_command_CheckFile_0) ⟨ρ, q⟩ = some (.tuple (match actsE m k (l.drop k) with | some (j, x) => [I (j : Int), I x] | none => [I 0, I 0]), s) := by
   refine loop_up l.length _ (fun k => some (.tuple (match actsE m k (l.drop k) with | some (j, x) => [I (j : Int), I x] | none => [I 0, I 0]), s)) ?_ ?_
   ·rintro k ρ q hk ⟨g2, g25, g26, g27, g4, g5, bx, rfl⟩ ih
    obtain ⟨a, ha⟩ := get_some hk
    have he3 : e = 3 := by rcases he with h | h; (rw [h] at ha; simp at ha); exact h
    subst he3
    have hr := ix_map (o := o) (es := 3) (f := rowAc) ha
    have hwk := wrap_succ hk (show (l.length : Int) < _ by omega)
    have ha1 := fun r => hae a r
    simp only [rowAc] at hr ha1
    rw [drop_get ha]
    simp only [actsE]
    by_cases hz : actE m a = 0
    ·rw [hz] at ha1
     simp only [hz, if_true]
     simp (maxSteps := 1000000) only [go_sem, b_command_CheckFile_l0, g2, g25, g26, g27, hs, lt_dec hk, hr, ha1, hwk, ne_eq, not_true, decide_false, List.length_cons, Nat.reduceEqDiff, ↓reduceIte, ne_eq, not_true]
     refine ih _ _ ?_
     exact ⟨g2, g25, g26, rfl, g4, g5, _, rfl⟩
    ·simp only [hz, if_false]
     simp (maxSteps := 1000000) only [go_sem, b_command_CheckFile_l0, g2, g25, g26, g27, hs, lt_dec hk, hr, ha1, hz, ne_eq, not_false_iff, decide_true, List.length_cons, Nat.reduceEqDiff, ↓reduceIte, ne_eq]
   ·rintro ρ q ⟨g2, g25, g26, g27, g4, g5, bx, rfl⟩
    rw [List.drop_length]
    simp (maxSteps := 1000000) only [go_sem, b_command_CheckFile_l0, b_command_CheckFile_r0, g26, g27, ge_dec, Nat.reduceEqDiff, ↓reduceIte]
    rfl
  rw [callL_go (show AP 36 = some c_command_CheckFile from rfl) rfl]
  simp (maxSteps := 1000000) only [go_sem, b_command_CheckFile, hme, hff, command_unless, ne_eq, not_true, decide_false, List.length_map, Nat.reduceEqDiff, Nat.reduceAdd, ↓reduceIte, ne_eq, not_true]
  refine (key 0 _ _ (Nat.zero_le _) ?_).trans ?_
  ·exact ⟨rfl, rfl, rfl, rfl, rfl, rfl, _, rfl⟩
  rw [List.drop_zero]
  cases actsE m 0 l with
  | none => rfl
  | some q => rfl
 ·simp only [h0, if_false]
  rw [callL_go (show AP 36 = some c_command_CheckFile from rfl) rfl]
  simp (maxSteps := 1000000) only [go_sem, b_command_CheckFile, hme, hff, h0, command_unless, ne_eq, not_false_iff, decide_true, List.length_map, Nat.reduceEqDiff, Nat.reduceAdd, ↓reduceIte, ne_eq]
end
end Go.Ax.Sx.Cm

namespace Go.Ax.Sx.Cm
open Go.Ax
set_option linter.unusedSimpArgs false
set_option linter.unusedVariables false
set_option maxRecDepth 100000
structure Upl where
 m : Mo
 file : Sl Ac
 win : Int
 fl : Int
abbrev rowUp (u : Upl) : List AV := [u.m.modes.v rowS, u.m.kinds.v rowKd, u.m.rules.v rowRu, u.file.v rowAc, I u.win, I u.fl]
abbrev Upl.v (u : Upl) : AV := .agg (rowUp u)
structure Upl.Ok (u : Upl) : Prop where
 m : u.m.Ok
 file : u.file.ok 3
 fl : u.file.l.length ≤ 1000000
def uplE (u : Upl) : Int := firstErr [(fileE u.m u.file.l).2, cond (wi u.win 1 6 && wi u.fl 1 6) 0 2]
section
variable {s : Sig}
theorem command_CheckUplink {u : Upl} (hs : Ok s) (hu : u.Ok) : callL AP (.fn 21) [u.v] s = some (I (uplE u), s) := by
 have hcf : ∀ r, callL AP (.fn 36) [u.m.v, .slice u.file.o u.file.e (u.file.l.map rowAc)] (s.push r) = some (.tuple [I (fileE u.m u.file.l).1, I (fileE u.m u.file.l).2], s.push r) := fun r => command_CheckFile (hs.push r) hu.m hu.file.1 hu.fl
 unfold uplE
 generalize (fileE u.m u.file.l).1 = p1 at *
 generalize (fileE u.m u.file.l).2 = p2 at *
 simp only [Mo.v, rowMo, Sl.v] at hcf
 rw [callL_go (show AP 21 = some c_command_CheckUplink from rfl) rfl]
 cases h1 : wi u.win 1 6 <;> simp (maxSteps := 1000000) only [go_sem, b_command_CheckUplink, hcf, command_within, h1, command_unless, command_first2, Nat.reduceEqDiff, Nat.reduceAdd, ↓reduceIte] <;> rfl
theorem command_Begin {u : Upl} (hs : Ok s) (hu : u.Ok) : callL AP (.fn 6) [u.v] s = some (.tuple [.agg [I 0, I 0, .slice .nilS 0 [], B false, I 0, B false, .slice .nilS 0 [], .slice .nilS 0 []], I (uplE u)], s) := by
 have h : ∀ r, callL AP (.fn 21) [u.v] (s.push r) = some (I (uplE u), s.push r) := fun r => command_CheckUplink (hs.push r) hu
 simp only [Upl.v, rowUp, Sl.v] at h
 rw [callL_go (show AP 6 = some c_command_Begin from rfl) rfl]
 simp (maxSteps := 1000000) only [go_sem, b_command_Begin, hs, h, Nat.reduceEqDiff, Nat.reduceAdd, ↓reduceIte]
end
end Go.Ax.Sx.Cm

namespace Go.Ax.Sx.Cm
open Go.Ax
set_option linter.unusedSimpArgs false
set_option linter.unusedVariables false
set_option maxRecDepth 100000
abbrev rowPr (m : Mo) (mode at_ : Int) (LV : AV) : List AV := [m.modes.v rowS, m.kinds.v rowKd, m.rules.v rowRu, I mode, I at_, LV]
def concB (mode : Int) (r : Ru) (kind : Int) : Bool := decide (r.kind = kind) && (decide (r.mode = -1) || decide (r.mode = mode))
def lastA (last : List Int) (i : Int) : Int := (last[i.toNat]?).getD (-1)
def forbB (mode at_ : Int) (last : List Int) (kind : Int) (r : Ru) : Bool := concB mode r kind && (decide (r.after = -1) || (!decide (lastA last r.after = -1) && decide (at_ - lastA last r.after < r.gap)))
def LastOk (s : Sig) (LV : AV) (last : List Int) : Prop := ∀ (i : Nat) v, last[i]? = some v → ∃ p, indexAddrOp none 1 LV (I (i : Int)) = some p ∧ ∀ r, (s.push r).load false 1 p = some (I v)
def ruleV : Option Ru → AV
 | some r => .eptr (rowRu r) 0
 | none => .v (.pointer none)
section
variable {s : Sig}
theorem command_probe_concerns {m : Mo} {mode at_ kind : Int} {LV : AV} {d b : Nat} {r : Ru} (hs : Ok s) (hb : s.box d b = some (rowPr m mode at_ LV)) : callL AP (.fn 48) [.ptr d b 0, .agg (rowRu r), I kind] s = some (B (concB mode r kind), s) := by
 unfold concB
 rw [callL_go (show AP 48 = some c_command_probe_concerns from rfl) rfl]
 cases h1 : decide (r.kind = kind) with
 | false => simp (maxSteps := 1000000) only [go_sem, b_command_probe_concerns, h1, Nat.reduceEqDiff, Nat.reduceAdd, Int.reduceNeg, ↓reduceIte] <;> rfl
 | true =>
  cases h2 : decide (r.mode = -1) with
  | true => simp (maxSteps := 1000000) only [go_sem, b_command_probe_concerns, h1, h2, Nat.reduceEqDiff, Nat.reduceAdd, Int.reduceNeg, ↓reduceIte] <;> rfl
  | false => simp (maxSteps := 1000000) only [go_sem, b_command_probe_concerns, box_keep hb, h1, h2, Nat.reduceEqDiff, reduceCtorEq, Nat.reduceAdd, Int.reduceNeg, ↓reduceIte] <;> rfl
theorem command_probe_forbids {m : Mo} {mode at_ kind : Int} {LV : AV} {last : List Int} {d b : Nat} (hs : Ok s) (hm : m.Ok) (hb : s.box d b = some (rowPr m mode at_ LV)) (hl : LastOk s LV last) (hr : ∀ r ∈ m.rules.l, r.after = -1 ∨ (0 ≤ r.after ∧ r.after < last.length))
  (hv : ∀ v ∈ last, -1 ≤ v ∧ v ≤ 1000000000000) (h0 : 0 ≤ at_) (h1 : at_ ≤ 1000000000000) :
  callL AP (.fn 34) [.ptr d b 0, I kind] s = some (ruleV (m.rules.l.find? (forbB mode at_ last kind)), s) := by
 have hrl := hm.rl
 have key : ∀ (k : Nat) ρ q, k ≤ m.rules.l.length → (ρ 0 = .ptr d b 0 ∧ ρ 1 = I kind ∧ ρ 11 = m.rules.v rowRu ∧ ρ 12 = I m.rules.l.length ∧ ρ 13 = I k ∧ ρ 4 = .v (.pointer none) ∧ ∃ bx, q = s.push ⟨bx, []⟩) →
   go AP f_command_probe_forbids (.c (.loop b_command_probe_forbids_l0) :: k_command_probe_forbids_0) ⟨ρ, q⟩ = some (ruleV ((m.rules.l.drop k).find? (forbB mode at_ last kind)), s) := by
  refine loop_up m.rules.l.length _ (fun k => some (ruleV ((m.rules.l.drop k).find? (forbB mode at_ last kind)), s)) ?_ ?_
  ·rintro k ρ q hk ⟨g0, g1, g11, g12, g13, g4, bx, rfl⟩ ih
   obtain ⟨x, hx⟩ := get_some hk
   have hix := Sl.ix (f := rowRu) hm.rules hx
   have hwk := wrap_succ hk (show (m.rules.l.length : Int) < _ by omega)
   have hc : ∀ r, callL AP (.fn 48) [.ptr d b 0, .agg (rowRu x), I kind] (s.push r) = some (B (concB mode x kind), s.push r) := fun r => command_probe_concerns (hs.push r) (box_keep hb r)
   have hbk := fun r => box_keep hb r
   simp only [rowRu, Sl.v, rowPr] at hix hc hbk g11
   rw [drop_get hx, List.find?_cons]
   unfold forbB
   cases h2 : concB mode x kind with
   | false =>
    rw [h2] at hc
    simp only [Bool.false_and]
    simp (maxSteps := 1000000) only [go_sem, b_command_probe_forbids_l0, g0, g1, g11, g12, g13, hs, lt_dec hk, hix, hc, hwk, Nat.reduceEqDiff, reduceCtorEq, Int.reduceNeg, ↓reduceIte]
    refine ih _ _ ?_
    exact ⟨g0, g1, g11, g12, rfl, g4, _, rfl⟩
   | true =>
    rw [h2] at hc
    cases h3 : decide (x.after = -1) with
    | true =>
     simp only [Bool.true_and, Bool.true_or]
     simp (maxSteps := 1000000) only [go_sem, b_command_probe_forbids_l0, g0, g1, g11, g12, g13, hs, lt_dec hk, hix, hc, h3, hbk, Nat.reduceEqDiff, reduceCtorEq, Nat.reduceAdd, Int.reduceNeg, ↓reduceIte]
     rfl
    | false =>
     rcases hr x (List.mem_of_getElem? hx) with h | ⟨ha0, ha1⟩
     ·rw [decide_eq_true h] at h3; cases h3
     obtain ⟨i, hi⟩ : ∃ i : Nat, x.after = i := ⟨x.after.toNat, by omega⟩
     obtain ⟨v, hv1⟩ := get_some (l := last) (k := i) (by omega)
     obtain ⟨p, hp1, hp2⟩ := hl i v hv1
     obtain ⟨v0, v1⟩ := hv v (List.mem_of_getElem? hv1)
     have hla : lastA last x.after = v := by unfold lastA; rw [hi, Int.toNat_natCast, hv1]; rfl
     rw [hla]
     rw [← hi] at hp1
     have hw := wrap_id (x := at_ - v) (by omega) (by omega)
     cases h4 : decide (v = -1) with
     | true =>
      simp only [Bool.true_and, Bool.false_or, Bool.not_true, Bool.false_and]
      simp (maxSteps := 1000000) only [go_sem, b_command_probe_forbids_l0, g0, g1, g11, g12, g13, hs, lt_dec hk, hix, hc, h3, hbk, hp1, hp2, h4, hwk, ne_eq, decide_not, Bool.not_true, Nat.reduceEqDiff, reduceCtorEq, Nat.reduceAdd, Int.reduceNeg, ↓reduceIte, ne_eq]
      refine ih _ _ ?_
      exact ⟨g0, g1, g11, g12, rfl, g4, _, rfl⟩
     | false =>
      cases h5 : decide (at_ - v < x.gap) with
      | false =>
       simp only [Bool.true_and, Bool.false_or, Bool.not_false]
       simp (maxSteps := 1000000) only [go_sem, b_command_probe_forbids_l0, g0, g1, g11, g12, g13, hs, lt_dec hk, hix, hc, h3, hbk, hp1, hp2, h4, hw, h5, hwk, ne_eq, decide_not, Bool.not_false, Nat.reduceEqDiff, reduceCtorEq, Nat.reduceAdd, Int.reduceNeg, ↓reduceIte, ne_eq]
       refine ih _ _ ?_
       exact ⟨g0, g1, g11, g12, rfl, g4, _, rfl⟩
      | true =>
       simp only [Bool.true_and, Bool.false_or, Bool.not_false]
       simp (maxSteps := 1000000) only [go_sem, b_command_probe_forbids_l0, g0, g1, g11, g12, g13, hs, lt_dec hk, hix, hc, h3, hbk, hp1, hp2, h4, hw, h5, ne_eq, decide_not, Bool.not_false, Nat.reduceEqDiff, reduceCtorEq, Nat.reduceAdd, Int.reduceNeg, ↓reduceIte, ne_eq]
       rfl
  ·rintro ρ q ⟨g0, g1, g11, g12, g13, g4, bx, rfl⟩
   rw [List.drop_length]
   simp (maxSteps := 1000000) only [go_sem, b_command_probe_forbids_l0, b_command_probe_forbids_r0, g12, g13, ge_dec, Int.reduceNeg, ↓reduceIte]
   rfl
 rw [callL_go (show AP 34 = some c_command_probe_forbids from rfl) rfl]
 simp (maxSteps := 1000000) only [go_sem, b_command_probe_forbids, box_keep hb, List.length_map, reduceCtorEq, Nat.reduceAdd, ↓reduceIte]
 exact key 0 _ _ (Nat.zero_le _) ⟨rfl, rfl, rfl, rfl, rfl, rfl, _, rfl⟩
end
end Go.Ax.Sx.Cm

namespace Go.Ax.Sx.Cm
open Go.Ax
set_option linter.unusedSimpArgs false
set_option linter.unusedVariables false
set_option maxRecDepth 100000
structure PrOk (m : Mo) (at_ : Int) (last : List Int) : Prop where
 after : ∀ r ∈ m.rules.l, r.after = -1 ∨ (0 ≤ r.after ∧ r.after < last.length)
 last : ∀ v ∈ last, -1 ≤ v ∧ v ≤ 1000000000000
 a0 : 0 ≤ at_
 a1 : at_ ≤ 1000000000000
def forbF (m : Mo) (mode at_ : Int) (last : List Int) (kind : Int) : Option Ru := m.rules.l.find? (forbB mode at_ last kind)
def accB (m : Mo) (mode at_ : Int) (last : List Int) (a : Ac) : Bool := wi at_ a.lo a.hi && (forbF m mode at_ last a.kind).isNone
section
variable {s : Sig}
theorem LastOk.push {LV : AV} {last : List Int} (h : LastOk s LV last) {q : Sig} (hq : ∀ p v, (∀ r, (s.push r).load false 1 p = some (I v)) → ∀ r, (q.push r).load false 1 p = some (I v)) : LastOk q LV last := fun i v hv => by
 obtain ⟨p, h1, h2⟩ := h i v hv
 exact ⟨p, h1, hq p v h2⟩
theorem load_keep {m : Sig} {g : Bool} {n : Nat} {p v : AV} (h : m.load g n p = some v) (r : Rec) : (m.push r).load g n p = some v := by
 cases p with
 | ptr d b off =>
  rw [load_any] at h ⊢
  obtain ⟨cs, h1, h2⟩ := Option.bind_eq_some_iff.1 h
  rw [box_keep h1]; exact h2
 | eptr cs off => exact h
 | _ => simp [Sig.load, Sig.row] at h
theorem LastOk.keep {LV : AV} {last : List Int} (h : LastOk s LV last) (r0 : Rec) : LastOk (s.push r0) LV last := fun i v hv => by
 obtain ⟨p, h1, h2⟩ := h i v hv
 exact ⟨p, h1, fun r => load_keep (h2 r0) r⟩
theorem command_probe_accepts {m : Mo} {mode at_ : Int} {LV : AV} {last : List Int} {d b : Nat} {a : Ac} (hs : Ok s) (hm : m.Ok) (hb : s.box d b = some (rowPr m mode at_ LV)) (hl : LastOk s LV last) (hp : PrOk m at_ last) :
  callL AP (.fn 43) [.ptr d b 0, .agg (rowAc a)] s = some (B (accB m mode at_ last a), s) := by
 have hf : ∀ r, callL AP (.fn 34) [.ptr d b 0, I a.kind] (s.push r) = some (ruleV (forbF m mode at_ last a.kind), s.push r) := fun r => command_probe_forbids (hs.push r) hm (box_keep hb r) (hl.keep r) hp.after hp.last hp.a0 hp.a1
 have hq0 : eqOp .ptr (.v (.pointer none)) (.v (.pointer none)) = some true := rfl
 have hq1 : ∀ r : Ru, eqOp .ptr (.eptr (rowRu r) 0) (.v (.pointer none)) = some false := fun r => rfl
 unfold accB
 rw [callL_go (show AP 43 = some c_command_probe_accepts from rfl) rfl]
 cases h1 : wi at_ a.lo a.hi with
 | false => simp (maxSteps := 1000000) only [go_sem, b_command_probe_accepts, box_keep hb, command_within, h1, Nat.reduceEqDiff, reduceCtorEq, Nat.reduceAdd, ↓reduceIte] <;> rfl
 | true =>
  cases h2 : forbF m mode at_ last a.kind with
  | none =>
   rw [h2] at hf
   simp only [ruleV] at hf
   simp (maxSteps := 1000000) only [go_sem, b_command_probe_accepts, box_keep hb, command_within, h1, hf, hq0, Nat.reduceEqDiff, reduceCtorEq, Nat.reduceAdd, ↓reduceIte]
   rfl
  | some r =>
   rw [h2] at hf
   simp only [ruleV] at hf
   simp (maxSteps := 1000000) only [go_sem, b_command_probe_accepts, box_keep hb, command_within, h1, hf, hq1, Nat.reduceEqDiff, reduceCtorEq, Nat.reduceAdd, ↓reduceIte]
   rfl
end
end Go.Ax.Sx.Cm

namespace Go.Ax.Sx.Cm
open Go.Ax
set_option linter.unusedSimpArgs false
set_option linter.unusedVariables false
set_option maxRecDepth 100000
abbrev rowI (a : Int) : List AV := [I a]
def findI {α : Type} (p : α → Bool) : List α → Int
 | [] => -1
 | x :: r => if p x then 0 else if findI p r < 0 then -1 else findI p r + 1
theorem findI_cases {α : Type} (p : α → Bool) (l : List α) : (l.any p = false ∧ findI p l = -1) ∨ (l.any p = true ∧ ∃ (k : Nat) (x : α), l[k]? = some x ∧ p x = true ∧ findI p l = (k : Int) ∧ ∀ (j : Nat) (y : α), j < k → l[j]? = some y → p y = false) := by
 induction l with
 | nil => exact .inl ⟨rfl, rfl⟩
 | cons x r ih =>
  cases hx : p x with
  | true => exact .inr ⟨by simp [hx], 0, x, rfl, hx, by simp [findI, hx], fun j y hj => absurd hj (Nat.not_lt_zero _)⟩
  | false =>
   rcases ih with ⟨h1, h2⟩ | ⟨h1, k, y, h2, h3, h4, h5⟩
   ·exact .inl ⟨by simp only [List.any_cons, hx, h1]; rfl, by simp [findI, hx, h2]⟩
   ·refine .inr ⟨by simp only [List.any_cons, h1, Bool.or_true], k + 1, y, h2, h3, ?_, fun j z hj hz => ?_⟩
    ·simp only [findI, hx, h4, Bool.false_eq_true, if_false]
     rw [if_neg (by omega)]; simp
    ·cases j with
     | zero => simp at hz; subst hz; exact hx
     | succ j => exact h5 j z (by omega) hz
theorem findI_nn {α : Type} {p : α → Bool} {l : List α} : decide (0 ≤ findI p l) = l.any p := by
 rcases findI_cases p l with ⟨h1, h2⟩ | ⟨h1, k, x, _, _, h4, _⟩
 ·rw [h1, h2]; rfl
 ·rw [h1, h4]; simp
section
variable {s : Sig}
theorem findI_at {α : Type} {p : α → Bool} {l : List α} {k : Nat} {a : α} (ha : l[k]? = some a) (hpa : p a = true) (hp : ∀ j y, j < k → l[j]? = some y → p y = false) : findI p l = (k : Int) := by
 rcases findI_cases p l with ⟨h1, _⟩ | ⟨_, j, x, h2, h3, h4, h5⟩
 ·have := List.any_eq_false.1 h1 a (List.mem_of_getElem? ha)
  rw [hpa] at this; exact absurd rfl this
 ·rw [h4]
  have : j = k := by
   rcases Nat.lt_trichotomy j k with h | h | h
   ·have := hp j x h h2; rw [h3] at this; cases this
   ·exact h
   ·have := h5 k a h ha; rw [hpa] at this; cases this
  rw [this]
theorem findI_no {α : Type} {p : α → Bool} {l : List α} (hp : ∀ j y, j < l.length → l[j]? = some y → p y = false) : findI p l = -1 := by
 rcases findI_cases p l with ⟨_, h⟩ | ⟨_, j, x, h2, h3, _, _⟩
 ·exact h
 ·have := hp j x (List.getElem?_eq_some_iff.1 h2).1 h2
  rw [h3] at this; cases this
theorem z_IndexFunc_int {l : List Int} {o : Own} {e : Nat} {g : FuncId} {caps : List AV} {p : Int → Bool} (he : l = [] ∨ e = 1) (hl : (l.length : Int) < 9223372036854775808)
  (hg : ∀ a ∈ l, ∀ r, callL AP (.fn g) (I a :: caps) (s.push r) = some (B (p a), s.push r)) : callL AP (.fn 47) [.slice o e (l.map rowI), .fn g [] caps] s = some (I (findI p l), s) := by
 have key : ∀ k ρ m, k ≤ l.length → (ρ 0 = .slice o e (l.map rowI) ∧ ρ 1 = .fn g [] caps ∧ ρ 7 = I l.length ∧ ρ 8 = I k ∧ (∀ j y, j < k → l[j]? = some y → p y = false) ∧ m = s.push ⟨[], []⟩) → go AP f_z_IndexFunc_int (.c (.loop b_z_IndexFunc_int_l0) :: k_z_IndexFunc_int_0) ⟨ρ, m⟩ = some (I (findI p l), s) := by
  refine loop_up l.length _ _ ?_ ?_
  ·rintro k ρ m hk ⟨h0, h1, h7, h8, hp, rfl⟩ ih
   obtain ⟨a, ha⟩ := get_some hk
   have he : e = 1 := by rcases he with h | h; (rw [h] at ha; simp at ha); exact h
   subst he
   have hr := ix_map (o := o) (es := 1) (f := rowI) ha
   simp (maxSteps := 1000000) only [go_sem, b_z_IndexFunc_int_l0, h0, h1, h7, h8, lt_dec hk, hr, hg a (List.mem_of_getElem? ha), wrap_succ hk hl, Nat.reduceEqDiff, reduceCtorEq, ↓reduceIte]
   cases hpa : p a with
   | true =>
    simp only [cond_true]
    rw [findI_at ha hpa hp]
   | false =>
    simp only [cond_false]
    refine ih _ _ ?_
    refine ⟨h0, h1, h7, rfl, fun j y hj hy => ?_, rfl⟩
    by_cases e : j = k
    ·subst e; rw [ha] at hy; injection hy with hy; rw [← hy]; exact hpa
    ·exact hp j y (by omega) hy
  ·rintro ρ m ⟨h0, h1, h7, h8, hp, rfl⟩
   simp (maxSteps := 1000000) only [go_sem, b_z_IndexFunc_int_l0, b_z_IndexFunc_int_r0, h7, h8, ge_dec, Int.reduceNeg, ↓reduceIte]
   rw [findI_no hp]
 rw [callL_go (show AP 47 = some c_z_IndexFunc_int from rfl) rfl]
 simp (maxSteps := 1000000) only [go_sem, b_z_IndexFunc_int, reduceCtorEq, ↓reduceIte]
 exact key 0 _ _ (Nat.zero_le _) ⟨rfl, rfl, rfl, rfl, fun j y hj => absurd hj (Nat.not_lt_zero _), rfl⟩
theorem z_ContainsFunc_int {l : List Int} {o : Own} {e : Nat} {g : FuncId} {caps : List AV} {p : Int → Bool} (he : l = [] ∨ e = 1) (hl : (l.length : Int) < 9223372036854775808)
  (hg : ∀ a ∈ l, ∀ r q, callL AP (.fn g) (I a :: caps) ((s.push r).push q) = some (B (p a), (s.push r).push q)) : callL AP (.fn 33) [.slice o e (l.map rowI), .fn g [] caps] s = some (B (l.any p), s) := by
 have h := z_IndexFunc_int (s := s.push ⟨[], []⟩) (o := o) (caps := caps) (g := g) he hl (fun a ha r => hg a ha _ r)
 rw [callL_go (show AP 33 = some c_z_ContainsFunc_int from rfl) rfl]
 simp (maxSteps := 1000000) only [go_sem, b_z_ContainsFunc_int, h, findI_nn, Nat.reduceEqDiff, reduceCtorEq, ↓reduceIte]
theorem command_ForbiddenBy_1 {n mode at_ : Int} {LV : AV} {d b : Nat} (hs : Ok s) (hb : s.box d b = some [I mode, I at_, LV]) : callL AP (.fn 28) [I n, .ptr d b 0] s = some (B (!decide (n = -1) && !wi n 0 at_), s) := by
 rw [callL_go (show AP 28 = some c_command_ForbiddenBy_1 from rfl) rfl]
 cases h1 : decide (n = -1) with
 | true => simp (maxSteps := 1000000) only [go_sem, b_command_ForbiddenBy_1, h1, ne_eq, decide_not, Bool.not_true, Bool.false_and, Nat.reduceEqDiff, reduceCtorEq, Int.reduceNeg, ↓reduceIte, ne_eq]
 | false => simp (maxSteps := 1000000) only [go_sem, b_command_ForbiddenBy_1, box_keep hb, command_within, h1, ne_eq, decide_not, Bool.not_false, Bool.true_and, Nat.reduceEqDiff, reduceCtorEq, Nat.reduceAdd, Int.reduceNeg, ↓reduceIte, ne_eq]
end
end Go.Ax.Sx.Cm

namespace Go.Ax.Sx.Cm
open Go.Ax
set_option linter.unusedSimpArgs false
set_option linter.unusedVariables false
set_option maxRecDepth 100000
def momE (m : Mo) (mode at_ : Int) (last : List Int) (kind : Int) : Int :=
 firstErr [(modC m).2.2, cond (wi mode 0 (m.modes.l.length - 1)) 0 6, cond (wi at_ 0 1000000000000) 0 2, cond (decide ((last.length : Int) = (m.kinds.l.length : Int))) 0 10, cond (!last.any fun n => !decide (n = -1) && !wi n 0 at_) 0 2, cond (wi kind 0 (m.kinds.l.length - 1)) 0 15]
section
variable {s : Sig}
theorem command_ForbiddenBy {m : Mo} {mode at_ kind : Int} {o : Own} {e : Nat} {last : List Int} (hs : Ok s) (hm : m.Ok) (he : last = [] ∨ e = 1) (hl : last.length ≤ 1000000) (hp : momE m mode at_ last kind = 0 → PrOk m at_ last) :
  callL AP (.fn 11) [m.v, .agg [I mode, I at_, .slice o e (last.map rowI)], I kind] s = some (.tuple [S (if momE m mode at_ last kind = 0 then (match forbF m mode at_ last kind with | some r => r.name | none => ⟨#[]⟩) else ⟨#[]⟩), I (momE m mode at_ last kind)], s) := by
 have hme : ∀ q, Ok q → callL AP (.fn 30) [m.v] q = some (I (modC m).2.2, q) := fun q hq => command_modelErr hq hm
 have hme1 := fun q : Sig => hme (roS q) ok_roS
 have hcf : ∀ bx, callL AP (.fn 33) [.slice o e (last.map rowI), .fn 28 [] [.ptr s.acts.length 1 0]] (roS (s.push ⟨rowMo m :: [I mode, I at_, .slice o e (last.map rowI)] :: bx, []⟩)) = some (B (last.any fun n => !decide (n = -1) && !wi n 0 at_), roS (s.push ⟨rowMo m :: [I mode, I at_, .slice o e (last.map rowI)] :: bx, []⟩)) := fun bx =>
  z_ContainsFunc_int (p := fun n => !decide (n = -1) && !wi n 0 at_) he (by omega) fun a ha r q => command_ForbiddenBy_1 ((ok_roS.push r).push q) (box_keep (box_keep (show (roS (s.push ⟨rowMo m :: [I mode, I at_, .slice o e (last.map rowI)] :: bx, []⟩)).box s.acts.length 1 = some [I mode, I at_, .slice o e (last.map rowI)] from box_push s ⟨rowMo m :: [I mode, I at_, .slice o e (last.map rowI)] :: bx, []⟩ 1) r) q)
 have hw1 := wrap_id (x := (m.modes.l.length : Int) - 1) (by have := hm.ml; omega) (by have := hm.ml; omega)
 have hw2 := wrap_id (x := (m.kinds.l.length : Int) - 1) (by have := hm.kl; omega) (by have := hm.kl; omega)
 generalize hE : momE m mode at_ last kind = E at *
 have hf6 : ∀ q : Sig, callL AP (.fn 24) [.slice .full 1 [[I (modC m).2.2], [I (cond (wi mode 0 (m.modes.l.length - 1)) 0 6)], [I (cond (wi at_ 0 1000000000000) 0 2)], [I (cond (decide ((last.length : Int) = (m.kinds.l.length : Int))) 0 10)], [I (cond (!last.any fun n => !decide (n = -1) && !wi n 0 at_) 0 2)], [I (cond (wi kind 0 (m.kinds.l.length - 1)) 0 15)]]] q = some (I E, q) := fun q => by
  have := command_first (s := q) (o := .full) (l := [(modC m).2.2, cond (wi mode 0 (m.modes.l.length - 1)) 0 6, cond (wi at_ 0 1000000000000) 0 2, cond (decide ((last.length : Int) = (m.kinds.l.length : Int))) 0 10, cond (!last.any fun n => !decide (n = -1) && !wi n 0 at_) 0 2, cond (wi kind 0 (m.kinds.l.length - 1)) 0 15]) (show (6 : Int) < _ by decide)
  rw [← hE]; exact this
 generalize hA : (last.any fun n => !decide (n = -1) && !wi n 0 at_) = A at *
 generalize (modC m).2.2 = p3 at *
 simp only [Mo.v, rowMo, Sl.v] at hme1 hcf
 by_cases h0 : E = 0
 ·have hp' := hp h0
  subst h0
  have hlo : ∀ r, LastOk (s.push r) (.slice o e (last.map rowI)) last := fun r i v hv => by
   have he1 : e = 1 := by rcases he with h | h; (rw [h] at hv; simp at hv); exact h
   subst he1
   exact ⟨_, ix_map (f := rowI) hv, fun r => rfl⟩
  have hfb : ∀ bx, callL AP (.fn 34) [.ptr s.acts.length 2 0, I kind] (s.push ⟨rowMo m :: [I mode, I at_, .slice o e (last.map rowI)] :: rowPr m mode at_ (.slice o e (last.map rowI)) :: bx, []⟩) = some (ruleV (forbF m mode at_ last kind), s.push ⟨rowMo m :: [I mode, I at_, .slice o e (last.map rowI)] :: rowPr m mode at_ (.slice o e (last.map rowI)) :: bx, []⟩) := fun bx =>
   command_probe_forbids (hs.push _) hm (by rw [box_push]; rfl) (hlo _) hp'.after hp'.last hp'.a0 hp'.a1
  simp only [rowMo, rowPr, Sl.v] at hfb
  have hq0 : eqOp .ptr (.v (.pointer none)) (.v (.pointer none)) = some true := rfl
  have hq1 : ∀ r : Ru, eqOp .ptr (.eptr (rowRu r) 0) (.v (.pointer none)) = some false := fun r => rfl
  simp only [if_true]
  cases h2 : forbF m mode at_ last kind with
  | none =>
   rw [h2] at hfb
   simp only [ruleV] at hfb
   rw [callL_go (show AP 11 = some c_command_ForbiddenBy from rfl) rfl]
   simp (maxSteps := 1000000) only [go_sem, b_command_ForbiddenBy, hs, hme1, hcf, hw1, hw2, command_within, command_isTick, command_unless, hf6, hfb, hq0, ne_eq, not_true, decide_false, List.length_map, Nat.reduceEqDiff, Nat.reduceAdd, ↓reduceIte, ne_eq, not_true]
  | some r =>
   rw [h2] at hfb
   simp only [ruleV] at hfb
   rw [callL_go (show AP 11 = some c_command_ForbiddenBy from rfl) rfl]
   simp (maxSteps := 1000000) only [go_sem, b_command_ForbiddenBy, hs, hme1, hcf, hw1, hw2, command_within, command_isTick, command_unless, hf6, hfb, hq1, ne_eq, not_true, decide_false, List.length_map, Nat.reduceEqDiff, Nat.reduceAdd, ↓reduceIte, ne_eq, not_true]
 ·simp only [h0, if_false]
  rw [callL_go (show AP 11 = some c_command_ForbiddenBy from rfl) rfl]
  simp (maxSteps := 1000000) only [go_sem, b_command_ForbiddenBy, hme1, hcf, hw1, hw2, command_within, command_isTick, command_unless, hf6, h0, ne_eq, not_false_iff, decide_true, List.length_map, Nat.reduceEqDiff, Nat.reduceAdd, ↓reduceIte, ne_eq]
end
end Go.Ax.Sx.Cm

namespace Go.Ax.Sx
open Go.Ax
set_option linter.unusedSimpArgs false
set_option linter.unusedVariables false
set_option maxRecDepth 100000
theorem Mid.up {X : Rec → Sig} {d : Nat} (h : Mid X d) (r0 : Rec) : Mid (fun r => (X r).push r0) d :=
 ⟨fun r => by have := h.lt r; show ((X r).acts ++ [r0])[d]? = some r; rw [List.getElem?_append_left this]; exact h.get r, fun r f => h.onPush f, fun r => h.ro r⟩
theorem Mid.len {X : Rec → Sig} {d : Nat} (h : Mid X d) (r r' : Rec) : (X r).acts.length = (X r').acts.length := by
 have := h.on r' (fun _ => r)
 rw [← this]; simp [Sig.onRec]
theorem Mid.cbox {X : Rec → Sig} {d : Nat} (h : Mid X d) (r r' r0 : Rec) (b : Nat) : ((X r).push r0).box (X r').acts.length b = r0.boxes[b]? := by
 rw [h.len r' r, box_push]
theorem Mid.cstore {X : Rec → Sig} {d : Nat} (h : Mid X d) (hs : ∀ r, Ok (X r)) (r r' r0 : Rec) {n b off : Nat} {y : AV} : ((X r).push r0).store n (.ptr (X r').acts.length b off) y = cond (fitN n y.cells) (((r0.boxes[b]?).bind fun row => overN row off y.cells).map fun row => (X r).push ⟨r0.boxes.set b row, r0.toks⟩) none := by
 rw [h.len r' r, store_ptr (hs r)]
end Go.Ax.Sx
namespace Go.Ax.Sx.Cm
open Go.Ax
theorem overN_at {α : Type} {f : α → AV} {l : List α} {i : Nat} {x : α} (h : i < l.length) : overN (l.map f) i [f x] = some ((l.set i x).map f) := by
 rw [overN_eq, if_pos (by simp; omega), setCells, setCells, List.map_set]
theorem ix_rsl {d b es n cap i : Nat} (h : i < n) : indexAddrOp none es (.rsl d b 0 es n cap) (I (i : Int)) = some (.ptr d b (i * es)) := by
 have : (0 : Int) ≤ (i : Int) ∧ (i : Int) < (n : Int) := by omega
 simp [indexAddrOp, idx, this]
theorem set_self {α : Type} {l : List α} {k : Nat} {x : α} (h : l[k]? = some x) : l.set k x = l := by
 refine List.ext_getElem? fun i => ?_
 rw [List.getElem?_set]
 split
 ·rename_i e; subst e
  rw [if_pos (List.getElem?_eq_some_iff.1 h).1, h]
 ·rfl
section
variable {X : Rec → Sig} {d : Nat} {bx : List (List AV)} {tk : List (Option Nat)}
theorem command_probe_execute {m : Mo} {pm pa : Int} {last : List Int} {P K : Nat} {a : Ac} {i : Nat} {k : Kd} (hX : Mid X d) (hs : ∀ r, Ok (X r)) (hp : bx[P]? = some (rowPr m pm pa (.rsl d K 0 1 last.length 0))) (hk : bx[K]? = some (last.map I))
  (hm : m.kinds.ok 2) (hPK : P ≠ K) (hi : a.kind = i) (hkd : m.kinds.l[i]? = some k) (hil : i < last.length) :
  callL AP (.fn 38) [.ptr d P 0, .agg (rowAc a)] (X ⟨bx, tk⟩) =
   some (.tuple [], X ⟨(bx.set K ((last.set i pa).map I)).set P (rowPr m (if k.to = -1 then pm else k.to) pa (.rsl d K 0 1 last.length 0)), tk⟩) := by
 have hs1 : Ok (X ⟨bx, tk⟩) := hs _
 have hs2 : ∀ bx, Ok (X ⟨bx, tk⟩) := fun bx => hs _
 have hb : ∀ r0, ((X ⟨bx, tk⟩).push r0).box d P = some (rowPr m pm pa (.rsl d K 0 1 last.length 0)) := fun r0 => (hX.box (r := ⟨bx, tk⟩)).trans hp
 have hlK := (List.getElem?_eq_some_iff.1 hk).1
 have hlP := (List.getElem?_eq_some_iff.1 hp).1
 have hst1 : ∀ r0, ((X ⟨bx, tk⟩).push r0).store 1 (.ptr d K (i * 1)) (I pa) = some ((X ⟨bx.set K ((last.set i pa).map I), tk⟩).push r0) := fun r0 =>
  hX.store (r := ⟨bx, tk⟩) rfl rfl hk (by rw [Nat.mul_one]; exact overN_at hil)
 have hp2 : (bx.set K ((last.set i pa).map I))[P]? = some (rowPr m pm pa (.rsl d K 0 1 last.length 0)) := by rw [List.getElem?_set_ne (fun e => hPK e.symm)]; exact hp
 have hb2 : ∀ r0, ((X ⟨bx.set K ((last.set i pa).map I), tk⟩).push r0).box d P = some (rowPr m pm pa (.rsl d K 0 1 last.length 0)) := fun r0 => (hX.box (r := ⟨bx.set K ((last.set i pa).map I), tk⟩)).trans hp2
 have hst2 : ∀ r0, ((X ⟨bx.set K ((last.set i pa).map I), tk⟩).push r0).store 1 (.ptr d P 3) (I k.to) = some ((X ⟨(bx.set K ((last.set i pa).map I)).set P (rowPr m k.to pa (.rsl d K 0 1 last.length 0)), tk⟩).push r0) := fun r0 =>
  hX.store (r := ⟨bx.set K ((last.set i pa).map I), tk⟩) rfl rfl hp2 rfl
 have hcb := fun r r' r0 b => hX.cbox r r' r0 b
 have hix := ix_rsl (d := d) (b := K) (es := 1) (cap := 0) hil
 have hkx := Sl.ix (f := rowKd) hm hkd
 simp only [Sl.v, rowPr] at hkx hb hb2 hst2
 rw [callL_go (show AP 38 = some c_command_probe_execute from rfl) rfl]
 by_cases h1 : k.to = -1
 ·simp (maxSteps := 1000000) only [go_sem, b_command_probe_execute, hb, hb2, hcb, hi, hix, hst1, hkx, h1, ne_eq, not_true, decide_false, Nat.reduceEqDiff, reduceCtorEq, Nat.reduceAdd, Int.reduceNeg, ↓reduceIte, ne_eq, not_true]
  rw [set_self hp2]
 ·simp (maxSteps := 1000000) only [go_sem, b_command_probe_execute, hb, hb2, hcb, hi, hix, hst1, hst2, hkx, h1, ne_eq, not_false_iff, decide_true, Nat.reduceEqDiff, reduceCtorEq, Nat.reduceAdd, Int.reduceNeg, ↓reduceIte, ne_eq]
end
end Go.Ax.Sx.Cm

namespace Go.Ax.Sx.Cm
open Go.Ax
set_option linter.unusedSimpArgs false
set_option linter.unusedVariables false
set_option maxRecDepth 100000
theorem bv_nat {a : Nat} (h : a < 2 ^ 63) : (BitVec.ofInt 64 (a : Int)).toNat = a := by
 have e : BitVec.ofInt 64 (a : Int) = BitVec.ofNat 64 a := BitVec.ofInt_natCast ..
 rw [e, BitVec.toNat_ofNat]
 exact Nat.mod_eq_of_lt (Nat.lt_trans h (by decide))
theorem p63 : (2 : Nat) ^ 63 = 9223372036854775808 := by decide
theorem len_rsl {d b off es n cap : Nat} : lenOp false (.rsl d b off es n cap) = some (I (n : Int)) := rfl
theorem close_ints {l : List Int} : closeAll (l.map fun x => I x) = some (l.map fun x => I x) := by
 induction l with
 | nil => rfl
 | cons a r ih => simp only [List.map_cons, closeAll_cons, close_int, ih]; rfl
def reps (a : Int) (k n : Nat) : List AV := List.replicate k (I a) ++ List.replicate (n - k) (I 0)
theorem reps_0 {a : Int} {n : Nat} : List.replicate n (I 0) = reps a 0 n := by simp [reps]
theorem reps_n {a : Int} {n : Nat} : reps a n n = (List.replicate n a).map fun x => I x := by simp [reps]
theorem reps_len {a : Int} {k n : Nat} (h : k ≤ n) : (reps a k n).length = n := by simp [reps]; omega
theorem reps_set {a : Int} {k n : Nat} (h : k < n) : overN (reps a k n) (0 + k * 1) [I a] = some (reps a (k + 1) n) := by
 rw [overN_eq, if_pos (by rw [reps_len (by omega)]; simp; omega)]
 obtain ⟨m, hm⟩ : ∃ m, n - k = m + 1 := ⟨n - k - 1, by omega⟩
 have e1 : n - (k + 1) = m := by omega
 simp only [setCells, reps, hm, e1, Nat.zero_add, Nat.mul_one]
 rw [List.replicate_succ, List.replicate_succ' (n := k), List.append_assoc]
 rw [List.set_append_right _ _ (by simp)]
 simp
abbrev U64 (n : Int) : AV := .v (.int .u64 n)
theorem u_bv {a : Nat} (h : a < 4294967296) : (BitVec.ofInt 64 (a : Int)).toNat = a := bv_nat (by rw [p63]; omega)
theorem u_and {n : Nat} (h : n < 4294967296) : arithOp .and (U64 n) (U64 4294967295) = some (U64 n) := by
 have h1 : ((BitVec.ofInt 64 (n : Int) &&& BitVec.ofInt 64 ((4294967295 : Nat) : Int)).toNat : Int) = (n : Int) := by
  rw [BitVec.toNat_and, u_bv h, u_bv (by decide)]
  have : n &&& (2 ^ 32 - 1) = n % 2 ^ 32 := Nat.and_two_pow_sub_one_eq_mod n 32
  have h2 : n &&& 4294967295 = n := by rw [show (4294967295 : Nat) = 2 ^ 32 - 1 by decide, this]; omega
  rw [h2]
 show Option.map AV.v (some (Value.int IntKind.u64 (IntKind.u64.wrap ((BitVec.ofInt 64 (n : Int) &&& BitVec.ofInt 64 (4294967295 : Int)).toNat : Int)))) = _
 have h3 : ((4294967295 : Nat) : Int) = 4294967295 := rfl
 rw [h3] at h1
 rw [h1, u64_id (by omega) (by omega)]; rfl
theorem u_shr {n : Nat} (h : n < 4294967296) : arithOp .shr (U64 n) (U64 32) = some (U64 0) := by
 have h1 : ((n : Int)).fdiv (2 ^ 32) = 0 := by
  rw [Int.fdiv_eq_ediv_of_nonneg _ (by decide)]
  have : (2 : Int) ^ 32 = 4294967296 := by decide
  rw [this]; omega
 show Option.map AV.v (shiftOp .shr .u64 (n : Int) 32) = _
 have h2 : min ((32 : Int)).toNat IntKind.u64.bits = 32 := by decide
 unfold shiftOp
 rw [if_neg (by decide)]
 simp only [h2, h1]; rfl
theorem u_mul {a b : Int} (h0 : 0 ≤ a * b) (h1 : a * b < 18446744073709551616) : arithOp .mul (U64 a) (U64 b) = some (U64 (a * b)) := by
 show Option.map AV.v (some (Value.int IntKind.u64 (IntKind.u64.wrap (a * b)))) = _
 rw [u64_id h0 h1]; rfl
theorem u_add00 : arithOp .add (U64 0) (U64 0) = some (U64 0) := by
 show Option.map AV.v (some (Value.int IntKind.u64 (IntKind.u64.wrap (0 + 0)))) = _
 rw [u64_id (by decide) (by decide)]; rfl
section
variable {s : Sig}
theorem bits_Mul64 {n : Nat} (h : n < 4294967296) : callL AP (.fn 80) [U64 1, U64 n] s = some (.tuple [U64 0, U64 n], s) := by
 have a1 := u_and h
 have a2 : arithOp .and (U64 1) (U64 4294967295) = some (U64 1) := u_and (n := 1) (by decide)
 have a3 : arithOp .and (U64 0) (U64 4294967295) = some (U64 0) := u_and (n := 0) (by decide)
 have b1 := u_shr h
 have b2 : arithOp .shr (U64 1) (U64 32) = some (U64 0) := u_shr (n := 1) (by decide)
 have b3 : arithOp .shr (U64 0) (U64 32) = some (U64 0) := u_shr (n := 0) (by decide)
 have c1 : arithOp .mul (U64 1) (U64 n) = some (U64 n) := by rw [u_mul (by omega) (by omega), Int.one_mul]
 have c2 : arithOp .mul (U64 0) (U64 n) = some (U64 0) := by rw [u_mul (by omega) (by omega), Int.zero_mul]
 have c3 : arithOp .mul (U64 1) (U64 0) = some (U64 0) := u_mul (by decide) (by decide)
 have c4 : arithOp .mul (U64 0) (U64 0) = some (U64 0) := u_mul (by decide) (by decide)
 have hl : ∀ m : Sig, leaveVal m (U64 n) = some (U64 n) := fun m => rfl
 have hl0 : ∀ m : Sig, leaveVal m (U64 0) = some (U64 0) := fun m => rfl
 simp only [U64] at *
 rw [callL_go (show AP 80 = some c_math_bits_Mul64 from rfl) rfl]
 simp (maxSteps := 1000000) only [go_sem, b_math_bits_Mul64, a1, a2, a3, b1, b2, b3, c1, c2, c3, c4, u_add00, hl, hl0, Nat.reduceEqDiff, reduceCtorEq, ↓reduceIte]
theorem bits_Mul {n : Nat} (h : n < 4294967296) : callL AP (.fn 73) [U64 1, U64 n] s = some (.tuple [U64 0, U64 n], s) := by
 have hm : ∀ r, callL AP (.fn 80) [U64 1, U64 n] (s.push r) = some (.tuple [U64 0, U64 n], s.push r) := fun r => bits_Mul64 h
 have hl : ∀ m : Sig, leaveVal m (U64 n) = some (U64 n) := fun m => rfl
 have hl0 : ∀ m : Sig, leaveVal m (U64 0) = some (U64 0) := fun m => rfl
 simp only [U64] at *
 rw [callL_go (show AP 73 = some c_math_bits_Mul from rfl) rfl]
 simp (maxSteps := 1000000) only [go_sem, b_math_bits_Mul, hm, hl, hl0, Nat.reduceEqDiff, reduceCtorEq, ↓reduceIte]
theorem setCells_reps {a : Int} {n : Nat} : ∀ {j k : Nat}, k + j ≤ n → setCells (reps a k n) k (List.replicate j (I a)) = reps a (k + j) n
 | 0, k, _ => rfl
 | j + 1, k, h => by
  rw [List.replicate_succ]
  simp only [setCells]
  have hs := reps_set (a := a) (k := k) (n := n) (by omega)
  rw [overN_eq, if_pos (by rw [reps_len (by omega)]; simp; omega)] at hs
  injection hs with hs
  simp only [setCells, Nat.zero_add, Nat.mul_one] at hs
  rw [hs, setCells_reps (j := j) (k := k + 1) (by omega)]
  congr 1; omega
theorem copy_store {a : Int} {n k j : Nat} (hs : Ok s) (h : k + j ≤ n) : (s.push ⟨[reps a k n], []⟩).store j (.ptr s.acts.length 0 k) (.agg (List.replicate j (I a))) = some (s.push ⟨[reps a (k + j) n], []⟩) := by
 rw [store_ptr hs]
 have hf : fitN j (AV.agg (List.replicate j (I a))).cells = true := by
  rw [fitN_iff]
  refine ⟨by simp [AV.cells], ?_⟩
  rw [List.all_eq_true]
  intro x hx
  rw [(List.mem_replicate.1 hx).2]; rfl
 rw [hf, cond_true]
 simp only [List.getElem?_cons_zero, Option.bind_some, AV.cells, List.set_cons_zero]
 rw [overN_eq, if_pos (by rw [reps_len (by omega), List.length_replicate]; exact h), setCells_reps h]; rfl
theorem copy_reps {a : Int} {n k c1 c2 : Nat} (hs : Ok s) (h0 : 0 < k) (h : k < n) : copyOp (s.push ⟨[reps a k n], []⟩) (.rsl s.acts.length 0 k 1 (n - k) c1) (.rsl s.acts.length 0 0 1 k c2) = some (I (min (n - k) k : Nat), s.push ⟨[reps a (k + min (n - k) k) n], []⟩) := by
 have hsrc : (s.push ⟨[reps a k n], []⟩).srcCells (.rsl s.acts.length 0 0 1 k c2) = some (List.replicate k (I a)) := by
  simp only [Sig.srcCells, if_true, box_push, List.getElem?_cons_zero, Option.bind_some]
  rw [if_pos (by rw [reps_len (by omega)]; omega)]
  rw [List.drop_zero]
  unfold reps
  rw [List.take_left' (by simp)]
 have htk : (List.replicate k (I a)).take (n - k) = List.replicate (min (n - k) k) (I a) := by rw [List.take_replicate]
 have hne : (List.replicate (min (n - k) k) (I a)).isEmpty = false := by
  obtain ⟨q, hq⟩ : ∃ q, min (n - k) k = q + 1 := ⟨min (n - k) k - 1, by omega⟩
  rw [hq]; rfl
 have hst := copy_store (a := a) (k := k) (j := min (n - k) k) (n := n) hs (by omega)
 simp only [copyOp, hsrc, if_true, Option.bind_some, htk, hne, Bool.false_eq_true, if_false, List.length_replicate, hst, Option.map_some]
theorem copy_one {a : Int} {n c : Nat} (hs : Ok s) (h : 0 < n) : copyOp (s.push ⟨[reps a 0 n], []⟩) (.rsl s.acts.length 0 0 1 n c) (.slice .full 1 [[I a]]) = some (I 1, s.push ⟨[reps a 1 n], []⟩) := by
 have htk : ([I a] : List AV).take n = List.replicate 1 (I a) := by
  obtain ⟨q, rfl⟩ : ∃ q, n = q + 1 := ⟨n - 1, by omega⟩
  simp
 have hst := copy_store (a := a) (k := 0) (j := 1) (n := n) hs (by omega)
 have hsrc : (s.push ⟨[reps a 0 n], []⟩).srcCells (.slice .full 1 [[I a]]) = some [I a] := rfl
 simp only [copyOp, hsrc, if_true, Option.bind_some, htk, List.length_replicate, hst, Option.map_some]
 rfl
theorem mk_intsm {s : Sig} {bs : List (List AV)} {tk : List (Option Nat)} {n : Nat} (h0 : 0 < n) (hm : n ≤ 4294967296) : mkSlicemOp (s.push ⟨bs, tk⟩) 1 [I 0] (I n) (I n) = some (.rsl s.acts.length bs.length 0 1 n 0, s.push ⟨bs ++ [List.replicate n (I 0)], tk⟩) := by
 have h1 : asNat (I (n : Int)) most = some n := by simp [asNat, most]; omega
 have h2 : asNat (I (n : Int)) n = some n := by simp [asNat]
 have h3 : (List.replicate n [I 0]).flatten = List.replicate n (I 0) := by
  have : ∀ m : Nat, (List.replicate m [I 0]).flatten = List.replicate m (I 0) := fun m => by
   induction m with
   | zero => rfl
   | succ m ih => rw [List.replicate_succ, List.flatten_cons, ih]; rfl
  exact this n
 have h4 : (List.replicate n (I 0)).isEmpty = false := by cases n with | zero => omega | succ n => rfl
 simp only [mkSlicemOp, h1, h2, h3, h4, Option.bind_some, Bool.false_eq_true, ne_eq, not_true, or_self, if_false, cur_push, nbox_push, newBox_push]
theorem z_Repeat {Q : Sig} {a : Int} {n : Nat} (hQ : Ok Q) (h0 : 0 < n) (h1 : n ≤ 1000000) : callL AP (.fn 50) [.slice .full 1 [[I a]], I n] (Q.push ⟨[], []⟩) = some (.rsl Q.acts.length 0 0 1 n 0, Q.push ⟨[(List.replicate n a).map fun x => I x], []⟩) := by
 have hs : Ok (Q.push ⟨[], []⟩) := hQ.push _
 have hm : ∀ r, callL AP (.fn 73) [U64 1, U64 n] ((Q.push ⟨[], []⟩).push r) = some (.tuple [U64 0, U64 n], (Q.push ⟨[], []⟩).push r) := fun r => bits_Mul (by omega)
 have hown : ∀ r : Rec, r.boxes[0]? = some (reps a n n) → ownResult ((Q.push ⟨[], []⟩).push r) (.rsl (Q.push ⟨[], []⟩).acts.length 0 0 1 n 0) = some (.rsl Q.acts.length 0 0 1 n 0, Q.push ⟨[(List.replicate n a).map fun x => I x], []⟩) := fun r hr =>
  ownRsl (bx := []) (tk := []) hQ (by rw [hr, reps_n]) h0 (by simp) (by cases n with | zero => omega | succ n => simp [List.replicate_succ]) close_ints
 have hlt0 : decide ((n : Int) < 0) = false := by simp
 have hw1 : IntKind.u64.wrap 1 = 1 := u64_id (by decide) (by decide)
 have hwn : IntKind.u64.wrap (n : Int) = n := u64_id (by omega) (by omega)
 have hin : IntKind.i64.wrap (n : Int) = n := wrap_id (by omega) (by omega)
 have hg0 : arithOp .gtr (U64 0) (U64 0) = some (B false) := rfl
 have hgn : arithOp .gtr (U64 n) (U64 9223372036854775807) = some (B false) := by
  show Option.map AV.v (some (Value.bool (decide ((n : Int) > 9223372036854775807)))) = _
  have : decide ((n : Int) > 9223372036854775807) = false := by simp; omega
  rw [this]; rfl
 have hmk := mk_intsm (s := Q.push ⟨[], []⟩) (bs := []) (tk := []) h0 (by omega)
 rw [reps_0 (a := a)] at hmk
 simp only [List.length_nil, List.nil_append] at hmk
 have hc1 := copy_one (a := a) (c := 0) hs h0
 have key : ∀ (d k : Nat) ρ m, n - k ≤ d → 0 < k → k ≤ n → (ρ 7 = .rsl (Q.push ⟨[], []⟩).acts.length 0 0 1 n 0 ∧ ρ 8 = I k ∧ m = (Q.push ⟨[], []⟩).push ⟨[reps a k n], []⟩) → go AP f_z_Repeat_int (.c (.loop b_z_Repeat_int_l0) :: k_z_Repeat_int_0) ⟨ρ, m⟩ = some (.rsl Q.acts.length 0 0 1 n 0, Q.push ⟨[(List.replicate n a).map fun x => I x], []⟩) := by
  intro d
  induction d with
  | zero =>
   rintro k ρ m hd hk hkn ⟨g7, g8, rfl⟩
   obtain rfl : k = n := by omega
   have hlv := hown ⟨[reps a k k], []⟩ rfl
   rw [go_loop]
   simp (maxSteps := 1000000) only [go_sem, b_z_Repeat_int_l0, b_z_Repeat_int_r0, g7, g8, len_rsl, ge_dec, finF, finish, resultRaw, hlv, Nat.reduceEqDiff, ↓reduceIte]
  | succ d ih =>
   rintro k ρ m hd hk hkn ⟨g7, g8, rfl⟩
   by_cases hkn2 : k = n
   ·exact ih k ρ _ (by omega) hk hkn ⟨g7, g8, rfl⟩
   ·have hlt : k < n := by omega
    have hs1 : sliceOp (.sl 1) (.rsl (Q.push ⟨[], []⟩).acts.length 0 0 1 n 0) (some (I (k : Int))) none none = some (.rsl (Q.push ⟨[], []⟩).acts.length 0 k 1 (n - k) (n - k)) := by
     have e1 : loOf (some (I (k : Int))) n = some k := by simp [loOf, asNat]; omega
     simp only [sliceOp, if_true, mxOf, Nat.max_zero, Option.bind_some, hiOf, Option.isSome_none, Bool.false_eq_true, if_false, e1, Option.map_some]
     rw [if_neg (by simp), if_neg (by omega)]; simp
    have hs2 : ∃ c, sliceOp (.sl 1) (.rsl (Q.push ⟨[], []⟩).acts.length 0 0 1 n 0) none (some (I (k : Int))) none = some (.rsl (Q.push ⟨[], []⟩).acts.length 0 0 1 k c) := by
     have e1 : hiOf (some (I (k : Int))) false n n = some k := by simp [hiOf, asNat]; omega
     refine ⟨n - 0, ?_⟩
     simp only [sliceOp, if_true, mxOf, Nat.max_zero, Option.bind_some, Option.isSome_none, e1, loOf, Option.map_some]
     rw [if_neg (by simp), if_neg (by omega)]; simp
    obtain ⟨c, hs2⟩ := hs2
    have hcp := copy_reps (a := a) (c1 := n - k) (c2 := c) hs hk hlt
    have hw : IntKind.i64.wrap ((k : Int) + ((min (n - k) k : Nat) : Int)) = ((k + min (n - k) k : Nat) : Int) := by rw [wrap_id (by omega) (by omega)]; omega
    have hih := fun ρ m h => ih (k + min (n - k) k) ρ m (by omega) (by omega) (by omega) h
    generalize min (n - k) k = q at *
    rw [go_loop]
    simp (maxSteps := 1000000) only [go_sem, b_z_Repeat_int_l0, g7, g8, len_rsl, lt_dec hlt, hs1, hs2, hcp, hw, Nat.reduceEqDiff, ↓reduceIte]
    refine hih _ _ ?_
    exact ⟨g7, rfl, rfl⟩
 simp only [U64] at *
 rw [callL_go (show AP 50 = some c_z_Repeat_int from rfl) rfl]
 simp (maxSteps := 1000000) only [go_sem, b_z_Repeat_int, hlt0, hw1, hwn, hm, hg0, hgn, hin, hmk, hc1, Nat.reduceEqDiff, reduceCtorEq, Nat.reduceAdd, Int.cast_ofNat_Int, ↓reduceIte]
 refine key n 1 _ _ (by omega) (by omega) (by omega) ?_
 exact ⟨rfl, rfl, rfl⟩
end
end Go.Ax.Sx.Cm

namespace Go.Ax.Sx.Cm
open Go.Ax
set_option linter.unusedSimpArgs false
set_option linter.unusedVariables false
set_option maxRecDepth 100000
def last0 (n : Nat) : List Int := List.replicate n (-1)
section
variable {s : Sig} {bx : List (List AV)} {tk : List (Option Nat)}
theorem command_newProbe {m : Mo} (hs : Ok s) (hm : m.Ok) (h0 : 0 < m.kinds.l.length) (h1 : m.kinds.l.length ≤ 1000000) :
  callL AP (.inl 37) [m.v] (s.push ⟨bx, tk⟩) = some (.ptr s.acts.length (bx.length + 2) 0, s.push ⟨bx ++ [rowMo m, (last0 m.kinds.l.length).map I, rowPr m 0 0 (.rsl s.acts.length (bx.length + 1) 0 1 m.kinds.l.length 0)], tk⟩) := by
 have hro : (s.push ⟨bx, tk⟩).ro < (s.push ⟨bx, tk⟩).acts.length := by
  have := hs.ro; simp [Sig.push]; omega
 have hcb : ∀ r : List (List AV), callbOp (callL AP) (s.push ⟨r, tk⟩) 50 [.slice .full 1 [[I (-1)]], I m.kinds.l.length] = some (.rsl s.acts.length r.length 0 1 m.kinds.l.length 0, s.push ⟨r ++ [(last0 m.kinds.l.length).map I], tk⟩) := fun r => by
  have hro' : (s.push ⟨r, tk⟩).ro < (s.push ⟨r, tk⟩).acts.length := by
   have := hs.ro; simp [Sig.push]; omega
  refine callb_rsl hro' (z_Repeat (Q := roS (s.push ⟨r, tk⟩)) ok_roS h0 h1) h0 (by simp [last0]) ?_ close_ints
  cases hn : m.kinds.l.length with
  | zero => omega
  | succ n => simp [last0, List.replicate_succ]
 rw [callL_inlgo (show AP 37 = some c_command_newProbe from rfl) rfl hro]
 simp (maxSteps := 1000000) only [go_sem, b_command_newProbe, rowMo, hcb, rawsOf, Nat.reduceEqDiff, Nat.reduceAdd, Int.reduceNeg, ↓reduceIte]
structure CS where
 at_ : Int
 mode : Int
 done : List (Int × Int)
 halted : Bool
 base : Int
 told : Bool
 down : List Int
 up : List (Int × Bool)
abbrev rowDn (x : Int × Int) : List AV := [I x.1, I x.2]
abbrev rowUp2 (x : Int × Bool) : List AV := [I x.1, B x.2]
abbrev rowSt (q : CS) (xD xN xU : AV) : List AV := [I q.at_, I q.mode, xD, B q.halted, I q.base, B q.told, xN, xU]
abbrev rowLk (u : Upl) (q : CS) (xD xN xU pp : AV) : List AV := [u.m.modes.v rowS, u.m.kinds.v rowKd, u.m.rules.v rowRu, u.file.v rowAc, I u.win, I u.fl, I q.at_, I q.mode, xD, B q.halted, I q.base, B q.told, xN, xU, pp]
def cs0 : CS := ⟨0, 0, [], false, 0, false, [], []⟩
abbrev nilV : AV := .slice .nilS 0 []
theorem command_begin {u : Upl} (hs : Ok s) (hu : u.Ok) (h0 : 0 < u.m.kinds.l.length) :
  callL AP (.inl 41) [u.v] (s.push ⟨bx, tk⟩) = some (.ptr s.acts.length (bx.length + 4) 0, s.push ⟨bx ++ [rowUp u, rowMo u.m, (last0 u.m.kinds.l.length).map I, rowPr u.m 0 0 (.rsl s.acts.length (bx.length + 2) 0 1 u.m.kinds.l.length 0), rowLk u cs0 nilV nilV nilV (.ptr s.acts.length (bx.length + 3) 0)], tk⟩) := by
 have hro : (s.push ⟨bx, tk⟩).ro < (s.push ⟨bx, tk⟩).acts.length := by
  have := hs.ro; simp [Sig.push]; omega
 have hkl := hu.m.kl
 have hc : ∀ g ws, (∀ q ∈ ws, q = (true, 6, AV.ptr s.acts.length bx.length 0)) → callqOp (callL AP) (s.push ⟨bx ++ [rowUp u], tk⟩) g [u.m.v] ws = callqOp (callL AP) (s.push ⟨bx ++ [rowUp u], tk⟩) g [u.m.v] ws := fun _ _ _ => rfl
 have hnp := command_newProbe (bx := bx ++ [rowUp u]) (tk := tk) hs hu.m h0 (by omega)
 have hcq : callqOp (callL AP) (s.push ⟨bx ++ [rowUp u], tk⟩) (.inl 37) [u.m.v] [(true, 6, AV.ptr s.acts.length bx.length 0)] = some (.ptr s.acts.length (bx.length + 1 + 2) 0, s.push ⟨bx ++ [rowUp u] ++ [rowMo u.m, (last0 u.m.kinds.l.length).map I, rowPr u.m 0 0 (.rsl s.acts.length (bx.length + 1 + 1) 0 1 u.m.kinds.l.length 0)], tk⟩) := by
  refine callq_eq (by simpa using hnp) fun q hq => ?_
  have hq : q = (true, 6, AV.ptr s.acts.length bx.length 0) := by simpa using hq
  subst hq
  simp only [load_any, box_push]
  simp
 simp only [Mo.v, rowMo, Sl.v] at hcq
 rw [callL_inlgo (show AP 41 = some c_command_begin from rfl) rfl hro]
 simp (maxSteps := 1000000) only [go_sem, b_command_begin, hcq, rawsOf, Nat.reduceEqDiff, Nat.reduceAdd, ↓reduceIte]
 rfl
end
end Go.Ax.Sx.Cm

namespace Go.Ax.Sx.Cm
open Go.Ax
set_option linter.unusedSimpArgs false
set_option linter.unusedVariables false
set_option maxRecDepth 100000
def cloV {α : Type} (d nb es : Nat) (x : Sl α) : AV := if x.o.isNil then nilV else if x.l.isEmpty then .slice .full es [] else .rsl d nb 0 es x.l.length 0
def cloB {α : Type} (f : α → List AV) (x : Sl α) : List (List AV) := if x.o.isNil || x.l.isEmpty then [] else [(x.l.map f).flatten]
theorem flat_len {α : Type} {f : α → List AV} {es : Nat} (hf : ∀ a, (f a).length = es) : ∀ l : List α, (l.map f).flatten.length = l.length * es
 | [] => by simp
 | a :: l => by rw [List.map_cons, List.flatten_cons, List.length_append, flat_len hf l, hf, List.length_cons, Nat.succ_mul]; omega
theorem closeAll_app : ∀ {a b x y : List AV}, closeAll a = some x → closeAll b = some y → closeAll (a ++ b) = some (x ++ y)
 | [], b, x, y, h1, h2 => by
  simp only [closeAll] at h1
  injection h1 with h1
  subst h1
  exact h2
 | c :: a, b, x, y, h1, h2 => by
  simp only [closeAll] at h1
  split at h1
  ·rename_i z t e1 e2
   injection h1 with h1
   subst h1
   simp only [List.cons_append, closeAll, e1, closeAll_app e2 h2]
  ·cases h1
theorem flat_close {α : Type} {f : α → List AV} (hf : ∀ a, closeAll (f a) = some (f a)) : ∀ l : List α, closeAll (l.map f).flatten = some (l.map f).flatten
 | [] => rfl
 | a :: l => by rw [List.map_cons, List.flatten_cons]; exact closeAll_app (hf a) (flat_close hf l)
theorem callb_full {s : Sig} {f : FuncId} {args : List AV} {es : Nat} (h : callL AP (.fn f) args ((roS s).push ⟨[], []⟩) = some (.slice .full es [], (roS s).push ⟨[], []⟩)) : callbOp (callL AP) s f args = some (.slice .full es [], s) := by
 have h : callL AP (.fn f) args { s.push ⟨[], []⟩ with ro := s.acts.length, lro := s.loops.length } = some (.slice .full es [], (roS s).push ⟨[], []⟩) := h
 unfold callbOp
 rw [h]
 rfl
section
variable {s : Sig} {bx : List (List AV)} {tk : List (Option Nat)}
theorem z_Clone_CommandDone {x : Sl (Int × Int)} (hs : Ok s) (hx : x.ok 2) (hl : x.l.length ≤ 1000000) : callbOp (callL AP) (s.push ⟨bx, tk⟩) 53 [x.v rowDn] = some (cloV s.acts.length bx.length 2 x, s.push ⟨bx ++ cloB rowDn x, tk⟩) := by
 have hro : (s.push ⟨bx, tk⟩).ro < (s.push ⟨bx, tk⟩).acts.length := by
  have := hs.ro; simp [Sig.push]; omega
 have hQ : Ok (roS (s.push ⟨bx, tk⟩)) := ok_roS
 obtain ⟨o, e, l⟩ := x
 have hnil : eqOp .slice (.slice .nilS e (l.map rowDn)) nilV = some true := rfl
 by_cases ho : o.isNil = true
 ·have ho2 : o = .nilS := by cases o <;> simp [Own.isNil] at ho ⊢
  subst ho2
  have h : callL AP (.fn 53) [.slice .nilS e (l.map rowDn)] ((roS (s.push ⟨bx, tk⟩)).push ⟨[], []⟩) = some (nilV, (roS (s.push ⟨bx, tk⟩)).push ⟨[], []⟩) := by
   rw [callL_go (show AP 53 = some c_z_Clone_CommandDone from rfl) rfl]
   simp (maxSteps := 1000000) only [go_sem, b_z_Clone_CommandDone, hnil, finF, finish, resultRaw, ownResult, reduceCtorEq, ↓reduceIte]
  simp only [cloV, cloB, Own.isNil, if_true, Bool.true_or, List.append_nil]
  exact callb_nil h
 ·have hno : eqOp .slice (.slice o e (l.map rowDn)) nilV = some false := by cases o <;> first | rfl | (simp [Own.isNil] at ho)
  have ho' : o.isNil = false := by simpa using ho
  cases l with
  | nil =>
   have hai : ∀ m : Sig, appendiOp m 2 (.slice .full 2 []) (.slice o e []) = some (.slice .full 2 [], m) := fun m => rfl
   have h : callL AP (.fn 53) [.slice o e []] ((roS (s.push ⟨bx, tk⟩)).push ⟨[], []⟩) = some (.slice .full 2 [], (roS (s.push ⟨bx, tk⟩)).push ⟨[], []⟩) := by
    simp only [List.map_nil] at hno
    rw [callL_go (show AP 53 = some c_z_Clone_CommandDone from rfl) rfl]
    simp (maxSteps := 1000000) only [go_sem, b_z_Clone_CommandDone, hno, hai, finF, finish, resultRaw, ownResult, Nat.reduceEqDiff, reduceCtorEq, ↓reduceIte]
   simp only [cloV, cloB, ho', List.isEmpty_nil, if_true, Bool.or_true, List.append_nil, List.map_nil, Bool.false_eq_true, if_false]
   exact callb_full h
  | cons a r =>
   have he : e = 2 := by rcases hx.1 with h | h; (exact absurd h (by simp)); exact h
   subst he
   have hfl : (((a :: r).map rowDn).flatten).length = (a :: r).length * 2 := flat_len (f := rowDn) (fun _ => rfl) _
   have hne : ((a :: r).map rowDn).flatten ≠ [] := by intro e; rw [e] at hfl; simp at hfl
   have hcl : closeAll ((a :: r).map rowDn).flatten = some ((a :: r).map rowDn).flatten := flat_close (fun _ => rfl) _
   have hap : appendiOp (((roS (s.push ⟨bx, tk⟩)).push ⟨[], []⟩).push ⟨[], []⟩) 2 (.slice .full 2 []) (.slice o 2 ((a :: r).map rowDn)) = some (.rsl ((roS (s.push ⟨bx, tk⟩)).push ⟨[], []⟩).acts.length 0 0 2 (a :: r).length 0, ((roS (s.push ⟨bx, tk⟩)).push ⟨[], []⟩).push ⟨[((a :: r).map rowDn).flatten], []⟩) := by
    have hm : (a :: r).length ≤ most := by have hl : (a :: r).length ≤ 1000000 := hl; simp only [most]; omega
    simp only [appendiOp, Sig.srcRows, or_true, if_true, Option.bind_some, List.length_map]
    rw [if_neg (by simp), if_pos ⟨rfl, .inr ⟨rfl, trivial⟩, hm⟩]
    simp only [cur_push, nbox_push, addBox_push]
    rfl
   have hown : ∀ r0 : Rec, r0.boxes[0]? = some ((a :: r).map rowDn).flatten → ownResult (((roS (s.push ⟨bx, tk⟩)).push ⟨[], []⟩).push r0) (.rsl ((roS (s.push ⟨bx, tk⟩)).push ⟨[], []⟩).acts.length 0 0 2 (a :: r).length 0) = some (.rsl (roS (s.push ⟨bx, tk⟩)).acts.length 0 0 2 (a :: r).length 0, (roS (s.push ⟨bx, tk⟩)).push ⟨[((a :: r).map rowDn).flatten], []⟩) := fun r0 hr =>
    ownRsl (bx := []) (tk := []) hQ hr (by simp) hfl hne hcl
   have h : callL AP (.fn 53) [.slice o 2 ((a :: r).map rowDn)] ((roS (s.push ⟨bx, tk⟩)).push ⟨[], []⟩) = some (.rsl (roS (s.push ⟨bx, tk⟩)).acts.length 0 0 2 (a :: r).length 0, (roS (s.push ⟨bx, tk⟩)).push ⟨[((a :: r).map rowDn).flatten], []⟩) := by
    generalize ((a :: r).map rowDn) = Z at *
    generalize (a :: r).length = N at *
    rw [callL_go (show AP 53 = some c_z_Clone_CommandDone from rfl) rfl]
    simp (maxSteps := 1000000) only [go_sem, b_z_Clone_CommandDone, hno, hap, finF, finish, resultRaw, hown, Nat.reduceEqDiff, reduceCtorEq, ↓reduceIte]
   have := callb_rsl (s := s) (bs := bx) (tk := tk) hro h (by simp) hfl hne hcl
   simp only [cloV, cloB, ho', List.isEmpty_cons, Bool.or_self, Bool.false_eq_true, if_false]
   exact this
theorem z_Clone_int {x : Sl (Int)} (hs : Ok s) (hx : x.ok 1) (hl : x.l.length ≤ 1000000) : callbOp (callL AP) (s.push ⟨bx, tk⟩) 54 [x.v rowI] = some (cloV s.acts.length bx.length 1 x, s.push ⟨bx ++ cloB rowI x, tk⟩) := by
 have hro : (s.push ⟨bx, tk⟩).ro < (s.push ⟨bx, tk⟩).acts.length := by
  have := hs.ro; simp [Sig.push]; omega
 have hQ : Ok (roS (s.push ⟨bx, tk⟩)) := ok_roS
 obtain ⟨o, e, l⟩ := x
 have hnil : eqOp .slice (.slice .nilS e (l.map rowI)) nilV = some true := rfl
 by_cases ho : o.isNil = true
 ·have ho2 : o = .nilS := by cases o <;> simp [Own.isNil] at ho ⊢
  subst ho2
  have h : callL AP (.fn 54) [.slice .nilS e (l.map rowI)] ((roS (s.push ⟨bx, tk⟩)).push ⟨[], []⟩) = some (nilV, (roS (s.push ⟨bx, tk⟩)).push ⟨[], []⟩) := by
   rw [callL_go (show AP 54 = some c_z_Clone_int from rfl) rfl]
   simp (maxSteps := 1000000) only [go_sem, b_z_Clone_int, hnil, finF, finish, resultRaw, ownResult, reduceCtorEq, ↓reduceIte]
  simp only [cloV, cloB, Own.isNil, if_true, Bool.true_or, List.append_nil]
  exact callb_nil h
 ·have hno : eqOp .slice (.slice o e (l.map rowI)) nilV = some false := by cases o <;> first | rfl | (simp [Own.isNil] at ho)
  have ho' : o.isNil = false := by simpa using ho
  cases l with
  | nil =>
   have hai : ∀ m : Sig, appendiOp m 1 (.slice .full 1 []) (.slice o e []) = some (.slice .full 1 [], m) := fun m => rfl
   have h : callL AP (.fn 54) [.slice o e []] ((roS (s.push ⟨bx, tk⟩)).push ⟨[], []⟩) = some (.slice .full 1 [], (roS (s.push ⟨bx, tk⟩)).push ⟨[], []⟩) := by
    simp only [List.map_nil] at hno
    rw [callL_go (show AP 54 = some c_z_Clone_int from rfl) rfl]
    simp (maxSteps := 1000000) only [go_sem, b_z_Clone_int, hno, hai, finF, finish, resultRaw, ownResult, Nat.reduceEqDiff, reduceCtorEq, ↓reduceIte]
   simp only [cloV, cloB, ho', List.isEmpty_nil, if_true, Bool.or_true, List.append_nil, List.map_nil, Bool.false_eq_true, if_false]
   exact callb_full h
  | cons a r =>
   have he : e = 1 := by rcases hx.1 with h | h; (exact absurd h (by simp)); exact h
   subst he
   have hfl : (((a :: r).map rowI).flatten).length = (a :: r).length * 1 := flat_len (f := rowI) (fun _ => rfl) _
   have hne : ((a :: r).map rowI).flatten ≠ [] := by intro e; rw [e] at hfl; simp at hfl
   have hcl : closeAll ((a :: r).map rowI).flatten = some ((a :: r).map rowI).flatten := flat_close (fun _ => rfl) _
   have hap : appendiOp (((roS (s.push ⟨bx, tk⟩)).push ⟨[], []⟩).push ⟨[], []⟩) 1 (.slice .full 1 []) (.slice o 1 ((a :: r).map rowI)) = some (.rsl ((roS (s.push ⟨bx, tk⟩)).push ⟨[], []⟩).acts.length 0 0 1 (a :: r).length 0, ((roS (s.push ⟨bx, tk⟩)).push ⟨[], []⟩).push ⟨[((a :: r).map rowI).flatten], []⟩) := by
    have hm : (a :: r).length ≤ most := by have hl : (a :: r).length ≤ 1000000 := hl; simp only [most]; omega
    simp only [appendiOp, Sig.srcRows, or_true, if_true, Option.bind_some, List.length_map]
    rw [if_neg (by simp), if_pos ⟨rfl, .inr ⟨rfl, trivial⟩, hm⟩]
    simp only [cur_push, nbox_push, addBox_push]
    rfl
   have hown : ∀ r0 : Rec, r0.boxes[0]? = some ((a :: r).map rowI).flatten → ownResult (((roS (s.push ⟨bx, tk⟩)).push ⟨[], []⟩).push r0) (.rsl ((roS (s.push ⟨bx, tk⟩)).push ⟨[], []⟩).acts.length 0 0 1 (a :: r).length 0) = some (.rsl (roS (s.push ⟨bx, tk⟩)).acts.length 0 0 1 (a :: r).length 0, (roS (s.push ⟨bx, tk⟩)).push ⟨[((a :: r).map rowI).flatten], []⟩) := fun r0 hr =>
    ownRsl (bx := []) (tk := []) hQ hr (by simp) hfl hne hcl
   have h : callL AP (.fn 54) [.slice o 1 ((a :: r).map rowI)] ((roS (s.push ⟨bx, tk⟩)).push ⟨[], []⟩) = some (.rsl (roS (s.push ⟨bx, tk⟩)).acts.length 0 0 1 (a :: r).length 0, (roS (s.push ⟨bx, tk⟩)).push ⟨[((a :: r).map rowI).flatten], []⟩) := by
    generalize ((a :: r).map rowI) = Z at *
    generalize (a :: r).length = N at *
    rw [callL_go (show AP 54 = some c_z_Clone_int from rfl) rfl]
    simp (maxSteps := 1000000) only [go_sem, b_z_Clone_int, hno, hap, finF, finish, resultRaw, hown, Nat.reduceEqDiff, reduceCtorEq, ↓reduceIte]
   have := callb_rsl (s := s) (bs := bx) (tk := tk) hro h (by simp) hfl hne hcl
   simp only [cloV, cloB, ho', List.isEmpty_cons, Bool.or_self, Bool.false_eq_true, if_false]
   exact this
theorem z_Clone_CommandReport {x : Sl (Int × Bool)} (hs : Ok s) (hx : x.ok 2) (hl : x.l.length ≤ 1000000) : callbOp (callL AP) (s.push ⟨bx, tk⟩) 55 [x.v rowUp2] = some (cloV s.acts.length bx.length 2 x, s.push ⟨bx ++ cloB rowUp2 x, tk⟩) := by
 have hro : (s.push ⟨bx, tk⟩).ro < (s.push ⟨bx, tk⟩).acts.length := by
  have := hs.ro; simp [Sig.push]; omega
 have hQ : Ok (roS (s.push ⟨bx, tk⟩)) := ok_roS
 obtain ⟨o, e, l⟩ := x
 have hnil : eqOp .slice (.slice .nilS e (l.map rowUp2)) nilV = some true := rfl
 by_cases ho : o.isNil = true
 ·have ho2 : o = .nilS := by cases o <;> simp [Own.isNil] at ho ⊢
  subst ho2
  have h : callL AP (.fn 55) [.slice .nilS e (l.map rowUp2)] ((roS (s.push ⟨bx, tk⟩)).push ⟨[], []⟩) = some (nilV, (roS (s.push ⟨bx, tk⟩)).push ⟨[], []⟩) := by
   rw [callL_go (show AP 55 = some c_z_Clone_CommandReport from rfl) rfl]
   simp (maxSteps := 1000000) only [go_sem, b_z_Clone_CommandReport, hnil, finF, finish, resultRaw, ownResult, reduceCtorEq, ↓reduceIte]
  simp only [cloV, cloB, Own.isNil, if_true, Bool.true_or, List.append_nil]
  exact callb_nil h
 ·have hno : eqOp .slice (.slice o e (l.map rowUp2)) nilV = some false := by cases o <;> first | rfl | (simp [Own.isNil] at ho)
  have ho' : o.isNil = false := by simpa using ho
  cases l with
  | nil =>
   have hai : ∀ m : Sig, appendiOp m 2 (.slice .full 2 []) (.slice o e []) = some (.slice .full 2 [], m) := fun m => rfl
   have h : callL AP (.fn 55) [.slice o e []] ((roS (s.push ⟨bx, tk⟩)).push ⟨[], []⟩) = some (.slice .full 2 [], (roS (s.push ⟨bx, tk⟩)).push ⟨[], []⟩) := by
    simp only [List.map_nil] at hno
    rw [callL_go (show AP 55 = some c_z_Clone_CommandReport from rfl) rfl]
    simp (maxSteps := 1000000) only [go_sem, b_z_Clone_CommandReport, hno, hai, finF, finish, resultRaw, ownResult, Nat.reduceEqDiff, reduceCtorEq, ↓reduceIte]
   simp only [cloV, cloB, ho', List.isEmpty_nil, if_true, Bool.or_true, List.append_nil, List.map_nil, Bool.false_eq_true, if_false]
   exact callb_full h
  | cons a r =>
   have he : e = 2 := by rcases hx.1 with h | h; (exact absurd h (by simp)); exact h
   subst he
   have hfl : (((a :: r).map rowUp2).flatten).length = (a :: r).length * 2 := flat_len (f := rowUp2) (fun _ => rfl) _
   have hne : ((a :: r).map rowUp2).flatten ≠ [] := by intro e; rw [e] at hfl; simp at hfl
   have hcl : closeAll ((a :: r).map rowUp2).flatten = some ((a :: r).map rowUp2).flatten := flat_close (fun _ => rfl) _
   have hap : appendiOp (((roS (s.push ⟨bx, tk⟩)).push ⟨[], []⟩).push ⟨[], []⟩) 2 (.slice .full 2 []) (.slice o 2 ((a :: r).map rowUp2)) = some (.rsl ((roS (s.push ⟨bx, tk⟩)).push ⟨[], []⟩).acts.length 0 0 2 (a :: r).length 0, ((roS (s.push ⟨bx, tk⟩)).push ⟨[], []⟩).push ⟨[((a :: r).map rowUp2).flatten], []⟩) := by
    have hm : (a :: r).length ≤ most := by have hl : (a :: r).length ≤ 1000000 := hl; simp only [most]; omega
    simp only [appendiOp, Sig.srcRows, or_true, if_true, Option.bind_some, List.length_map]
    rw [if_neg (by simp), if_pos ⟨rfl, .inr ⟨rfl, trivial⟩, hm⟩]
    simp only [cur_push, nbox_push, addBox_push]
    rfl
   have hown : ∀ r0 : Rec, r0.boxes[0]? = some ((a :: r).map rowUp2).flatten → ownResult (((roS (s.push ⟨bx, tk⟩)).push ⟨[], []⟩).push r0) (.rsl ((roS (s.push ⟨bx, tk⟩)).push ⟨[], []⟩).acts.length 0 0 2 (a :: r).length 0) = some (.rsl (roS (s.push ⟨bx, tk⟩)).acts.length 0 0 2 (a :: r).length 0, (roS (s.push ⟨bx, tk⟩)).push ⟨[((a :: r).map rowUp2).flatten], []⟩) := fun r0 hr =>
    ownRsl (bx := []) (tk := []) hQ hr (by simp) hfl hne hcl
   have h : callL AP (.fn 55) [.slice o 2 ((a :: r).map rowUp2)] ((roS (s.push ⟨bx, tk⟩)).push ⟨[], []⟩) = some (.rsl (roS (s.push ⟨bx, tk⟩)).acts.length 0 0 2 (a :: r).length 0, (roS (s.push ⟨bx, tk⟩)).push ⟨[((a :: r).map rowUp2).flatten], []⟩) := by
    generalize ((a :: r).map rowUp2) = Z at *
    generalize (a :: r).length = N at *
    rw [callL_go (show AP 55 = some c_z_Clone_CommandReport from rfl) rfl]
    simp (maxSteps := 1000000) only [go_sem, b_z_Clone_CommandReport, hno, hap, finF, finish, resultRaw, hown, Nat.reduceEqDiff, reduceCtorEq, ↓reduceIte]
   have := callb_rsl (s := s) (bs := bx) (tk := tk) hro h (by simp) hfl hne hcl
   simp only [cloV, cloB, ho', List.isEmpty_cons, Bool.or_self, Bool.false_eq_true, if_false]
   exact this
end
end Go.Ax.Sx.Cm

namespace Go.Ax.Sx.Cm
open Go.Ax
set_option linter.unusedSimpArgs false
set_option linter.unusedVariables false
set_option maxRecDepth 100000
structure StV where
 at_ : Int
 mode : Int
 done : Sl (Int × Int)
 halted : Bool
 base : Int
 told : Bool
 down : Sl Int
 up : Sl (Int × Bool)
abbrev StV.q (x : StV) : CS := ⟨x.at_, x.mode, x.done.l, x.halted, x.base, x.told, x.down.l, x.up.l⟩
abbrev StV.row (x : StV) : List AV := rowSt x.q (x.done.v rowDn) (x.down.v rowI) (x.up.v rowUp2)
abbrev StV.v (x : StV) : AV := .agg x.row
structure StV.Ok (x : StV) : Prop where
 done : x.done.ok 2
 down : x.down.ok 1
 up : x.up.ok 2
 dl : x.done.l.length ≤ 1000000
 nl : x.down.l.length ≤ 1000000
 ul : x.up.l.length ≤ 1000000
def xD (d k : Nat) (x : StV) : AV := cloV d k 2 x.done
def xN (d k : Nat) (x : StV) : AV := cloV d (k + (cloB rowDn x.done).length) 1 x.down
def xU (d k : Nat) (x : StV) : AV := cloV d (k + (cloB rowDn x.done).length + (cloB rowI x.down).length) 2 x.up
def cloS (x : StV) : List (List AV) := cloB rowDn x.done ++ cloB rowI x.down ++ cloB rowUp2 x.up
theorem cloV_cell {α : Type} {d nb es : Nat} {x : Sl α} : (cloV d nb es x).isCell = true := by
 unfold cloV
 split
 ·rfl
 ·split <;> rfl
theorem cloV_cells {α : Type} {d nb es : Nat} {x : Sl α} : (cloV d nb es x).cells = [cloV d nb es x] := by
 unfold cloV
 split
 ·rfl
 ·split <;> rfl
section
variable {s : Sig} {bx : List (List AV)} {tk : List (Option Nat)}
theorem command_link_state {u : Upl} {x : StV} {L : Nat} {pp : AV} (hs : Ok s) (hx : x.Ok) (hL : bx[L]? = some (rowLk u x.q (x.done.v rowDn) (x.down.v rowI) (x.up.v rowUp2) pp)) :
  callL AP (.inl 42) [.ptr s.acts.length L 0] (s.push ⟨bx, tk⟩) =
   some (.agg (rowSt x.q (xD s.acts.length (bx.length + 3) x) (xN s.acts.length (bx.length + 3) x) (xU s.acts.length (bx.length + 3) x)),
    s.push ⟨bx ++ (rowSt x.q (xD s.acts.length (bx.length + 3) x) (xN s.acts.length (bx.length + 3) x) (xU s.acts.length (bx.length + 3) x) :: rowSt x.q (xD s.acts.length (bx.length + 3) x) (xN s.acts.length (bx.length + 3) x) (xU s.acts.length (bx.length + 3) x) :: [] :: cloS x), tk⟩) := by
 have hro : (s.push ⟨bx, tk⟩).ro < (s.push ⟨bx, tk⟩).acts.length := by
  have := hs.ro; simp [Sig.push]; omega
 have hb : ∀ r tk, (s.push ⟨bx ++ r, tk⟩).box s.acts.length L = some (rowLk u x.q (x.done.v rowDn) (x.down.v rowI) (x.up.v rowUp2) pp) := fun r tk => by rw [box_push]; exact box_app hL
 have hb0 : (s.push ⟨bx, tk⟩).box s.acts.length L = some (rowLk u x.q (x.done.v rowDn) (x.down.v rowI) (x.up.v rowUp2) pp) := by rw [box_push]; exact hL
 have hld : ∀ (a b : List AV) T g n off, loaddOp (s.push ⟨bx ++ a :: b :: [] :: T, tk⟩) g n (.ptr s.acts.length (bx.length + 1) off) = (s.push ⟨bx ++ a :: b :: [] :: T, tk⟩).load g n (.ptr s.acts.length (bx.length + 1) off) := fun a b T g n off => by
  refine loadd_ptr ?_
  have : (bx ++ a :: b :: [] :: T).drop (bx.length + 1 + 1) = [] :: T := by
   rw [List.drop_append, List.drop_of_length_le (by omega)]
   simp [show bx.length + 1 + 1 - bx.length = 2 by omega]
  rw [this]; rfl
 have c1 : ∀ z y, callbOp (callL AP) (s.push ⟨bx ++ [z, y, []], tk⟩) 53 [x.done.v rowDn] = some (xD s.acts.length (bx.length + 3) x, s.push ⟨bx ++ z :: y :: [] :: cloB rowDn x.done, tk⟩) := fun z y => by
  have := z_Clone_CommandDone (bx := bx ++ [z, y, []]) (tk := tk) hs hx.done hx.dl
  simpa [xD] using this
 have c2 : ∀ z y, callbOp (callL AP) (s.push ⟨bx ++ z :: y :: [] :: cloB rowDn x.done, tk⟩) 54 [x.down.v rowI] = some (xN s.acts.length (bx.length + 3) x, s.push ⟨bx ++ z :: y :: [] :: (cloB rowDn x.done ++ cloB rowI x.down), tk⟩) := fun z y => by
  have := z_Clone_int (bx := bx ++ z :: y :: [] :: cloB rowDn x.done) (tk := tk) hs hx.down hx.nl
  have e : bx.length + ((cloB rowDn x.done).length + 1 + 1 + 1) = bx.length + 3 + (cloB rowDn x.done).length := by omega
  simpa [xN, e] using this
 have c3 : ∀ z y, callbOp (callL AP) (s.push ⟨bx ++ z :: y :: [] :: (cloB rowDn x.done ++ cloB rowI x.down), tk⟩) 55 [x.up.v rowUp2] = some (xU s.acts.length (bx.length + 3) x, s.push ⟨bx ++ z :: y :: [] :: cloS x, tk⟩) := fun z y => by
  have := z_Clone_CommandReport (bx := bx ++ z :: y :: [] :: (cloB rowDn x.done ++ cloB rowI x.down)) (tk := tk) hs hx.up hx.ul
  have e : bx.length + ((cloB rowDn x.done).length + (cloB rowI x.down).length + 1 + 1 + 1) = bx.length + 3 + (cloB rowDn x.done).length + (cloB rowI x.down).length := by omega
  simpa [xU, cloS, e] using this
 have k1 : (xD s.acts.length (bx.length + 3) x).isCell = true := cloV_cell
 have k2 : (xN s.acts.length (bx.length + 3) x).isCell = true := cloV_cell
 have k3 : (xU s.acts.length (bx.length + 3) x).isCell = true := cloV_cell
 have j1 : (xD s.acts.length (bx.length + 3) x).cells = [xD s.acts.length (bx.length + 3) x] := cloV_cells
 have j2 : (xN s.acts.length (bx.length + 3) x).cells = [xN s.acts.length (bx.length + 3) x] := cloV_cells
 have j3 : (xU s.acts.length (bx.length + 3) x).cells = [xU s.acts.length (bx.length + 3) x] := cloV_cells
 generalize xD s.acts.length (bx.length + 3) x = X1 at *
 generalize xN s.acts.length (bx.length + 3) x = X2 at *
 generalize xU s.acts.length (bx.length + 3) x = X3 at *
 generalize cloS x = B3 at *
 generalize cloB rowDn x.done ++ cloB rowI x.down = B2 at *
 generalize cloB rowDn x.done = B1 at *
 simp only [Sl.v] at c1 c2 c3
 simp only [AV.cells] at j1 j2 j3
 simp only [AV.isCell] at k1 k2 k3
 rw [callL_inlgo (show AP 42 = some c_command_link_state from rfl) rfl hro]
 simp (maxSteps := 1000000) only [go_sem, b_command_link_state, hs, hb, rawsOf, hld, c1, c2, c3, k1, k2, k3, j1, j2, j3, rep1, resultRaw, Nat.reduceEqDiff, reduceCtorEq, Nat.reduceAdd, ↓reduceIte]
end
end Go.Ax.Sx.Cm

namespace Go.Ax.Sx.Cm
open Go.Ax
set_option linter.unusedSimpArgs false
set_option linter.unusedVariables false
set_option maxRecDepth 100000
def stepM (m : Mo) (pm : Int) (a : Ac) : Int := match m.kinds.l[a.kind.toNat]? with | some k => if k.to = -1 then pm else k.to | none => pm
def stepL (last : List Int) (a : Ac) (t : Int) : List Int := last.set a.kind.toNat t
def doneOk (u : Upl) (at_ : Int) : Nat → Int → Int → List Int → List (Int × Int) → Prop
 | _, _, _, _, [] => True
 | i, prev, pm, last, d :: r => d.1 = i ∧ d.2 ≤ at_ ∧ (i = 0 ∨ prev ≤ d.2) ∧ ∃ a, u.file.l[i]? = some a ∧ accB u.m pm d.2 last a = true ∧ doneOk u at_ (i + 1) d.2 (stepM u.m pm a) (stepL last a d.2) r
def momF (u : Upl) : Nat → Int → List Int → List (Int × Int) → Int × List Int
 | _, pm, last, [] => (pm, last)
 | i, pm, last, d :: r => match u.file.l[i]? with | some a => momF u (i + 1) (stepM u.m pm a) (stepL last a d.2) r | none => (pm, last)
def momQ (u : Upl) (done : List (Int × Int)) : Int × List Int := momF u 0 0 (last0 u.m.kinds.l.length) done
structure UVal (u : Upl) : Prop where
 e : uplE u = 0
 m0 : 0 < u.m.modes.l.length
 m1 : u.m.modes.l.length ≤ 6
 k0 : 0 < u.m.kinds.l.length
 k1 : u.m.kinds.l.length ≤ 8
 after : ∀ r ∈ u.m.rules.l, r.after = -1 ∨ (0 ≤ r.after ∧ r.after < u.m.kinds.l.length)
 acts : ∀ a ∈ u.file.l, (0 ≤ a.kind ∧ a.kind < u.m.kinds.l.length) ∧ 0 ≤ a.lo ∧ a.hi ≤ 1000000000000
 to_ : ∀ k ∈ u.m.kinds.l, k.to = -1 ∨ (0 ≤ k.to ∧ k.to < u.m.modes.l.length)
 fl : u.file.l.length ≤ 12
 w0 : 1 ≤ u.win
 w1 : u.win ≤ 6
 f0 : 1 ≤ u.fl
 f1 : u.fl ≤ 6
 names : ∀ r ∈ u.m.rules.l, r.name ≠ ⟨#[]⟩
structure StOk (u : Upl) (q : CS) : Prop where
 a0 : 0 ≤ q.at_
 a1 : q.at_ ≤ 1000000000000
 dl : q.done.length ≤ u.file.l.length
 nl : (q.down.length : Int) ≤ u.fl
 ul : (q.up.length : Int) ≤ u.fl
 done : doneOk u q.at_ 0 0 0 (last0 u.m.kinds.l.length) q.done
 mode : q.mode = (momQ u q.done).1
 halted : q.halted = true → q.done.length < u.file.l.length
 b0 : 0 ≤ q.base
 b1 : q.base ≤ q.done.length
 told : q.told = true → q.halted = true ∧ q.base = q.done.length
 down : ∀ x ∈ q.down, 0 ≤ x ∧ x < u.file.l.length
 up : ∀ r ∈ q.up, 0 ≤ r.1 ∧ r.1 ≤ q.done.length ∧ (r.2 = true → q.halted = true ∧ r.1 = q.done.length)
structure LaOk (n : Nat) (last : List Int) : Prop where
 l : last.length = n
 v : ∀ v ∈ last, -1 ≤ v ∧ v ≤ 1000000000000
theorem LaOk.zero {n : Nat} : LaOk n (last0 n) := ⟨by simp [last0], fun v hv => by have := (List.mem_replicate.1 hv).2; omega⟩
theorem LaOk.step {n : Nat} {last : List Int} {a : Ac} {t : Int} (h : LaOk n last) (h0 : 0 ≤ t) (h1 : t ≤ 1000000000000) : LaOk n (stepL last a t) :=
 ⟨by simp [stepL, h.l], fun v hv => by
  rcases List.mem_or_eq_of_mem_set hv with hv | hv
  ·exact h.v v hv
  ·omega⟩
def inlF (rs : List ARes) : AExit → St → Option (AV × Sig) := fun e st => match e with | .exit _ => none | _ => (rawsOf st rs).map fun l => (packed l, st.sig)
theorem inlF_n {rs : List ARes} {st : St} : inlF rs .normal st = (rawsOf st rs).map fun l => (packed l, st.sig) := rfl
theorem inlF_r {rs : List ARes} {st : St} : inlF rs .ret st = (rawsOf st rs).map fun l => (packed l, st.sig) := rfl
theorem raws_tt {ρ : Nat → AV} {m : Sig} {a b : Nat} : rawsOf ⟨ρ, m⟩ [.tmp a, .tmp b] = some [ρ a, ρ b] := rfl
theorem callL_inlF {f : FuncId} {np nt : Nat} {b : ACode} {rs : List ARes} {own : Bool} (hf : AP f = some (.code np nt b rs own)) {as : List AV} {m : Sig} (hl : as.length = np) (hm : m.ro < m.acts.length) :
  callL AP (.inl f) as m = go AP (inlF rs) [.c b] ⟨argsT as, m⟩ := callL_inlgo hf hl hm
structure Keep (n : Nat) (bs bx : List (List AV)) : Prop where
 len : bs.length ≤ bx.length
 at_ : ∀ j, j < bs.length → j ≠ n + 4 → j ≠ n + 5 → bx[j]? = bs[j]?
section
variable {s : Sig} {tk : List (Option Nat)}
theorem lastOk_rsl {d K n : Nat} {last : List Int} (hb : s.box d K = some (last.map I)) (hn : last.length = n) : LastOk s (.rsl d K 0 1 n 0) last := fun i v hv => by
 have hi := (List.getElem?_eq_some_iff.1 hv).1
 refine ⟨_, ix_rsl (by omega), fun r => ?_⟩
 rw [load_any, box_keep hb, Nat.mul_one]
 simp [part, hv]
theorem command_probe_accepts' {m : Mo} {mode at_ : Int} {LV : AV} {last : List Int} {d b : Nat} {a : Ac} (hs : Ok s) (hm : m.Ok) (hb : s.box d b = some (rowPr m mode at_ LV)) (hl : LastOk s LV last) (hp : wi at_ a.lo a.hi = true → PrOk m at_ last) :
  callL AP (.fn 43) [.ptr d b 0, .agg (rowAc a)] s = some (B (accB m mode at_ last a), s) := by
 cases h1 : wi at_ a.lo a.hi with
 | true => exact command_probe_accepts hs hm hb hl (hp h1)
 | false =>
  unfold accB
  rw [callL_go (show AP 43 = some c_command_probe_accepts from rfl) rfl]
  simp (maxSteps := 1000000) only [go_sem, b_command_probe_accepts, box_keep hb, command_within, h1, Nat.reduceEqDiff, reduceCtorEq, Nat.reduceAdd, ↓reduceIte] <;> rfl
end
end Go.Ax.Sx.Cm
