/-
  What a week is among the values that an argument may read as.
-/
import Derived.Test.YtgnedioebkiciaaGreatDoorT13
import Derived.Test.YtgnedioebkiciaaGreatDoorT10
import Derived.Test.YtgnedioebkiciaaGreatDoorT12
import Derived.Test.YtgnedioebkiciaaGreatDoorT7
namespace Go.Ax.Sx.Sc
open Go.Ax
set_option linter.unusedSimpArgs false
set_option linter.unusedVariables false
set_option maxRecDepth 100000
section
variable {α : Type}
def insP (c : α → α → Int) : List α → α → List α → List α
 | [], x, B => x :: B
 | a :: A, x, B => if c x a < 0 then insP c A x (a :: B) else (a :: A).reverse ++ x :: B
def isort (c : α → α → Int) (l : List α) : List α := l.foldl (fun acc x => insP c acc.reverse x []) []
theorem insP_perm {c : α → α → Int} : ∀ {A : List α} {x : α} {B : List α}, (insP c A x B).Perm (A.reverse ++ x :: B)
 | [], _, _ => List.Perm.refl _
 | a :: A, x, B => by
  simp only [insP]
  split
  ·refine insP_perm.trans ?_
   rw [List.reverse_cons, List.append_assoc]
   exact List.Perm.append_left _ (List.Perm.swap _ _ _)
  ·exact List.Perm.refl _
theorem isort_snoc {c : α → α → Int} {l : List α} {x : α} : isort c (l ++ [x]) = insP c (isort c l).reverse x [] := by
 unfold isort; rw [List.foldl_append]; rfl
theorem isort_perm {c : α → α → Int} {l : List α} : (isort c l).Perm l := by
 have key : ∀ (r l : List α), (r.foldl (fun acc x => insP c acc.reverse x []) l).Perm (l ++ r) := by
  intro r
  induction r with
  | nil => intro l; rw [List.append_nil]; exact List.Perm.refl _
  | cons x r ih =>
   intro l
   rw [List.foldl_cons]
   refine (ih _).trans ?_
   rw [show l ++ x :: r = (l ++ [x]) ++ r by simp]
   refine List.Perm.append_right _ ?_
   have := insP_perm (c := c) (A := l.reverse) (x := x) (B := [])
   rwa [List.reverse_reverse] at this
 exact key l []
theorem isort_len {c : α → α → Int} {l : List α} : (isort c l).length = l.length := isort_perm.length_eq
theorem insP_sorted {c : α → α → Int} {R : α → α → Prop} (tr : ∀ a b d, R a b → R b d → R a d) : ∀ {A : List α} {x : α} {B : List α},
  (A.reverse ++ B).Pairwise R → (∀ b ∈ B, R x b) → (∀ a ∈ A, c x a < 0 → R x a) → (∀ a ∈ A, ¬ c x a < 0 → R a x) → (insP c A x B).Pairwise R
 | [], x, B, h, hB, _, _ => by
  simp only [insP]
  exact List.pairwise_cons.2 ⟨hB, by simpa using h⟩
 | a :: A, x, B, h, hB, h1, h2 => by
  simp only [insP]
  split
  ·rename_i hc
   refine insP_sorted tr ?_ ?_ (fun y hy => h1 y (List.mem_cons_of_mem _ hy)) fun y hy => h2 y (List.mem_cons_of_mem _ hy)
   ·rw [List.reverse_cons, List.append_assoc] at h; exact h
   ·intro y hy
    rcases List.mem_cons.1 hy with rfl | hy
    ·exact h1 _ (by simp) hc
    ·exact hB y hy
  ·rename_i hc
   have hax := h2 a (by simp) hc
   rw [List.pairwise_append] at h ⊢
   obtain ⟨p1, p2, p3⟩ := h
   refine ⟨p1, List.pairwise_cons.2 ⟨hB, p2⟩, ?_⟩
   intro y hy z hz
   have hyx : R y x := by
    rw [List.reverse_cons, List.mem_append] at hy
    rcases hy with hy | hy
    ·rw [List.reverse_cons, List.pairwise_append] at p1
     exact tr _ _ _ (p1.2.2 y hy a (by simp)) hax
    ·rw [List.mem_singleton] at hy; rw [hy]; exact hax
   rcases List.mem_cons.1 hz with rfl | hz
   ·exact hyx
   ·exact p3 y hy z hz
theorem isort_sorted {c : α → α → Int} {R : α → α → Prop} (tr : ∀ a b d, R a b → R b d → R a d) {l : List α}
  (h : l.Pairwise fun a x => (c x a < 0 → R x a) ∧ (¬ c x a < 0 → R a x)) : (isort c l).Pairwise R := by
 have key : ∀ n, n ≤ l.length → (isort c (l.take n)).Pairwise R := by
  intro n
  induction n with
  | zero => intro _; rw [List.take_zero]; exact List.Pairwise.nil
  | succ n ih =>
   intro hn
   obtain ⟨x, hx⟩ := get_some (l := l) (k := n) (by omega)
   rw [take_get hx, isort_snoc]
   have hlt : l = l.take n ++ x :: l.drop (n + 1) := by
    obtain ⟨hk, he⟩ := List.getElem?_eq_some_iff.1 hx
    rw [← he, List.getElem_cons_drop, List.take_append_drop]
   have hp : ∀ a ∈ l.take n, (c x a < 0 → R x a) ∧ (¬ c x a < 0 → R a x) := fun a ha => by
    have h2 := h
    rw [hlt] at h2
    exact (List.pairwise_append.1 h2).2.2 a ha x (by simp)
   have hm : ∀ a, a ∈ (isort c (l.take n)).reverse → a ∈ l.take n := fun a ha => (isort_perm.mem_iff).1 (List.mem_reverse.1 ha)
   refine insP_sorted tr ?_ (by simp) (fun a ha => (hp a (hm a ha)).1) fun a ha => (hp a (hm a ha)).2
   rw [List.reverse_reverse, List.append_nil]; exact ih (by omega)
 have := key l.length (Nat.le_refl _)
 rwa [List.take_length] at this
end
structure Cell (X : List AV → Sig) (d b : Nat) : Prop where
 box : ∀ r, (X r).box d b = some r
 set : ∀ r r', (X r).setBox d b r' = X r'
 ro : ∀ r, (X r).ro ≤ d
 ok : ∀ r, Ok (X r)
section
variable {X : List AV → Sig} {d b : Nat}
theorem Cell.lt (h : Cell X d b) (r : List AV) : d < (X r).acts.length := by
 apply Classical.byContradiction
 intro hn
 have := h.box r
 rw [Sig.box, List.getElem?_eq_none (by omega)] at this; simp at this
theorem Cell.push (h : Cell X d b) (q : Rec) : Cell (fun r => (X r).push q) d b := by
 refine ⟨fun r => box_keep (h.box r) q, fun r r' => ?_, h.ro, fun r => (h.ok r).push q⟩
 rw [← h.set r r']
 have := h.lt r
 simp only [Sig.setBox, Sig.onRec, Sig.push, modify_app this]
theorem Cell.store (h : Cell X d b) {q : Rec} {row : List AV} {off n : Nat} {y : AV} (hc : y.cells.all AV.isCell = true) (hf : ((X row).push q).fitAll d y.cells = some (y.cells, (X row).push q)) (hn : y.cells.length = n) (ho : off + n ≤ row.length) :
  ((X row).push q).store n (.ptr d b off) y = some ((X (setCells row off y.cells)).push q) := by
 have hlt := h.lt row
 have hne : ¬ d = ((X row).push q).cur := by rw [cur_push]; omega
 have hro : ((X row).push q).ro ≤ d := h.ro row
 have hbx : ((X row).push q).box d b = some row := (h.push q).box row
 have hst : ((X row).push q).setBox d b (setCells row off y.cells) = (X (setCells row off y.cells)).push q := (h.push q).set row (setCells row off y.cells)
 simp only [Sig.store, hro, hn, hc, and_self, if_true, hne, if_false, hf, hbx, ho, hst]
end
theorem setCells_mid {P Q R ys : List AV} (h : Q.length = ys.length) : setCells (P ++ (Q ++ R)) P.length ys = P ++ (ys ++ R) := by
 induction Q generalizing P ys with
 | nil =>
  cases ys with
  | nil => rfl
  | cons y t => simp at h
 | cons x q ih =>
  cases ys with
  | nil => simp at h
  | cons y t =>
   simp only [setCells, List.cons_append]
   rw [set_len]
   have := ih (P := P ++ [y]) (ys := t) (by simpa using h)
   simp only [List.length_append, List.length_cons, List.length_nil, List.append_assoc, List.cons_append, List.nil_append, Nat.zero_add] at this
   exact this
section
variable {s : Sig} {X : List AV → Sig} {d b : Nat}
def flI (l : List Int) : List AV := l.map fun x => I x
theorem flI_len {l : List Int} : (flI l).length = l.length := by simp [flI]
theorem z_insertionSort_int {l : List Int} {g : FuncId} {caps : List AV} {c : Int → Int → Int} {S : Int → Prop} (hX : Cell X d b) (hl : l.length < 1000000) (hS : ∀ x ∈ l, S x)
  (hg : ∀ x y, S x → S y → ∀ row q, callL AP (.fn g) (I x :: I y :: caps) ((X row).push q) = some (I (c x y), (X row).push q)) :
  callL AP (.fn 83) [.rsl d b 0 1 l.length 0, I 0, I l.length, .fn g [] caps] (X (flI l)) = some (.tuple [], X (flI (isort c l))) := by
 have key : ∀ (k : Nat) ρ m, k ≤ l.length → (0 < k ∧ ρ 0 = .rsl d b 0 1 l.length 0 ∧ ρ 1 = I 0 ∧ ρ 2 = I l.length ∧ ρ 3 = .fn g [] caps ∧ ρ 8 = I k ∧ m = (X (flI (isort c (l.take k) ++ l.drop k))).push ⟨[], []⟩) →
   go AP f_z_insertionSortCmpFunc_int (.c (.loop b_z_insertionSortCmpFunc_int_l0) :: k_z_insertionSortCmpFunc_int_0) ⟨ρ, m⟩ = some (.tuple [], X (flI (isort c l))) := by
  refine loop_up l.length _ _ ?_ ?_
  ·rintro k ρ m hk ⟨hk0, h0, h1, h2, h3, h8, rfl⟩ ih
   obtain ⟨x, hx⟩ := get_some hk
   have hdr : l.drop k = x :: l.drop (k + 1) := by
    obtain ⟨hk', he⟩ := List.getElem?_eq_some_iff.1 hx
    rw [← he, List.getElem_cons_drop]
   have hwk := wrap_succ hk (show (l.length : Int) < _ by omega)
   have hnx : isort c (l.take (k + 1)) = insP c (isort c (l.take k)).reverse x [] := by rw [take_get hx, isort_snoc]
   have hxS := hS x (List.mem_of_getElem? hx)
   have hmem : ∀ a ∈ (isort c (l.take k)).reverse, S a := fun a ha => hS a (List.mem_of_mem_take ((isort_perm.mem_iff).1 (List.mem_reverse.1 ha)))
   have hlen : (isort c (l.take k)).reverse.length = k := by rw [List.length_reverse, isort_len, List.length_take]; omega
   have inner : ∀ (A B : List Int) ρ m, (∀ a ∈ A, S a) → A.length + B.length = k → insP c A x B = isort c (l.take (k + 1)) → (ρ 0 = .rsl d b 0 1 l.length 0 ∧ ρ 1 = I 0 ∧ ρ 2 = I l.length ∧ ρ 3 = .fn g [] caps ∧ ρ 8 = I k ∧ ρ 9 = I A.length ∧ m = (X (flI (A.reverse ++ x :: (B ++ l.drop (k + 1))))).push ⟨[], []⟩) →
     go AP f_z_insertionSortCmpFunc_int (.c (.loop b_z_insertionSortCmpFunc_int_l1) :: k_z_insertionSortCmpFunc_int_1) ⟨ρ, m⟩ = some (.tuple [], X (flI (isort c l))) := by
    intro A
    induction A with
    | nil =>
     rintro B ρ m _ hAB hins ⟨h0, h1, h2, h3, h8, h9, rfl⟩
     have hp : decide ((0 : Int) < 0) = false := rfl
     have h9 : ρ 9 = I 0 := h9
     rw [go_loop]
     simp only [insP] at hins
     rw [show ([] : List Int).reverse ++ x :: (B ++ l.drop (k + 1)) = isort c (l.take (k + 1)) ++ l.drop (k + 1) by rw [← hins]; rfl]
     generalize flI (isort c (l.take (k + 1)) ++ l.drop (k + 1)) = Z at *
     simp (maxSteps := 1000000) only [go_sem, b_z_insertionSortCmpFunc_int_l1, b_z_insertionSortCmpFunc_int_r0, h1, h8, h9, hwk, Nat.reduceEqDiff, Int.reduceLT, ↓reduceIte]
     refine ih _ _ ?_
     exact ⟨by omega, h0, h1, h2, h3, rfl, rfl⟩
    | cons a A ihA =>
     rintro B ρ m hA hAB hins ⟨h0, h1, h2, h3, h8, h9, rfl⟩
     have hp : decide ((0 : Int) < (((a :: A).length : Nat) : Int)) = true := decide_eq_true (by simp)
     rw [go_loop]
     rw [List.length_cons] at hAB h9 hp
     have hsub : IntKind.i64.wrap (((A.length + 1 : Nat) : Int) - 1) = (A.length : Int) := by rw [wrap_id (by omega) (by omega)]; omega
     have hix1 := ix_rsl (d := d) (b := b) (es := 1) (i := A.length + 1) (n := l.length) (by omega)
     have hix0 := ix_rsl (d := d) (b := b) (es := 1) (i := A.length) (n := l.length) (by omega)
     have hgc := hg x a hxS (hA a (by simp))
     have hrow : flI ((a :: A).reverse ++ x :: (B ++ l.drop (k + 1))) = flI A.reverse ++ ([I a] ++ ([I x] ++ flI (B ++ l.drop (k + 1)))) := by simp [flI]
     have hal : (flI A.reverse).length = A.length := by rw [flI_len, List.length_reverse]
     have hbx := fun q => (hX.push q).box (flI A.reverse ++ ([I a] ++ ([I x] ++ flI (B ++ l.drop (k + 1)))))
     have hg0 : (flI A.reverse ++ ([I a] ++ ([I x] ++ flI (B ++ l.drop (k + 1)))))[0 + A.length * 1]? = some (I a) := by
      rw [show 0 + A.length * 1 = A.length by omega, ← hal]; exact at_len
     have hg1 : (flI A.reverse ++ ([I a] ++ ([I x] ++ flI (B ++ l.drop (k + 1)))))[0 + (A.length + 1) * 1]? = some (I x) := by
      rw [show 0 + (A.length + 1) * 1 = A.length + 1 by omega, ← hal]; exact at_len1
     rw [hrow]
     have hst : ∀ (q : Rec) (row : List AV) (off : Nat) (v : Int), off + 1 ≤ row.length → ((X row).push q).store 1 (.ptr d b off) (I v) = some ((X (setCells row off [I v])).push q) := fun q row off v ho => hX.store rfl (fitAll_closed rfl) rfl ho
     have hs1 := fun q => hst q (flI A.reverse ++ ([I a] ++ ([I x] ++ flI (B ++ l.drop (k + 1))))) (0 + (A.length + 1) * 1) a (by simp only [List.length_append, hal, List.length_cons, List.length_nil]; omega)
     rw [show setCells (flI A.reverse ++ ([I a] ++ ([I x] ++ flI (B ++ l.drop (k + 1))))) (0 + (A.length + 1) * 1) [I a] = flI A.reverse ++ ([I a] ++ ([I a] ++ flI (B ++ l.drop (k + 1)))) by
      have := setCells_mid (P := flI A.reverse ++ [I a]) (Q := [I x]) (R := flI (B ++ l.drop (k + 1))) (ys := [I a]) rfl
      rw [List.length_append, hal, List.append_assoc, List.append_assoc] at this
      rw [show 0 + (A.length + 1) * 1 = A.length + [I a].length by simp]; exact this] at hs1
     have hs2 := fun q => hst q (flI A.reverse ++ ([I a] ++ ([I a] ++ flI (B ++ l.drop (k + 1))))) (0 + A.length * 1) x (by simp only [List.length_append, hal, List.length_cons, List.length_nil]; omega)
     rw [show setCells (flI A.reverse ++ ([I a] ++ ([I a] ++ flI (B ++ l.drop (k + 1))))) (0 + A.length * 1) [I x] = flI (A.reverse ++ x :: (a :: B ++ l.drop (k + 1))) by
      have := setCells_mid (P := flI A.reverse) (Q := [I a]) (R := [I a] ++ flI (B ++ l.drop (k + 1))) (ys := [I x]) rfl
      rw [hal] at this
      rw [show 0 + A.length * 1 = A.length by omega, this]; simp [flI]] at hs2
     rcases Decidable.em (c x a < 0) with hc | hc
     ·have hd : decide (c x a < 0) = true := decide_eq_true hc
      have hih := ihA (a :: B)
      generalize flI (A.reverse ++ x :: (a :: B ++ l.drop (k + 1))) = Z3 at hs2 hih
      generalize flI A.reverse ++ ([I a] ++ ([I a] ++ flI (B ++ l.drop (k + 1)))) = Z2 at hs1 hs2
      generalize flI A.reverse ++ ([I a] ++ ([I x] ++ flI (B ++ l.drop (k + 1)))) = Z1 at hbx hg0 hg1 hs1
      simp (maxSteps := 1000000) only [go_sem, b_z_insertionSortCmpFunc_int_l1, h0, h1, h3, h9, hp, hsub, hix0, hix1, hbx, hg0, hg1, hgc, hd, hs1, hs2, Nat.reduceEqDiff, reduceCtorEq, ↓reduceIte]
      refine hih _ _ (fun y hy => hA y (List.mem_cons_of_mem _ hy)) (by rw [List.length_cons]; omega) ?_ ?_
      ·simp only [insP] at hins; rwa [if_pos hc] at hins
      ·exact ⟨h0, h1, h2, h3, h8, rfl, rfl⟩
     ·have hd : decide (c x a < 0) = false := decide_eq_false hc
      simp only [insP] at hins
      rw [if_neg hc] at hins
      have hz : flI A.reverse ++ ([I a] ++ ([I x] ++ flI (B ++ l.drop (k + 1)))) = flI (isort c (l.take (k + 1)) ++ l.drop (k + 1)) := by
       rw [← hins, ← hrow]; simp
      generalize flI (isort c (l.take (k + 1)) ++ l.drop (k + 1)) = Z3 at hz ih
      generalize flI A.reverse ++ ([I a] ++ ([I x] ++ flI (B ++ l.drop (k + 1)))) = Z1 at hbx hg0 hg1 hs1 hz
      subst hz
      simp (maxSteps := 1000000) only [go_sem, b_z_insertionSortCmpFunc_int_l1, b_z_insertionSortCmpFunc_int_r0, h0, h1, h3, h8, h9, hp, hsub, hix0, hix1, hbx, hg0, hg1, hgc, hd, hwk, Nat.reduceEqDiff, reduceCtorEq, ↓reduceIte]
      refine ih _ _ ?_
      exact ⟨by omega, h0, h1, h2, h3, rfl, rfl⟩
   have hZ : flI (isort c (l.take k) ++ l.drop k) = flI ((isort c (l.take k)).reverse.reverse ++ x :: ([] ++ l.drop (k + 1))) := by
    rw [List.reverse_reverse, List.nil_append, ← hdr]
   have hin := inner (isort c (l.take k)).reverse []
   rw [← hZ, hlen] at hin
   generalize flI (isort c (l.take k) ++ l.drop k) = Z at hin
   simp (maxSteps := 1000000) only [go_sem, b_z_insertionSortCmpFunc_int_l0, h2, h8, lt_dec hk, Nat.reduceEqDiff, ↓reduceIte]
   refine hin _ _ hmem (by simp) hnx.symm ?_
   exact ⟨h0, h1, h2, h3, h8, rfl, rfl⟩
  ·rintro ρ m ⟨hk0, h0, h1, h2, h3, h8, rfl⟩
   rw [List.take_length, List.drop_length, List.append_nil]
   simp (maxSteps := 1000000) only [go_sem, b_z_insertionSortCmpFunc_int_l0, h2, h8, ge_dec, Nat.reduceEqDiff, ↓reduceIte]
 have hw1 : IntKind.i64.wrap (0 + 1) = ((1 : Nat) : Int) := rfl
 cases l with
 | nil =>
  have hd : decide ((1 : Int) < 0) = false := rfl
  have hw0 : IntKind.i64.wrap (0 + 1) = 1 := rfl
  rw [callL_go (show AP 83 = some c_z_insertionSortCmpFunc_int from rfl) rfl]
  simp (maxSteps := 1000000) only [go_sem, b_z_insertionSortCmpFunc_int, List.length_nil, Int.reduceLT, Int.reduceLE, Int.reduceAdd, Int.reduceNeg, Int.cast_ofNat_Int, ↓reduceIte]
  rw [go_loop]
  simp (maxSteps := 1000000) only [go_sem, b_z_insertionSortCmpFunc_int_l0, Nat.reduceEqDiff, Int.reduceLT, ↓reduceIte]
  rfl
 | cons y r =>
  have hkey := key 1
  have e1 : flI (isort c ((y :: r).take 1) ++ (y :: r).drop 1) = flI (y :: r) := rfl
  rw [e1] at hkey
  generalize hl' : y :: r = l at *
  rw [callL_go (show AP 83 = some c_z_insertionSortCmpFunc_int from rfl) rfl]
  simp (maxSteps := 1000000) only [go_sem, b_z_insertionSortCmpFunc_int, Int.reduceLT, Int.reduceLE, Int.reduceAdd, Int.reduceNeg, ↓reduceIte]
  refine hkey _ _ (by rw [← hl']; simp) ?_
  exact ⟨by decide, rfl, rfl, rfl, rfl, rfl, rfl⟩
end
end Go.Ax.Sx.Sc

namespace Go.Ax.Sx.Sc
open Go.Ax
set_option linter.unusedSimpArgs false
set_option linter.unusedVariables false
set_option maxRecDepth 100000
theorem rowP_cell {p : P} (h : p.an.ok 1) : (rowP p).all AV.isCell = true := rfl
theorem rowP_fit {p : P} {m : Sig} {d : Nat} (h : p.an.ok 1) : m.fitAll d (rowP p) = some (rowP p, m) := by
 refine fitAll_closed ?_
 rcases h.2 with h | h | h <;> simp [rowP, Sl.v, AV.isClosed, AV.isClosed1, h]
section
variable {s : Sig} {X : List AV → Sig} {d b : Nat}
theorem z_insertionSort_P {l : List P} {g : FuncId} {caps : List AV} {c : P → P → Int} {S : P → Prop} (hX : Cell X d b) (hl : l.length < 1000000) (hS : ∀ x ∈ l, S x) (hcl : ∀ x, S x → x.an.ok 1) {D : P → P → Prop} (hD : l.Pairwise fun a x => D x a)
  (hg : ∀ x y, D x y → ∀ row q, callL AP (.fn g) (.agg (rowP x) :: .agg (rowP y) :: caps) ((X row).push q) = some (I (c x y), (X row).push q)) :
  callL AP (.fn 91) [.rsl d b 0 3 l.length 0, I 0, I l.length, .fn g [] caps] (X (flP l)) = some (.tuple [], X (flP (isort c l))) := by
 have key : ∀ (k : Nat) ρ m, k ≤ l.length → (0 < k ∧ ρ 0 = .rsl d b 0 3 l.length 0 ∧ ρ 1 = I 0 ∧ ρ 2 = I l.length ∧ ρ 3 = .fn g [] caps ∧ ρ 8 = I k ∧ m = (X (flP (isort c (l.take k) ++ l.drop k))).push ⟨[], []⟩) →
   go AP f_z_insertionSortCmpFunc_SchedulePass (.c (.loop b_z_insertionSortCmpFunc_SchedulePass_l0) :: k_z_insertionSortCmpFunc_SchedulePass_0) ⟨ρ, m⟩ = some (.tuple [], X (flP (isort c l))) := by
  refine loop_up l.length _ _ ?_ ?_
  ·rintro k ρ m hk ⟨hk0, h0, h1, h2, h3, h8, rfl⟩ ih
   obtain ⟨x, hx⟩ := get_some hk
   have hdr : l.drop k = x :: l.drop (k + 1) := by
    obtain ⟨hk', he⟩ := List.getElem?_eq_some_iff.1 hx
    rw [← he, List.getElem_cons_drop]
   have hwk := wrap_succ hk (show (l.length : Int) < _ by omega)
   have hnx : isort c (l.take (k + 1)) = insP c (isort c (l.take k)).reverse x [] := by rw [take_get hx, isort_snoc]
   have hxS := hS x (List.mem_of_getElem? hx)
   have hmem : ∀ a ∈ (isort c (l.take k)).reverse, S a ∧ D x a := fun a ha => by
    have ha' := (isort_perm.mem_iff).1 (List.mem_reverse.1 ha)
    refine ⟨hS a (List.mem_of_mem_take ha'), ?_⟩
    have h2 := hD
    rw [← List.take_append_drop k l, hdr] at h2
    exact (List.pairwise_append.1 h2).2.2 a ha' x (by simp)
   have hlen : (isort c (l.take k)).reverse.length = k := by rw [List.length_reverse, isort_len, List.length_take]; omega
   have inner : ∀ (A B : List P) ρ m, (∀ a ∈ A, S a ∧ D x a) → A.length + B.length = k → insP c A x B = isort c (l.take (k + 1)) → (ρ 0 = .rsl d b 0 3 l.length 0 ∧ ρ 1 = I 0 ∧ ρ 2 = I l.length ∧ ρ 3 = .fn g [] caps ∧ ρ 8 = I k ∧ ρ 9 = I A.length ∧ m = (X (flP (A.reverse ++ x :: (B ++ l.drop (k + 1))))).push ⟨[], []⟩) →
     go AP f_z_insertionSortCmpFunc_SchedulePass (.c (.loop b_z_insertionSortCmpFunc_SchedulePass_l1) :: k_z_insertionSortCmpFunc_SchedulePass_1) ⟨ρ, m⟩ = some (.tuple [], X (flP (isort c l))) := by
    intro A
    induction A with
    | nil =>
     rintro B ρ m _ hAB hins ⟨h0, h1, h2, h3, h8, h9, rfl⟩
     have hp : decide ((0 : Int) < 0) = false := rfl
     have h9 : ρ 9 = I 0 := h9
     rw [go_loop]
     simp only [insP] at hins
     rw [show ([] : List P).reverse ++ x :: (B ++ l.drop (k + 1)) = isort c (l.take (k + 1)) ++ l.drop (k + 1) by rw [← hins]; rfl]
     generalize flP (isort c (l.take (k + 1)) ++ l.drop (k + 1)) = Z at *
     simp (maxSteps := 1000000) only [go_sem, b_z_insertionSortCmpFunc_SchedulePass_l1, b_z_insertionSortCmpFunc_SchedulePass_r0, h1, h8, h9, hwk, Nat.reduceEqDiff, Int.reduceLT, ↓reduceIte]
     refine ih _ _ ?_
     exact ⟨by omega, h0, h1, h2, h3, rfl, rfl⟩
    | cons a A ihA =>
     rintro B ρ m hA hAB hins ⟨h0, h1, h2, h3, h8, h9, rfl⟩
     have hp : decide ((0 : Int) < (((a :: A).length : Nat) : Int)) = true := decide_eq_true (by simp)
     rw [go_loop]
     rw [List.length_cons] at hAB h9 hp
     have hsub : IntKind.i64.wrap (((A.length + 1 : Nat) : Int) - 1) = (A.length : Int) := by rw [wrap_id (by omega) (by omega)]; omega
     have hix1 := ix_rsl (d := d) (b := b) (es := 3) (i := A.length + 1) (n := l.length) (by omega)
     have hix0 := ix_rsl (d := d) (b := b) (es := 3) (i := A.length) (n := l.length) (by omega)
     have hgc := hg x a (hA a (by simp)).2
     have hrow : flP ((a :: A).reverse ++ x :: (B ++ l.drop (k + 1))) = flP A.reverse ++ (rowP a ++ (rowP x ++ flP (B ++ l.drop (k + 1)))) := by
      rw [List.reverse_cons, List.append_assoc, flP_app, List.singleton_append, flP_cons, flP_cons]
     have hrow2 : flP (A.reverse ++ x :: (a :: B ++ l.drop (k + 1))) = flP A.reverse ++ (rowP x ++ (rowP a ++ flP (B ++ l.drop (k + 1)))) := by
      rw [show A.reverse ++ x :: (a :: B ++ l.drop (k + 1)) = A.reverse ++ x :: a :: (B ++ l.drop (k + 1)) from rfl, flP_app, flP_cons, flP_cons]
     have hal : (flP A.reverse).length = A.length * 3 := by rw [flP_len, List.length_reverse]
     have hr3 : ∀ p : P, (rowP p).length = 3 := fun p => rfl
     have hbx := fun q => (hX.push q).box (flP A.reverse ++ (rowP a ++ (rowP x ++ flP (B ++ l.drop (k + 1)))))
     have hg0 : cutN (0 + A.length * 3) 3 (flP A.reverse ++ (rowP a ++ (rowP x ++ flP (B ++ l.drop (k + 1))))) = some (rowP a) := by
      rw [← hrow]
      refine flP_part ?_
      rw [List.reverse_cons, List.append_assoc, ← List.length_reverse (as := A)]; exact at_len
     have hg1 : cutN (0 + (A.length + 1) * 3) 3 (flP A.reverse ++ (rowP a ++ (rowP x ++ flP (B ++ l.drop (k + 1))))) = some (rowP x) := by
      rw [← hrow]
      refine flP_part ?_
      rw [List.reverse_cons, List.append_assoc, ← List.length_reverse (as := A)]; exact at_len1
     rw [hrow]
     have hst : ∀ (q : Rec) (row : List AV) (off : Nat) (v : P), S v → off + 3 ≤ row.length → ((X row).push q).store 3 (.ptr d b off) (.agg (rowP v)) = some ((X (setCells row off (rowP v))).push q) := fun q row off v hv ho => hX.store (y := .agg (rowP v)) (rowP_cell (hcl v hv)) (rowP_fit (hcl v hv)) rfl ho
     have hs1 := fun q => hst q (flP A.reverse ++ (rowP a ++ (rowP x ++ flP (B ++ l.drop (k + 1))))) (0 + (A.length + 1) * 3) a (hA a (by simp)).1 (by simp only [List.length_append, hal, hr3]; omega)
     rw [show setCells (flP A.reverse ++ (rowP a ++ (rowP x ++ flP (B ++ l.drop (k + 1))))) (0 + (A.length + 1) * 3) (rowP a) = flP A.reverse ++ (rowP a ++ (rowP a ++ flP (B ++ l.drop (k + 1)))) by
      have := setCells_mid (P := flP A.reverse ++ rowP a) (Q := rowP x) (R := flP (B ++ l.drop (k + 1))) (ys := rowP a) rfl
      rw [List.length_append, hal, hr3, List.append_assoc, List.append_assoc] at this
      rw [show 0 + (A.length + 1) * 3 = A.length * 3 + 3 by omega]; exact this] at hs1
     have hs2 := fun q => hst q (flP A.reverse ++ (rowP a ++ (rowP a ++ flP (B ++ l.drop (k + 1))))) (0 + A.length * 3) x hxS (by simp only [List.length_append, hal, hr3]; omega)
     rw [show setCells (flP A.reverse ++ (rowP a ++ (rowP a ++ flP (B ++ l.drop (k + 1))))) (0 + A.length * 3) (rowP x) = flP (A.reverse ++ x :: (a :: B ++ l.drop (k + 1))) by
      have := setCells_mid (P := flP A.reverse) (Q := rowP a) (R := rowP a ++ flP (B ++ l.drop (k + 1))) (ys := rowP x) rfl
      rw [hal] at this
      rw [show 0 + A.length * 3 = A.length * 3 by omega, this, hrow2]] at hs2
     rcases Decidable.em (c x a < 0) with hc | hc
     ·have hd : decide (c x a < 0) = true := decide_eq_true hc
      have hih := ihA (a :: B)
      generalize flP (A.reverse ++ x :: (a :: B ++ l.drop (k + 1))) = Z3 at hs2 hih
      generalize flP A.reverse ++ (rowP a ++ (rowP a ++ flP (B ++ l.drop (k + 1)))) = Z2 at hs1 hs2
      generalize flP A.reverse ++ (rowP a ++ (rowP x ++ flP (B ++ l.drop (k + 1)))) = Z1 at hbx hg0 hg1 hs1
      simp (maxSteps := 1000000) only [go_sem, b_z_insertionSortCmpFunc_SchedulePass_l1, h0, h1, h3, h9, hp, hsub, hix0, hix1, hbx, hg0, hg1, hgc, hd, hs1, hs2, Nat.reduceEqDiff, reduceCtorEq, ↓reduceIte]
      refine hih _ _ (fun y hy => hA y (List.mem_cons_of_mem _ hy)) (by rw [List.length_cons]; omega) ?_ ?_
      ·simp only [insP] at hins; rwa [if_pos hc] at hins
      ·exact ⟨h0, h1, h2, h3, h8, rfl, rfl⟩
     ·have hd : decide (c x a < 0) = false := decide_eq_false hc
      simp only [insP] at hins
      rw [if_neg hc] at hins
      have hz : flP A.reverse ++ (rowP a ++ (rowP x ++ flP (B ++ l.drop (k + 1)))) = flP (isort c (l.take (k + 1)) ++ l.drop (k + 1)) := by
       rw [← hrow, ← hins, List.append_assoc]; rfl
      generalize flP (isort c (l.take (k + 1)) ++ l.drop (k + 1)) = Z3 at hz ih
      generalize flP A.reverse ++ (rowP a ++ (rowP x ++ flP (B ++ l.drop (k + 1)))) = Z1 at hbx hg0 hg1 hs1 hz
      subst hz
      simp (maxSteps := 1000000) only [go_sem, b_z_insertionSortCmpFunc_SchedulePass_l1, b_z_insertionSortCmpFunc_SchedulePass_r0, h0, h1, h3, h8, h9, hp, hsub, hix0, hix1, hbx, hg0, hg1, hgc, hd, hwk, Nat.reduceEqDiff, reduceCtorEq, ↓reduceIte]
      refine ih _ _ ?_
      exact ⟨by omega, h0, h1, h2, h3, rfl, rfl⟩
   have hZ : flP (isort c (l.take k) ++ l.drop k) = flP ((isort c (l.take k)).reverse.reverse ++ x :: ([] ++ l.drop (k + 1))) := by
    rw [List.reverse_reverse, List.nil_append, ← hdr]
   have hin := inner (isort c (l.take k)).reverse []
   rw [← hZ, hlen] at hin
   generalize flP (isort c (l.take k) ++ l.drop k) = Z at hin
   simp (maxSteps := 1000000) only [go_sem, b_z_insertionSortCmpFunc_SchedulePass_l0, h2, h8, lt_dec hk, Nat.reduceEqDiff, ↓reduceIte]
   refine hin _ _ hmem (by simp) hnx.symm ?_
   exact ⟨h0, h1, h2, h3, h8, rfl, rfl⟩
  ·rintro ρ m ⟨hk0, h0, h1, h2, h3, h8, rfl⟩
   rw [List.take_length, List.drop_length, List.append_nil]
   simp (maxSteps := 1000000) only [go_sem, b_z_insertionSortCmpFunc_SchedulePass_l0, h2, h8, ge_dec, Nat.reduceEqDiff, ↓reduceIte]
 have hw1 : IntKind.i64.wrap (0 + 1) = ((1 : Nat) : Int) := rfl
 cases l with
 | nil =>
  have hd : decide ((1 : Int) < 0) = false := rfl
  have hw0 : IntKind.i64.wrap (0 + 1) = 1 := rfl
  rw [callL_go (show AP 91 = some c_z_insertionSortCmpFunc_SchedulePass from rfl) rfl]
  simp (maxSteps := 1000000) only [go_sem, b_z_insertionSortCmpFunc_SchedulePass, List.length_nil, Int.reduceLT, Int.reduceLE, Int.reduceAdd, Int.reduceNeg, Int.cast_ofNat_Int, ↓reduceIte]
  rw [go_loop]
  simp (maxSteps := 1000000) only [go_sem, b_z_insertionSortCmpFunc_SchedulePass_l0, Nat.reduceEqDiff, Int.reduceLT, ↓reduceIte]
  rfl
 | cons y r =>
  have hkey := key 1
  have e1 : flP (isort c ((y :: r).take 1) ++ (y :: r).drop 1) = flP (y :: r) := rfl
  rw [e1] at hkey
  generalize hl' : y :: r = l at *
  rw [callL_go (show AP 91 = some c_z_insertionSortCmpFunc_SchedulePass from rfl) rfl]
  simp (maxSteps := 1000000) only [go_sem, b_z_insertionSortCmpFunc_SchedulePass, Int.reduceLT, Int.reduceLE, Int.reduceAdd, Int.reduceNeg, ↓reduceIte]
  refine hkey _ _ (by rw [← hl']; simp) ?_
  exact ⟨by decide, rfl, rfl, rfl, rfl, rfl, rfl⟩
end
end Go.Ax.Sx.Sc

namespace Go.Ax.Sx.Sc
open Go.Ax
set_option linter.unusedSimpArgs false
set_option linter.unusedVariables false
set_option maxRecDepth 100000
section
variable {s : Sig}
def len8 : ByteArray := ⟨#[0, 1, 2, 2, 3, 3, 3, 3, 4, 4, 4, 4, 4, 4, 4, 4, 5, 5, 5, 5, 5, 5, 5, 5, 5, 5, 5, 5, 5, 5, 5, 5, 6, 6, 6, 6, 6, 6, 6, 6, 6, 6, 6, 6, 6, 6, 6, 6, 6, 6, 6, 6, 6, 6, 6, 6, 6, 6, 6, 6, 6, 6, 6, 6, 7, 7, 7, 7, 7, 7, 7, 7, 7, 7, 7, 7, 7, 7, 7, 7, 7, 7, 7, 7, 7, 7, 7, 7, 7, 7, 7, 7, 7, 7, 7, 7, 7, 7, 7, 7, 7, 7, 7, 7, 7, 7, 7, 7, 7, 7, 7, 7, 7, 7, 7, 7, 7, 7, 7, 7, 7, 7, 7, 7, 7, 7, 7, 7, 8, 8, 8, 8, 8, 8, 8, 8, 8, 8, 8, 8, 8, 8, 8, 8, 8, 8, 8, 8, 8, 8, 8, 8, 8, 8, 8, 8, 8, 8, 8, 8, 8, 8, 8, 8, 8, 8, 8, 8, 8, 8, 8, 8, 8, 8, 8, 8, 8, 8, 8, 8, 8, 8, 8, 8, 8, 8, 8, 8, 8, 8, 8, 8, 8, 8, 8, 8, 8, 8, 8, 8, 8, 8, 8, 8, 8, 8, 8, 8, 8, 8, 8, 8, 8, 8, 8, 8, 8, 8, 8, 8, 8, 8, 8, 8, 8, 8, 8, 8, 8, 8, 8, 8, 8, 8, 8, 8, 8, 8, 8, 8, 8, 8, 8, 8, 8, 8, 8, 8, 8, 8, 8, 8, 8, 8, 8, 8]⟩
theorem len8_ix {n : Nat} (h : n ≤ 12) : ∃ b : Int, indexStrOp (.v (.string len8)) (.v (.int .u8 (n : Int))) = some (.v (.int .u8 b)) := by
 have h : n = 0 ∨ n = 1 ∨ n = 2 ∨ n = 3 ∨ n = 4 ∨ n = 5 ∨ n = 6 ∨ n = 7 ∨ n = 8 ∨ n = 9 ∨ n = 10 ∨ n = 11 ∨ n = 12 := by omega
 rcases h with rfl | rfl | rfl | rfl | rfl | rfl | rfl | rfl | rfl | rfl | rfl | rfl | rfl <;> exact ⟨_, rfl⟩
theorem bits_Len64 {n : Nat} (h : n ≤ 12) : ∃ v, callL AP (.fn 100) [.v (.int .u64 (n : Int))] s = some (I v, s) := by
 obtain ⟨b, hb⟩ := len8_ix h
 have hg : ∀ m : Int, (n : Int) < m → arithOp .geq (.v (.int .u64 (n : Int))) (.v (.int .u64 m)) = some (B false) := fun m hm => by
  simp [arithOp, isShift, intOp, show ¬ (m ≤ (n : Int)) by omega]
 have h1 := hg 4294967296 (by omega)
 have h2 := hg 65536 (by omega)
 have h3 := hg 256 (by omega)
 have hw : IntKind.u8.wrap (n : Int) = (n : Int) := by
  have h : n = 0 ∨ n = 1 ∨ n = 2 ∨ n = 3 ∨ n = 4 ∨ n = 5 ∨ n = 6 ∨ n = 7 ∨ n = 8 ∨ n = 9 ∨ n = 10 ∨ n = 11 ∨ n = 12 := by omega
  rcases h with rfl | rfl | rfl | rfl | rfl | rfl | rfl | rfl | rfl | rfl | rfl | rfl | rfl <;> rfl
 refine ⟨IntKind.i64.wrap (0 + IntKind.i64.wrap b), ?_⟩
 simp only [len8] at hb
 rw [callL_go (show AP 100 = some c_math_bits_Len64 from rfl) rfl]
 simp (maxSteps := 1000000) only [go_sem, b_math_bits_Len64, h1, h2, h3, hw, hb, Nat.reduceEqDiff, reduceCtorEq, ↓reduceIte]
theorem bits_Len {n : Nat} (h : n ≤ 12) : ∃ v, callL AP (.fn 57) [.v (.int .u64 (n : Int))] s = some (I v, s) := by
 obtain ⟨v, hv⟩ := bits_Len64 (s := s.push ⟨[], []⟩) h
 refine ⟨v, ?_⟩
 rw [callL_go (show AP 57 = some c_math_bits_Len from rfl) rfl]
 simp (maxSteps := 1000000) only [go_sem, b_math_bits_Len, hv, reduceCtorEq, ↓reduceIte]
end
section
variable {X : List AV → Sig} {d b : Nat}
theorem z_SortStable {l : List Int} {g : FuncId} {caps : List AV} {c : Int → Int → Int} {S : Int → Prop} (hX : Cell X d b) (hl : l.length ≤ 12) (hS : ∀ x ∈ l, S x)
  (hg : ∀ x y, S x → S y → ∀ row q1 q2 q3, callL AP (.fn g) (I x :: I y :: caps) ((((X row).push q1).push q2).push q3) = some (I (c x y), (((X row).push q1).push q2).push q3)) :
  callL AP (.fn 29) [.rsl d b 0 1 l.length 0, .fn g [] caps] (X (flI l)) = some (.tuple [], X (flI (isort c l))) := by
 have hi : ∀ q1 q2, callL AP (.fn 83) [.rsl d b 0 1 l.length 0, I 0, I l.length, .fn g [] caps] (((X (flI l)).push q1).push q2) = some (.tuple [], ((X (flI (isort c l))).push q1).push q2) := fun q1 q2 =>
  z_insertionSort_int (X := fun r => ((X r).push q1).push q2) ((hX.push q1).push q2) (by omega) hS (fun x y hx hy row q => hg x y hx hy row q1 q2 q)
 have h20 : decide ((20 : Int) ≤ (l.length : Int)) = false := by simp; omega
 have h21 : decide ((20 : Int) < (l.length : Int)) = false := by simp; omega
 have hst : ∀ q1, callL AP (.fn 53) [.rsl d b 0 1 l.length 0, I l.length, .fn g [] caps] ((X (flI l)).push q1) = some (.tuple [], (X (flI (isort c l))).push q1) := fun q1 => by
  have hi := hi q1
  generalize flI l = Z1 at *
  generalize flI (isort c l) = Z2 at *
  rw [callL_go (show AP 53 = some c_z_stableCmpFunc_int from rfl) rfl]
  simp (maxSteps := 1000000) only [go_sem, b_z_stableCmpFunc_int, Nat.reduceEqDiff, ↓reduceIte]
  rw [go_loop]
  simp (maxSteps := 1000000) only [go_sem, b_z_stableCmpFunc_int_l2, b_z_stableCmpFunc_int_r1, h20, hi, Nat.reduceEqDiff, reduceCtorEq, ↓reduceIte]
  rw [go_loop]
  simp (maxSteps := 1000000) only [go_sem, b_z_stableCmpFunc_int_l0, h21, Nat.reduceEqDiff, ↓reduceIte]
 generalize flI l = Z1 at *
 generalize flI (isort c l) = Z2 at *
 rw [callL_go (show AP 29 = some c_z_SortStableFunc_int from rfl) rfl]
 simp (maxSteps := 1000000) only [go_sem, b_z_SortStableFunc_int, len_rsl, hst, Nat.reduceEqDiff, reduceCtorEq, ↓reduceIte]
theorem z_SortFunc_P {l : List P} {g : FuncId} {caps : List AV} {c : P → P → Int} (hX : Cell X d b) (hl : l.length ≤ 12) (hcl : ∀ x ∈ l, x.an.ok 1) {D : P → P → Prop} (hD : l.Pairwise fun a x => D x a)
  (hg : ∀ x y, D x y → ∀ row q1 q2 q3, callL AP (.fn g) (.agg (rowP x) :: .agg (rowP y) :: caps) ((((X row).push q1).push q2).push q3) = some (I (c x y), (((X row).push q1).push q2).push q3)) :
  callL AP (.fn 32) [.rsl d b 0 3 l.length 0, .fn g [] caps] (X (flP l)) = some (.tuple [], X (flP (isort c l))) := by
 have hi : ∀ q1 q2, callL AP (.fn 91) [.rsl d b 0 3 l.length 0, I 0, I l.length, .fn g [] caps] (((X (flP l)).push q1).push q2) = some (.tuple [], ((X (flP (isort c l))).push q1).push q2) := fun q1 q2 =>
  z_insertionSort_P (X := fun r => ((X r).push q1).push q2) ((hX.push q1).push q2) (by omega) (S := fun x => x.an.ok 1) hcl (fun _ h => h) hD (fun x y hxy row q => hg x y hxy row q1 q2 q)
 have h12 : decide ((l.length : Int) ≤ 12) = true := by simp; omega
 have hw0 : IntKind.i64.wrap ((l.length : Int) - 0) = (l.length : Int) := by rw [Int.sub_zero]; exact wrap_id (by omega) (by omega)
 have hpd : ∀ (q1 : Rec) (v : Int), callL AP (.fn 56) [.rsl d b 0 3 l.length 0, I 0, I l.length, I v, .fn g [] caps] ((X (flP l)).push q1) = some (.tuple [], (X (flP (isort c l))).push q1) := fun q1 v => by
  have hi := hi q1
  generalize flP l = Z1 at *
  generalize flP (isort c l) = Z2 at *
  rw [callL_go (show AP 56 = some c_z_pdqsortCmpFunc_SchedulePass from rfl) rfl]
  simp (maxSteps := 1000000) only [go_sem, b_z_pdqsortCmpFunc_SchedulePass]
  rw [go_loop]
  simp (maxSteps := 1000000) only [go_sem, b_z_pdqsortCmpFunc_SchedulePass_l0, hw0, h12, hi, Nat.reduceEqDiff, reduceCtorEq, ↓reduceIte]
 have hbl : ∀ s, ∃ v, callL AP (.fn 57) [.v (.int .u64 (l.length : Int))] s = some (I v, s) := fun s => bits_Len hl
 obtain ⟨v, hv⟩ := hbl ((X (flP l)).push ⟨[], []⟩)
 have hw : IntKind.u64.wrap (l.length : Int) = (l.length : Int) := by
  generalize l.length = n at hl
  have h : n = 0 ∨ n = 1 ∨ n = 2 ∨ n = 3 ∨ n = 4 ∨ n = 5 ∨ n = 6 ∨ n = 7 ∨ n = 8 ∨ n = 9 ∨ n = 10 ∨ n = 11 ∨ n = 12 := by omega
  rcases h with rfl | rfl | rfl | rfl | rfl | rfl | rfl | rfl | rfl | rfl | rfl | rfl | rfl <;> rfl
 generalize flP l = Z1 at *
 generalize flP (isort c l) = Z2 at *
 rw [callL_go (show AP 32 = some c_z_SortFunc_SchedulePass from rfl) rfl]
 simp (maxSteps := 1000000) only [go_sem, b_z_SortFunc_SchedulePass, len_rsl, hw, hv, hpd, Nat.reduceEqDiff, reduceCtorEq, ↓reduceIte]
end
end Go.Ax.Sx.Sc

namespace Go.Ax.Sx.Sc
open Go.Ax
set_option linter.unusedSimpArgs false
set_option linter.unusedVariables false
set_option maxRecDepth 100000
section
variable {s : Sig} {w : W}
theorem s_compare {a b : P} (hs : Ok s) (ha : PIn w a) (hb : PIn w b) (hw : Wk w) (hne : a.req ≠ b.req) : callL AP (.fn 33) [.agg (rowP a), .agg (rowP b)] s = some (I (a.req - b.req), s) := by
 have hrl := hw.v.rl
 have := ha.r0
 have := ha.r1
 have := hb.r0
 have := hb.r1
 have hw1 : IntKind.i64.wrap (a.req - b.req) = a.req - b.req := wrap_id (by omega) (by omega)
 have hd : decide (a.req = b.req) = false := decide_eq_false hne
 rw [callL_go (show AP 33 = some c_s_compare from rfl) rfl]
 simp (maxSteps := 1000000) only [go_sem, b_s_compare, hne, hw1, ne_eq, not_false_iff, decide_true, Nat.reduceEqDiff, Nat.reduceAdd, ↓reduceIte]
theorem s_Greedy_1 {a b : Int} {d : Nat} (hs : Ok s) (hw : Wk w) (ha : 0 ≤ a ∧ a < w.rs.l.length) (hb : 0 ≤ b ∧ b < w.rs.l.length) (hbx : s.box d 0 = some (rowW w)) : callL AP (.fn 30) [I a, I b, .ptr d 0 0] s = some (I ((w.rq b).val - (w.rq a).val), s) := by
 have ra := Sl.ix (f := rowR) hw.ok.rs (W.rq_get ha.1 ha.2)
 have rb := Sl.ix (f := rowR) hw.ok.rs (W.rq_get hb.1 hb.2)
 rw [show ((a.toNat : Nat) : Int) = a by omega] at ra
 rw [show ((b.toNat : Nat) : Int) = b by omega] at rb
 have v1 := (hw.rq ha.1 ha.2).val0
 have v2 := (hw.rq ha.1 ha.2).val1
 have v3 := (hw.rq hb.1 hb.2).val0
 have v4 := (hw.rq hb.1 hb.2).val1
 have hw1 : IntKind.i64.wrap ((w.rq b).val - (w.rq a).val) = (w.rq b).val - (w.rq a).val := wrap_id (by omega) (by omega)
 have hk := fun r => box_keep hbx r
 simp only [rowR, rowW, Sl.v] at ra rb hk
 rw [callL_go (show AP 30 = some c_s_Greedy_1 from rfl) rfl]
 simp (maxSteps := 1000000) only [go_sem, b_s_Greedy_1, hk, ra, rb, hw1, Nat.reduceEqDiff, reduceCtorEq, Nat.reduceAdd, ↓reduceIte]
end
def gstep (w : W) (pl : List P) (i : Int) : List P := match plcs w pl i with
 | [] => pl
 | p :: _ => pl ++ [p]
def rngI (n : Nat) : List Int := (List.range n).map fun i : Nat => (i : Int)
theorem rngI_s {n : Nat} : rngI (n + 1) = rngI n ++ [(n : Int)] := by simp [rngI, List.range_succ]
theorem rngI_len {n : Nat} : (rngI n).length = n := by simp [rngI]
theorem rngI_mem {n : Nat} {i : Int} : i ∈ rngI n ↔ 0 ≤ i ∧ i < n := by
 unfold rngI
 simp only [List.mem_map, List.mem_range]
 constructor
 ·rintro ⟨k, hk, rfl⟩; omega
 ·rintro ⟨h0, h1⟩; exact ⟨i.toNat, by omega, by omega⟩
def ordG (w : W) : List Int := isort (fun a b => (w.rq b).val - (w.rq a).val) (rngI w.rs.l.length)
def pasG (w : W) : List P := (ordG w).foldl (gstep w) []
def grdG (w : W) : List P := isort (fun a b : P => a.req - b.req) (pasG w)
section
variable {w : W}
theorem gstep_in (hw : Wk w) {pl : List P} {i : Int} (hi : 0 ≤ i ∧ i < w.rs.l.length) (h : ∀ p ∈ pl, PIn w p) : ∀ p ∈ gstep w pl i, PIn w p := by
 intro p hp
 unfold gstep at hp
 split at hp
 ·exact h p hp
 ·rename_i q r he
  rcases List.mem_append.1 hp with hp | hp
  ·exact h p hp
  ·rw [List.mem_singleton] at hp
   subst hp
   have : p ∈ plcs w pl i := by rw [he]; simp
   exact (poss_in hw hi.1 hi.2 (List.mem_filter.1 this).1).1
theorem gstep_len {pl : List P} {i : Int} : (gstep w pl i).length ≤ pl.length + 1 := by
 unfold gstep; split <;> simp
theorem gfold_in (hw : Wk w) : ∀ {l : List Int} {pl : List P}, (∀ i ∈ l, 0 ≤ i ∧ i < w.rs.l.length) → (∀ p ∈ pl, PIn w p) → ∀ p ∈ l.foldl (gstep w) pl, PIn w p
 | [], _, _, h => h
 | i :: l, pl, hl, h => by
  rw [List.foldl_cons]
  exact gfold_in hw (fun j hj => hl j (List.mem_cons_of_mem _ hj)) (gstep_in hw (hl i (by simp)) h)
theorem gfold_len : ∀ {l : List Int} {pl : List P}, (l.foldl (gstep w) pl).length ≤ pl.length + l.length
 | [], _ => by simp
 | i :: l, pl => by
  rw [List.foldl_cons, List.length_cons]
  have h1 := gfold_len (l := l) (pl := gstep w pl i)
  have h2 := gstep_len (w := w) (pl := pl) (i := i)
  omega
theorem ordG_mem {i : Int} : i ∈ ordG w ↔ 0 ≤ i ∧ i < w.rs.l.length := by unfold ordG; rw [isort_perm.mem_iff, rngI_mem]
theorem ordG_len : (ordG w).length = w.rs.l.length := by unfold ordG; rw [isort_len, rngI_len]
theorem pasG_in (hw : Wk w) : ∀ p ∈ pasG w, PIn w p := gfold_in hw (fun i hi => ordG_mem.1 hi) (by simp)
theorem pasG_len : (pasG w).length ≤ w.rs.l.length := by have := gfold_len (w := w) (l := ordG w) (pl := []); rw [ordG_len] at this; simpa [pasG] using this
theorem gfold_req (hw : Wk w) : ∀ {l : List Int} {pl : List P}, (∀ i ∈ l, 0 ≤ i ∧ i < w.rs.l.length) → l.Nodup → (∀ p ∈ pl, p.req ∉ l) → pl.Pairwise (fun a b => a.req ≠ b.req) → (l.foldl (gstep w) pl).Pairwise fun a b => a.req ≠ b.req
 | [], _, _, _, _, h => h
 | i :: l, pl, hl, hn, hp, h => by
  rw [List.foldl_cons]
  obtain ⟨n1, n2⟩ := List.nodup_cons.1 hn
  have hreq : ∀ p ∈ plcs w pl i, p.req = i := fun p hp => (poss_in hw (hl i (by simp)).1 (hl i (by simp)).2 (List.mem_filter.1 hp).1).2.1
  refine gfold_req hw (fun j hj => hl j (List.mem_cons_of_mem _ hj)) n2 ?_ ?_
  ·intro p hm
   unfold gstep at hm
   split at hm
   ·exact fun e => hp p hm (List.mem_cons_of_mem _ e)
   ·rename_i q r he
    rcases List.mem_append.1 hm with hm | hm
    ·exact fun e => hp p hm (List.mem_cons_of_mem _ e)
    ·rw [List.mem_singleton] at hm
     subst hm
     rw [hreq p (by rw [he]; simp)]; exact n1
  ·unfold gstep
   split
   ·exact h
   ·rename_i q r he
    rw [List.pairwise_append]
    refine ⟨h, by simp, fun a ha b hb => ?_⟩
    rw [List.mem_singleton] at hb
    subst hb
    rw [hreq b (by rw [he]; simp)]
    intro e
    exact hp a ha (by rw [e]; simp)
theorem rngI_nodup {n : Nat} : (rngI n).Nodup := by
 unfold rngI
 rw [List.Nodup, List.pairwise_map]
 exact List.pairwise_lt_range.imp fun h => by omega
theorem ordG_nodup : (ordG w).Nodup := isort_perm.nodup_iff.2 rngI_nodup
theorem pasG_req (hw : Wk w) : (pasG w).Pairwise fun a b => a.req ≠ b.req := gfold_req hw (fun i hi => ordG_mem.1 hi) ordG_nodup (by simp) List.Pairwise.nil
end
end Go.Ax.Sx.Sc

namespace Go.Ax.Sx.Sc
open Go.Ax
set_option linter.unusedSimpArgs false
set_option linter.unusedVariables false
set_option maxRecDepth 100000
def GL (d es : Nat) (row : List AV) (n : Nat) (x : AV) (bs : List (List AV)) (lo : Nat) : Prop :=
 lo ≤ bs.length ∧ ((n = 0 ∧ row = [] ∧ x = .slice .nilS 0 []) ∨ (0 < n ∧ ∃ b, lo ≤ b ∧ bs[b]? = some row ∧ x = .rsl d b 0 es n 0))
theorem appm_G {s : Sig} {bs : List (List AV)} {tk : List (Option Nat)} {es n lo : Nat} {o : Own} {row r2 : List AV} {x : AV} (h : GL s.acts.length es row n x bs lo) (hl : row.length = n * es) (hm : n + 1 ≤ 4294967296) :
  ∃ x' bs' tk', appendmOp (s.push ⟨bs, tk⟩) es x (.slice o es [r2]) = some (x', s.push ⟨bs', tk'⟩) ∧ GL s.acts.length es (row ++ r2) (n + 1) x' bs' lo ∧ ∀ j, j < lo → bs'[j]? = bs[j]? := by
 obtain ⟨h0, ⟨rfl, rfl, rfl⟩ | ⟨hn, b, hlb, hb, rfl⟩⟩ := h
 ·refine ⟨_, _, _, appm_nil, ⟨by rw [List.length_append]; omega, .inr ⟨by omega, bs.length, h0, ?_, rfl⟩⟩, fun j hj => ?_⟩
  ·rw [List.getElem?_append_right (Nat.le_refl _)]; simp
  ·rw [List.getElem?_append_left (by omega)]
 ·refine ⟨_, _, _, appm_grow hb hl hn hm, ⟨by rw [List.length_append, List.length_set]; omega, .inr ⟨by omega, bs.length, h0, ?_, rfl⟩⟩, fun j hj => ?_⟩
  ·rw [List.getElem?_append_right (by rw [List.length_set]; exact Nat.le_refl _)]; simp
  ·rw [List.getElem?_append_left (by rw [List.length_set]; omega), List.getElem?_set_ne (by omega)]
theorem flP_close {l : List P} (h : ∀ p ∈ l, p.an.ok 1) : closeAll (flP l) = some (flP l) := by
 induction l with
 | nil => rfl
 | cons p r ih =>
  rw [flP_cons]
  simp only [rowP, List.cons_append, List.nil_append, closeAll_cons, close_int, Sl.close (f := rowI) (h p (by simp))]
  rw [ih fun q hq => h q (List.mem_cons_of_mem _ hq)]; rfl
theorem leave_rslP {s : Sig} {r : Rec} {b : Nat} {out : List P} (h : r.boxes[b]? = some (flP out)) (ho : ∀ p ∈ out, p.an.ok 1) : leaveVal (s.push r) (.rsl s.acts.length b 0 3 out.length 0) = some (.slice .any 3 (out.map rowP)) := by
 have hc := chunks_flat (es := 3) (xs := out.map rowP) (fun r hr => by obtain ⟨p, _, rfl⟩ := List.mem_map.1 hr; rfl)
 rw [List.length_map] at hc
 have hv : leaveVal (s.push r) (.rsl s.acts.length b 0 3 out.length 0) = leaveCell (s.push r) (.rsl s.acts.length b 0 3 out.length 0) := rfl
 rw [hv, leaveCell, if_pos (by rw [cur_push]), box_push, h]
 simp only [Option.bind_some, flP_len, Nat.zero_add, Nat.le_refl, if_true, flP_close ho, Option.map_some, List.drop_zero]
 rw [show flP out = (out.map rowP).flatten from rfl, hc]
theorem cell_box {s : Sig} (hs : Ok s) {bs : List (List AV)} {tk : List (Option Nat)} {b : Nat} (hb : b < bs.length) : Cell (fun r => s.push ⟨bs.set b r, tk⟩) s.acts.length b := by
 refine ⟨fun r => ?_, fun r r' => ?_, fun r => hs.ro, fun r => hs.push _⟩
 ·rw [box_push]; simp [hb]
 ·rw [setBox_push, List.set_set]
theorem set_same {bs : List (List AV)} {b : Nat} {r : List AV} (h : bs[b]? = some r) : bs.set b r = bs := by
 obtain ⟨hb, rfl⟩ := List.getElem?_eq_some_iff.1 h
 exact List.set_getElem_self hb
section
variable {s : Sig} {w : W}
theorem z_SortStable_nil {g : FuncId} {caps : List AV} : callL AP (.fn 29) [.slice .nilS 0 [], .fn g [] caps] s = some (.tuple [], s) := by
 have hd : decide ((1 : Int) < 0) = false := rfl
 have hw0 : IntKind.i64.wrap (0 + 1) = 1 := rfl
 have hi : ∀ s, callL AP (.fn 83) [.slice .nilS 0 [], I 0, I 0, .fn g [] caps] s = some (.tuple [], s) := fun s => by
  rw [callL_go (show AP 83 = some c_z_insertionSortCmpFunc_int from rfl) rfl]
  simp (maxSteps := 1000000) only [go_sem, b_z_insertionSortCmpFunc_int, Int.reduceLT, Int.reduceLE, Int.reduceAdd, Int.reduceNeg, ↓reduceIte]
  rw [go_loop]
  simp (maxSteps := 1000000) only [go_sem, b_z_insertionSortCmpFunc_int_l0, Nat.reduceEqDiff, Int.reduceLT, ↓reduceIte]
 have h20 : decide ((20 : Int) ≤ 0) = false := rfl
 have h21 : decide ((20 : Int) < 0) = false := rfl
 have hst : ∀ s, callL AP (.fn 53) [.slice .nilS 0 [], I 0, .fn g [] caps] s = some (.tuple [], s) := fun s => by
  rw [callL_go (show AP 53 = some c_z_stableCmpFunc_int from rfl) rfl]
  simp (maxSteps := 1000000) only [go_sem, b_z_stableCmpFunc_int, Nat.reduceEqDiff, ↓reduceIte]
  rw [go_loop]
  simp (maxSteps := 1000000) only [go_sem, b_z_stableCmpFunc_int_l2, b_z_stableCmpFunc_int_r1, hi, Nat.reduceEqDiff, reduceCtorEq, Int.reduceLE, ↓reduceIte]
  rw [go_loop]
  simp (maxSteps := 1000000) only [go_sem, b_z_stableCmpFunc_int_l0, Nat.reduceEqDiff, Int.reduceLT, ↓reduceIte]
 rw [callL_go (show AP 29 = some c_z_SortStableFunc_int from rfl) rfl]
 simp (maxSteps := 1000000) only [go_sem, b_z_SortStableFunc_int, hst, Nat.reduceEqDiff, reduceCtorEq, Int.cast_ofNat_Int, ↓reduceIte]
theorem z_SortFunc_nil {g : FuncId} {caps : List AV} : callL AP (.fn 32) [.slice .nilS 0 [], .fn g [] caps] s = some (.tuple [], s) := by
 have hd : decide ((1 : Int) < 0) = false := rfl
 have hw0 : IntKind.i64.wrap (0 + 1) = 1 := rfl
 have hw1 : IntKind.i64.wrap (0 - 0) = 0 := rfl
 have hi : ∀ s, callL AP (.fn 91) [.slice .nilS 0 [], I 0, I 0, .fn g [] caps] s = some (.tuple [], s) := fun s => by
  rw [callL_go (show AP 91 = some c_z_insertionSortCmpFunc_SchedulePass from rfl) rfl]
  simp (maxSteps := 1000000) only [go_sem, b_z_insertionSortCmpFunc_SchedulePass, Int.reduceLT, Int.reduceLE, Int.reduceAdd, Int.reduceNeg, ↓reduceIte]
  rw [go_loop]
  simp (maxSteps := 1000000) only [go_sem, b_z_insertionSortCmpFunc_SchedulePass_l0, Nat.reduceEqDiff, Int.reduceLT, ↓reduceIte]
 have h12 : decide ((0 : Int) ≤ 12) = true := rfl
 have hpd : ∀ (s : Sig) (v : Int), callL AP (.fn 56) [.slice .nilS 0 [], I 0, I 0, I v, .fn g [] caps] s = some (.tuple [], s) := fun s v => by
  rw [callL_go (show AP 56 = some c_z_pdqsortCmpFunc_SchedulePass from rfl) rfl]
  simp (maxSteps := 1000000) only [go_sem, b_z_pdqsortCmpFunc_SchedulePass]
  rw [go_loop]
  simp (maxSteps := 1000000) only [go_sem, b_z_pdqsortCmpFunc_SchedulePass_l0, hi, Nat.reduceEqDiff, reduceCtorEq, Int.reduceLT, Int.reduceLE, Int.reduceSub, Int.reduceNeg, ↓reduceIte]
 obtain ⟨v, hv⟩ := bits_Len (s := s.push ⟨[], []⟩) (n := 0) (by omega)
 have hv : callL AP (.fn 57) [.v (.int .u64 0)] (s.push ⟨[], []⟩) = some (I v, s.push ⟨[], []⟩) := hv
 have hw : IntKind.u64.wrap 0 = 0 := rfl
 rw [callL_go (show AP 32 = some c_z_SortFunc_SchedulePass from rfl) rfl]
 simp (maxSteps := 1000000) only [go_sem, b_z_SortFunc_SchedulePass, hw, hv, hpd, Nat.reduceEqDiff, reduceCtorEq, Int.cast_ofNat_Int, ↓reduceIte]
theorem plc_G {pl : List P} {i : Int} {x : AV} {bs : List (List AV)} {tk : List (Option Nat)} {lo : Nat} (hs : Ok s) (hw : Wk w) (hpl : ∀ x ∈ pl, PIn w x) (h : GL s.acts.length 3 (flP pl) pl.length x bs lo) (hn : pl.length ≤ 1000) (h0 : 0 ≤ i) (h1 : i < w.rs.l.length) :
  callL AP (.fn 31) [OW w, x, I i] (s.push ⟨bs, tk⟩) = some (accV 3 ((plcs w pl i).map rowP), s.push ⟨bs, tk⟩) := by
 obtain ⟨_, ⟨h2, h3, rfl⟩ | ⟨hn2, b, hlb, hb, rfl⟩⟩ := h
 ·obtain rfl := List.eq_nil_of_length_eq_zero h2
  exact w_placements (pl := []) (hs.push _) hw (by simp) (.inl rfl) (by simp) h0 h1
 ·exact w_placements_V (hs.push _) hw hpl (by rw [box_push]; exact hb) (by omega) h0 h1
theorem s_Greedy (hs : Ok s) (hw : w.Ok) (hf : w.Few) : callL AP (.fn 10) [w.v] s = some (.tuple [accV 3 ((if (weekE w).2.2 = 0 then grdG w else []).map rowP), I (weekE w).2.2], s) := by
 by_cases he : (weekE w).2.2 = 0
 ·have hwk : Wk w := ⟨hw, hf, weekE_ok he⟩
  have ho : ∀ r, callL AP (.fn 28) [w.v] (s.push r) = some (.tuple [OW w, I 0], s.push r) := fun r => s_open (hs.push r) hw hf he
  rw [if_pos he, he]
  have hrl := hwk.v.rl
  have hpi := pasG_in hwk
  have hpl := pasG_len (w := w)
  have hol := ordG_len (w := w)
  simp only [W.v, rowW, Sl.v] at ho
  have fin : ∀ ρ x bs tk lo, GL s.acts.length 3 (flP (pasG w)) (pasG w).length x bs lo → ρ 8 = x →
    go AP f_s_Greedy [.c b_s_Greedy_r0] ⟨ρ, s.push ⟨bs, tk⟩⟩ = some (.tuple [accV 3 ((grdG w).map rowP), I 0], s) := by
   rintro ρ x bs tk lo ⟨_, ⟨h2, h3, rfl⟩ | ⟨hn2, b, hlb, hb, rfl⟩⟩ g8
   ·have hg : grdG w = [] := by unfold grdG; rw [List.eq_nil_of_length_eq_zero h2]; rfl
    rw [hg]
    simp (maxSteps := 1000000) only [go_sem, b_s_Greedy_r0, g8, z_SortFunc_nil, Nat.reduceEqDiff, ↓reduceIte]
    rfl
   ·have hbl : b < bs.length := (List.getElem?_eq_some_iff.1 hb).1
    have hsort := z_SortFunc_P (l := pasG w) (g := 33) (caps := []) (c := fun a b : P => a.req - b.req) (cell_box hs (tk := tk) hbl) (by omega) (fun x hx => (hpi x hx).ok) (D := fun x a => PIn w x ∧ PIn w a ∧ x.req ≠ a.req)
     ((pasG_req hwk).imp_of_mem fun ha hb hab => ⟨hpi _ hb, hpi _ ha, fun e => hab e.symm⟩)
     (fun x y hxy row q1 q2 q3 => s_compare ((((hs.push _).push _).push _).push _) hxy.1 hxy.2.1 hwk hxy.2.2)
    simp only [set_same hb] at hsort
    have hgl : (grdG w).length = (pasG w).length := isort_len
    have hlv := leave_rslP (s := s) (r := ⟨bs.set b (flP (grdG w)), tk⟩) (b := b) (out := grdG w) (by simp [hbl]) (fun p hp => (hpi p ((isort_perm.mem_iff).1 hp)).ok)
    rw [hgl] at hlv
    have hne : grdG w ≠ [] := by intro e; rw [e] at hgl; simp at hgl; omega
    have hacc : AV.slice .any 3 ((grdG w).map rowP) = accV 3 ((grdG w).map rowP) := by
     cases hg : grdG w with
     | nil => exact absurd hg hne
     | cons _ _ => rfl
    rw [← hacc]
    have hsort : callL AP (.fn 32) [.rsl s.acts.length b 0 3 (pasG w).length 0, .fn 33 [] []] (s.push ⟨bs, tk⟩) = some (.tuple [], s.push ⟨bs.set b (flP (grdG w)), tk⟩) := hsort
    generalize (grdG w).map rowP = Z at *
    generalize bs.set b (flP (grdG w)) = bs2 at *
    simp (maxSteps := 1000000) only [go_sem, b_s_Greedy_r0, g8, hsort, Nat.reduceEqDiff, ↓reduceIte]
    rw [hlv]; rfl
  have k2 : ∀ (bo : Nat) (k : Nat) ρ m, k ≤ w.rs.l.length → (ρ 4 = OW w ∧ ρ 34 = .rsl s.acts.length bo 0 1 w.rs.l.length 0 ∧ ρ 35 = I w.rs.l.length ∧ ρ 36 = I k ∧ ∃ bs tk, GL s.acts.length 3 (flP (((ordG w).take k).foldl (gstep w) [])) (((ordG w).take k).foldl (gstep w) []).length (ρ 8) bs (bo + 1) ∧ bs[bo]? = some (flI (ordG w)) ∧ m = s.push ⟨bs, tk⟩) →
    go AP f_s_Greedy (.c (.loop b_s_Greedy_l0) :: k_s_Greedy_0) ⟨ρ, m⟩ = some (.tuple [accV 3 ((grdG w).map rowP), I 0], s) := by
   intro bo
   refine loop_up w.rs.l.length _ _ ?_ ?_
   ·rintro k ρ m hk ⟨g4, g34, g35, g36, bs, tk, hG, hbo, rfl⟩ ih
    obtain ⟨i, hi⟩ := get_some (l := ordG w) (k := k) (by omega)
    have him := ordG_mem.1 (List.mem_of_getElem? hi)
    have hix := ix_rsl (d := s.acts.length) (b := bo) (es := 1) hk
    have hget : (flI (ordG w))[0 + k * 1]? = some (I i) := by
     rw [show 0 + k * 1 = k by omega]; unfold flI; rw [List.getElem?_map, hi]; rfl
    have hnx : ((ordG w).take (k + 1)).foldl (gstep w) [] = gstep w (((ordG w).take k).foldl (gstep w) []) i := by
     rw [take_get hi, List.foldl_append]; rfl
    have hpin : ∀ p ∈ ((ordG w).take k).foldl (gstep w) [], PIn w p := gfold_in hwk (fun j hj => ordG_mem.1 (List.mem_of_mem_take hj)) (by simp)
    have hlen := gfold_len (w := w) (l := (ordG w).take k) (pl := [])
    rw [List.length_take] at hlen
    have hlen : (((ordG w).take k).foldl (gstep w) []).length ≤ 12 := by simp at hlen; omega
    obtain ⟨x, hx⟩ : ∃ x, x = ρ 8 := ⟨_, rfl⟩
    rw [← hx] at hG
    generalize ((ordG w).take k).foldl (gstep w) [] = pl at *
    have hplc := plc_G (s := s) (i := i) (tk := tk) hs hwk hpin hG (by omega) him.1 him.2
    have hwk1 := wrap_succ hk (show (w.rs.l.length : Int) < _ by omega)
    simp only [OW] at g4 hplc
    cases hq : plcs w pl i with
    | nil =>
     rw [hq] at hplc
     have hplc : ∀ y, y = x → callL AP (.fn 31) [.eptr (wk w.slots (w.as.v rowA) (w.rs.v rowR) (closedF w.as.l)) 0, y, I i] (s.push ⟨bs, tk⟩) = some (.slice .nilS 0 [], s.push ⟨bs, tk⟩) := by rintro y rfl; exact hplc
     simp (maxSteps := 1000000) only [go_sem, b_s_Greedy_l0, g4, g34, g35, g36, ← hx, lt_dec hk, hix, hbo, hget, hplc, hwk1, Nat.reduceEqDiff, Int.reduceLT, Int.cast_ofNat_Int, ↓reduceIte]
     refine ih _ _ ?_
     refine ⟨by simp only [OW]; exact g4, g34, g35, rfl, bs, tk, ?_, hbo, rfl⟩
     rw [hnx, show gstep w pl i = pl by unfold gstep; rw [hq]]
     show GL _ _ _ _ (ρ 8) _ _
     rw [← hx]; exact hG
    | cons p r =>
     have hp : p ∈ plcs w pl i := by rw [hq]; simp
     have hpin2 := (poss_in hwk him.1 him.2 (List.mem_filter.1 hp).1).1
     have hpc : closeAll (rowP p) = some (rowP p) := by
      simp only [rowP, closeAll_cons, closeAll_nil, close_int, Sl.close hpin2.ok]; rfl
     obtain ⟨x', bs', tk', ha, hG', hkp⟩ := appm_G (tk := tk) (o := .full) (r2 := rowP p) hG flP_len (by omega)
     rw [hq] at hplc
     obtain ⟨Z, hZ⟩ : ∃ Z, Z = (p :: r).map rowP := ⟨_, rfl⟩
     have hplc : ∀ y, y = x → callL AP (.fn 31) [.eptr (wk w.slots (w.as.v rowA) (w.rs.v rowR) (closedF w.as.l)) 0, y, I i] (s.push ⟨bs, tk⟩) = some (.slice .any 3 Z, s.push ⟨bs, tk⟩) := by rintro y rfl; rw [hZ]; exact hplc
     have hpos : decide ((0 : Int) < (Z.length : Int)) = true := by rw [hZ]; simp
     have hix0 : indexAddrOp none 3 (.slice .any 3 Z) (I 0) = some (.eptr (rowP p) 0) := by rw [hZ]; simp [indexAddrOp, idx]
     simp only [rowP, Sl.v] at hpc ha hix0
     simp (maxSteps := 1000000) only [go_sem, b_s_Greedy_l0, g4, g34, g35, g36, ← hx, lt_dec hk, hix, hbo, hget, hplc, hwk1, hpos, hix0, hpc, ha, Nat.reduceEqDiff, ↓reduceIte]
     refine ih _ _ ?_
     refine ⟨by simp only [OW]; exact g4, g34, g35, rfl, bs', tk', ?_, by rw [hkp bo (by omega)]; exact hbo, rfl⟩
     rw [hnx, show gstep w pl i = pl ++ [p] by unfold gstep; rw [hq], flP_app, List.length_append]
     exact hG'
   ·rintro ρ m ⟨g4, g34, g35, g36, bs, tk, hG, hbo, rfl⟩
    simp (maxSteps := 1000000) only [go_sem, b_s_Greedy_l0, g35, g36, ge_dec, ↓reduceIte]
    refine fin _ _ _ _ (bo + 1) ?_ rfl
    rw [← hol, List.take_length] at hG
    exact hG
  have k1 : ∀ (k : Nat) ρ m, k ≤ w.rs.l.length → (ρ 1 = .ptr s.acts.length 0 0 ∧ ρ 4 = OW w ∧ ρ 22 = I w.rs.l.length ∧ ρ 23 = I k ∧ ∃ bs tk, GL s.acts.length 1 (flI (rngI k)) k (ρ 6) bs 1 ∧ bs[0]? = some (rowW w) ∧ m = s.push ⟨bs, tk⟩) →
    go AP f_s_Greedy (.c (.loop b_s_Greedy_l1) :: k_s_Greedy_1) ⟨ρ, m⟩ = some (.tuple [accV 3 ((grdG w).map rowP), I 0], s) := by
   refine loop_up w.rs.l.length _ _ ?_ ?_
   ·rintro k ρ m hk ⟨g1, g4, g22, g23, bs, tk, hG, hb0, rfl⟩ ih
    obtain ⟨x, hx⟩ : ∃ x, x = ρ 6 := ⟨_, rfl⟩
    rw [← hx] at hG
    obtain ⟨x', bs', tk', ha, hG', hkp⟩ := appm_G (tk := tk) (o := .full) (r2 := [I (k : Int)]) hG (by rw [flI_len, rngI_len]; omega) (by omega)
    have hwk1 := wrap_succ hk (show (w.rs.l.length : Int) < _ by omega)
    simp (maxSteps := 1000000) only [go_sem, b_s_Greedy_l1, g22, g23, ← hx, lt_dec hk, hwk1, ha, Nat.reduceEqDiff, ↓reduceIte]
    refine ih _ _ ?_
    refine ⟨g1, g4, g22, rfl, bs', tk', ?_, by rw [hkp 0 (by omega)]; exact hb0, rfl⟩
    rw [rngI_s]; unfold flI at hG' ⊢; rw [List.map_append]; exact hG'
   ·rintro ρ m ⟨g1, g4, g22, g23, bs, tk, hG, hb0, rfl⟩
    obtain ⟨x, hx⟩ : ∃ x, x = ρ 6 := ⟨_, rfl⟩
    rw [← hx] at hG
    obtain ⟨hlo, ⟨h2, h3, rfl⟩ | ⟨hn2, b, hlb, hb, rfl⟩⟩ := hG
    ·have hd0 : decide ((0 : Int) < 0) = false := rfl
     have hz := z_SortStable_nil (s := s.push ⟨bs, tk⟩) (g := 30) (caps := [.ptr s.acts.length 0 0])
     simp (maxSteps := 1000000) only [go_sem, b_s_Greedy_l1, b_s_Greedy_r1, g1, g22, g23, ← hx, ge_dec, hz, Nat.reduceEqDiff, Int.cast_ofNat_Int, ↓reduceIte]
     rw [go_loop]
     simp (maxSteps := 1000000) only [go_sem, b_s_Greedy_l0, Nat.reduceEqDiff, Int.reduceLT, ↓reduceIte]
     refine fin _ _ _ _ 0 ⟨Nat.zero_le _, .inl ?_⟩ rfl
     have : pasG w = [] := List.eq_nil_of_length_eq_zero (by omega)
     rw [this]; exact ⟨rfl, rfl, rfl⟩
    ·have hbl : b < bs.length := (List.getElem?_eq_some_iff.1 hb).1
     have h0b : ∀ r q1 q2 q3, ((((s.push ⟨bs.set b r, tk⟩).push q1).push q2).push q3).box s.acts.length 0 = some (rowW w) := fun r q1 q2 q3 => by
      refine box_keep (box_keep (box_keep ?_ _) _) _
      rw [box_push]
      show (bs.set b r)[0]? = _
      rw [List.getElem?_set_ne (by omega)]; exact hb0
     have hsort := z_SortStable (l := rngI w.rs.l.length) (g := 30) (caps := [.ptr s.acts.length 0 0]) (c := fun a b => (w.rq b).val - (w.rq a).val) (S := fun i => 0 ≤ i ∧ i < w.rs.l.length) (cell_box hs (tk := tk) hbl) (by rw [rngI_len]; exact hrl) (fun x hx => rngI_mem.1 hx)
      (fun x y hx hy row q1 q2 q3 => s_Greedy_1 ((((hs.push _).push _).push _).push _) hwk hx hy (h0b row q1 q2 q3))
     simp only [set_same hb, rngI_len] at hsort
     have hsort : callL AP (.fn 29) [.rsl s.acts.length b 0 1 w.rs.l.length 0, .fn 30 [] [.ptr s.acts.length 0 0]] (s.push ⟨bs, tk⟩) = some (.tuple [], s.push ⟨bs.set b (flI (ordG w)), tk⟩) := hsort
     have hbo : (bs.set b (flI (ordG w)))[b]? = some (flI (ordG w)) := by simp [hbl]
     have hln : b + 1 ≤ (bs.set b (flI (ordG w))).length := by rw [List.length_set]; omega
     generalize bs.set b (flI (ordG w)) = bs2 at *
     simp (maxSteps := 1000000) only [go_sem, b_s_Greedy_l1, b_s_Greedy_r1, g1, g22, g23, ← hx, ge_dec, hsort, len_rsl, Nat.reduceEqDiff, ↓reduceIte]
     refine k2 b 0 _ _ (Nat.zero_le _) ?_
     exact ⟨g4, rfl, rfl, rfl, bs2, tk, ⟨hln, .inl ⟨rfl, rfl, rfl⟩⟩, hbo, rfl⟩
  rw [callL_go (show AP 10 = some c_s_Greedy from rfl) rfl]
  simp only [OW] at k1 ho ⊢
  simp (maxSteps := 1000000) only [go_sem, b_s_Greedy, ho, ne_eq, not_true, decide_false, Nat.reduceEqDiff, Nat.reduceAdd, ↓reduceIte]
  refine k1 0 _ _ (Nat.zero_le _) ?_
  exact ⟨rfl, rfl, rfl, rfl, [rowW w], [], ⟨by simp, .inl ⟨rfl, rfl, rfl⟩⟩, rfl, rfl⟩
 ·rw [if_neg he]
  have ho : ∀ r, callL AP (.fn 28) [w.v] (s.push r) = some (.tuple [NP, I (weekE w).2.2], s.push r) := fun r => s_open_bad (hs.push r) hw hf he
  simp only [W.v, rowW, Sl.v] at ho
  rw [callL_go (show AP 10 = some c_s_Greedy from rfl) rfl]
  simp (maxSteps := 1000000) only [go_sem, b_s_Greedy, ho, he, ne_eq, not_false_iff, decide_true, Nat.reduceEqDiff, Nat.reduceAdd, ↓reduceIte]
  rfl
end
end Go.Ax.Sx.Sc

namespace Go.Ax.Sx.Sc
open Go.Ax
set_option linter.unusedSimpArgs false
set_option linter.unusedVariables false
set_option maxRecDepth 100000
section
variable {s : Sig} {w : W}
end
end Go.Ax.Sx.Sc

namespace Go.Ax.Sx.Sc
open Go.Ax
set_option linter.unusedSimpArgs false
set_option linter.unusedVariables false
set_option maxRecDepth 100000
section
variable {w : W}
end
end Go.Ax.Sx.Sc

namespace Go.Ax.Sx.Sc
open Go.Ax
set_option linter.unusedSimpArgs false
set_option linter.unusedVariables false
set_option maxRecDepth 100000
section
variable {w : W}
theorem acc_sl {l : List P} : ∃ o e, accV 3 (l.map rowP) = .slice o e (l.map rowP) ∧ (l = [] ∨ e = 3) := by
 cases l with
 | nil => exact ⟨_, _, rfl, .inl rfl⟩
 | cons _ _ => exact ⟨_, _, rfl, .inr rfl⟩
section
variable {s : Sig}
end
end
end Go.Ax.Sx.Sc

namespace Go.Ax.Sx.Sc
open Go.Ax
set_option linter.unusedSimpArgs false
set_option linter.unusedVariables false
set_option maxRecDepth 100000
section
variable {w : W}
structure GOk (w : W) (pl : List P) : Prop where
 mem : ∀ p ∈ pl, 0 ≤ p.req ∧ p.req < w.rs.l.length ∧ p ∈ poss w p.req
 nc : pl.Pairwise fun a b => conf w a b = false
theorem gstep_sub {pl : List P} {i : Int} {p : P} (h : p ∈ pl) : p ∈ gstep w pl i := by
 unfold gstep; split
 ·exact h
 ·exact List.mem_append_left _ h
theorem gfold_sub : ∀ {l : List Int} {pl : List P} {p : P}, p ∈ pl → p ∈ l.foldl (gstep w) pl
 | [], _, _, h => h
 | _ :: _, _, _, h => by rw [List.foldl_cons]; exact gfold_sub (gstep_sub h)
theorem confs_sub {a b : List P} {x : P} (h : ∀ p ∈ a, p ∈ b) (hc : confs w x a = true) : confs w x b = true := by
 unfold confs at *
 rw [List.any_eq_true] at *
 obtain ⟨p, hp, hc⟩ := hc
 exact ⟨p, h p hp, hc⟩
theorem plcs_sub {a b : List P} {i : Int} (h : ∀ p ∈ a, p ∈ b) (he : plcs w a i = []) : plcs w b i = [] := by
 unfold plcs at *
 rw [List.filter_eq_nil_iff] at *
 intro x hx
 have := he x hx
 cases hc : confs w x a with
 | false => rw [hc] at this; exact absurd rfl this
 | true => rw [confs_sub h hc]; decide
theorem gfold_ok (hw : Wk w) : ∀ {l : List Int} {pl : List P}, (∀ i ∈ l, 0 ≤ i ∧ i < w.rs.l.length) → GOk w pl →
  GOk w (l.foldl (gstep w) pl) ∧ ∀ i ∈ l, (∃ p ∈ l.foldl (gstep w) pl, p.req = i) ∨ plcs w (l.foldl (gstep w) pl) i = []
 | [], _, _, h => ⟨h, by simp⟩
 | i :: l, pl, hl, h => by
  rw [List.foldl_cons]
  have hi := hl i (by simp)
  have hst : GOk w (gstep w pl i) ∧ ((∃ p ∈ gstep w pl i, p.req = i) ∨ plcs w (gstep w pl i) i = []) := by
   unfold gstep
   cases hq : plcs w pl i with
   | nil => exact ⟨h, .inr hq⟩
   | cons q r =>
    have hqm : q ∈ plcs w pl i := by rw [hq]; simp
    obtain ⟨hq1, hq2⟩ := List.mem_filter.1 hqm
    obtain ⟨hpin, hr, _⟩ := poss_in hw hi.1 hi.2 hq1
    have hn : confs w q pl = false := by simpa using hq2
    refine ⟨⟨fun p hp => ?_, ?_⟩, .inl ⟨q, by simp, hr⟩⟩
    ·rcases List.mem_append.1 hp with hp | hp
     ·exact h.mem p hp
     ·rw [List.mem_singleton] at hp; subst hp
      rw [hr]; exact ⟨hi.1, hi.2, hq1⟩
    ·show (pl ++ [q]).Pairwise _
     rw [List.pairwise_append]
     refine ⟨h.nc, by simp, fun a ha b hb => ?_⟩
     rw [List.mem_singleton] at hb; subst hb
     exact confs_none.1 hn a ha
  obtain ⟨h1, h2⟩ := hst
  obtain ⟨h3, h4⟩ := gfold_ok hw (fun j hj => hl j (List.mem_cons_of_mem _ hj)) h1
  refine ⟨h3, fun j hj => ?_⟩
  rcases List.mem_cons.1 hj with rfl | hj
  ·rcases h2 with ⟨p, hp, e⟩ | h2
   ·exact .inl ⟨p, gfold_sub hp, e⟩
   ·exact .inr (plcs_sub (fun p hp => gfold_sub hp) h2)
  ·exact h4 j hj
theorem grdG_mem {p : P} : p ∈ grdG w ↔ p ∈ pasG w := isort_perm.mem_iff
theorem grdG_vp (hw : Wk w) : VP w (grdG w) := by
 obtain ⟨h1, _⟩ := gfold_ok hw (l := ordG w) (pl := []) (fun i hi => ordG_mem.1 hi) ⟨by simp, List.Pairwise.nil⟩
 refine ⟨fun p hp => h1.mem p (grdG_mem.1 hp), ?_, ?_⟩
 ·exact isort_sorted (R := fun a b : P => a.req < b.req) (fun a b d h1 h2 => by omega) ((pasG_req hw).imp fun h => ⟨fun hc => by omega, fun hc => by omega⟩)
 ·have hb : (pasG w).Pairwise fun a b => conf w a b = false ∧ conf w b a = false := h1.nc.imp_of_mem fun ha hb h => ⟨h, by rw [conf_symm hw (pasG_in hw _ hb) (pasG_in hw _ ha)]; exact h⟩
  have hp : (grdG w).Perm (pasG w) := isort_perm
  have := (hp.pairwise_iff (R := fun a b => conf w a b = false ∧ conf w b a = false) (fun {a b} h => ⟨h.2, h.1⟩)).2 hb
  exact this.imp fun h => h.1
theorem val_c {i : Int} : ((cW w).rq i).val = (w.rq i).val := by
 unfold W.rq
 rw [cW_rs, List.getElem?_map]
 cases w.rs.l[i.toNat]? <;> rfl
theorem ordG_c : ordG (cW w) = ordG w := by
 unfold ordG
 rw [cW_len]
 simp only [val_c]
theorem cP_an {p : P} (h : p.an = cpI p.an.l) : cP p = p := by unfold cP; rw [← h]
theorem plcs_mcP (hw : Wk w) {pl : List P} {i : Int} (hi : 0 ≤ i ∧ i < w.rs.l.length) : ∀ p ∈ plcs w pl i, (0 ≤ p.req ∧ p.req < w.rs.l.length) ∧ cP p = p := fun p hp => by
 obtain ⟨hpin, hr, _, _, _, han, _⟩ := poss_in hw hi.1 hi.2 (List.mem_filter.1 hp).1
 exact ⟨⟨hpin.r0, hpin.r1⟩, cP_an han⟩
theorem map_cP {l : List P} (h : ∀ p ∈ l, cP p = p) : l.map cP = l := by
 rw [List.map_congr_left h, List.map_id']
theorem gfold_c (hw : Wk w) : ∀ {l : List Int} {pl : List P}, (∀ i ∈ l, 0 ≤ i ∧ i < w.rs.l.length) → (∀ p ∈ pl, (0 ≤ p.req ∧ p.req < w.rs.l.length) ∧ cP p = p) →
  l.foldl (gstep (cW w)) pl = l.foldl (gstep w) pl ∧ ∀ p ∈ l.foldl (gstep w) pl, (0 ≤ p.req ∧ p.req < w.rs.l.length) ∧ cP p = p
 | [], _, _, h => ⟨rfl, h⟩
 | i :: l, pl, hl, h => by
  rw [List.foldl_cons, List.foldl_cons]
  have hi := hl i (by simp)
  have hc : plcs (cW w) pl i = plcs w pl i := by
   have := plcs_c hw hi.1 hi.2 (l := pl) (fun x hx => (h x hx).1)
   rwa [map_cP fun p hp => (h p hp).2] at this
  have hg : gstep (cW w) pl i = gstep w pl i := by unfold gstep; rw [hc]
  rw [hg]
  refine gfold_c hw (fun j hj => hl j (List.mem_cons_of_mem _ hj)) fun p hp => ?_
  unfold gstep at hp
  split at hp
  ·exact h p hp
  ·rename_i q r hq
   rcases List.mem_append.1 hp with hp | hp
   ·exact h p hp
   ·rw [List.mem_singleton] at hp; subst hp
    exact plcs_mcP hw hi p (by rw [hq]; simp)
theorem grdG_c (hw : Wk w) : grdG (cW w) = grdG w := by
 unfold grdG pasG
 rw [ordG_c, (gfold_c hw (fun i hi => ordG_mem.1 hi) (by simp)).1]
end
end Go.Ax.Sx.Sc

namespace Go.Ax.Sx.Sc
open Go.Ax
set_option linter.unusedSimpArgs false
set_option linter.unusedVariables false
set_option maxRecDepth 100000
section
variable {w : W}
theorem sorted_sub : ∀ {L g : List Int}, L.Pairwise (· < ·) → g.Pairwise (· < ·) → (∀ a ∈ g, a ∈ L) → g.Sublist L
 | [], [], _, _, _ => List.Sublist.refl _
 | [], a :: g, _, _, h => absurd (h a (by simp)) (by simp)
 | x :: L, [], _, _, _ => List.nil_sublist _
 | x :: L, a :: g, hL, hg, h => by
  obtain ⟨l1, l2⟩ := List.pairwise_cons.1 hL
  obtain ⟨g1, g2⟩ := List.pairwise_cons.1 hg
  by_cases hax : a = x
  ·subst hax
   refine List.Sublist.cons_cons _ (sorted_sub l2 g2 fun b hb => ?_)
   rcases List.mem_cons.1 (h b (List.mem_cons_of_mem _ hb)) with e | hm
   ·have := g1 b hb; omega
   ·exact hm
  ·refine List.Sublist.cons _ (sorted_sub l2 hg fun b hb => ?_)
   rcases List.mem_cons.1 (h b hb) with e | hm
   ·rcases List.mem_cons.1 (h a (by simp)) with e2 | hm2
    ·exact absurd e2 hax
    ·have h1 := l1 a hm2
     rcases List.mem_cons.1 hb with e3 | hb
     ·omega
     ·have := g1 b hb; omega
   ·exact hm
theorem anE_sorted {r : R} : ∀ {l : List Int} {last : Int}, anE r last l = 0 → l.Pairwise (· < ·) ∧ ∀ a ∈ l, last < a
 | [], _, _ => by simp
 | a :: l, last, h => by
  have h0 := (anE_fold (w := ⟨0, ⟨.nilS, 0, []⟩, ⟨.nilS, 0, []⟩⟩) (st := 0) (len := 0) h).2
  have h2 : anE r a l = 0 := by
   simp only [anE] at h
   split at h
   ·split at h
    ·exact h
    ·exact absurd h (by decide)
   ·exact absurd h (by decide)
  obtain ⟨i1, i2⟩ := anE_sorted h2
  exact ⟨List.pairwise_cons.2 ⟨i2, i1⟩, h0⟩
theorem possFrom_of {i : Int} {p : P} : ∀ {n : Nat} {st t : Int}, st ≤ t → t < st + n → p ∈ possAt w i t → p ∈ possFrom w i st n
 | 0, st, t, h1, h2, _ => by omega
 | n + 1, st, t, h1, h2, hp => by
  simp only [possFrom, List.mem_append]
  by_cases e : t = st
  ·subst e; exact .inl hp
  ·exact .inr (possFrom_of (by omega) (by omega) hp)
theorem poss_of (hw : Wk w) {p : P} {l : List P} (hpo : p.an.ok 1) (hpl : (p.an.l.length : Int) < 1000000) (h : passE w p l = 0) : cP p ∈ poss w p.req := by
 obtain ⟨hpi, _, _, hlo, hhi, hn, han, hop⟩ := passE_in hw hpo hpl h
 have hq := hw.rq hpi.r0 hpi.r1
 unfold poss
 refine possFrom_of (t := p.start) hlo (by omega) ?_
 unfold possAt
 refine List.mem_map.2 ⟨p.an.l, ?_, rfl⟩
 rw [show (w.rq p.req).need.toNat = p.an.l.length by omega]
 refine grps_all (sorted_sub (hq.anord.sublist List.filter_sublist) (anE_sorted han).1 fun a ha => ?_)
 refine List.mem_filter.2 ⟨?_, ?_⟩
 ·have := (anE_fold (w := w) (st := 0) (len := 0) han).1 a ha
  obtain ⟨b, hb, e⟩ := List.any_eq_true.1 this
  rw [decide_eq_true_eq] at e
  rw [e]; exact hb
 ·have := List.any_eq_false.1 hop a ha
  simpa using this
theorem VP.of_chk (hw : Wk w) {l : List P} (hl : PlOk l) (h : (chkE w l).2 = 0) : VP w (l.map cP) := by
 have hin := chk_in hw hl h
 have hf : ∀ (j : Nat) x, l[j]? = some x → _ := fun j x hj => passE_in hw (hl.ok x (List.mem_of_getElem? hj)).1 (by have := (hl.ok x (List.mem_of_getElem? hj)).2; omega) (hin j x hj)
 have key : ∀ n, n ≤ l.length → (l.take n).Pairwise (fun a b => a.req < b.req ∧ conf w a b = false) ∧ ∀ p ∈ l.take n, p.req ≤ lastR (l.take n) := by
  intro n
  induction n with
  | zero => intro _; simp
  | succ n ih =>
   intro hn
   obtain ⟨x, hx⟩ := get_some (l := l) (k := n) (by omega)
   obtain ⟨i1, i2⟩ := ih (by omega)
   obtain ⟨_, f1, f2, _⟩ := hf n x hx
   rw [lastR_take hx, take_get hx]
   refine ⟨?_, fun p hp => ?_⟩
   ·rw [List.pairwise_append]
    refine ⟨i1, by simp, fun a ha b hb => ?_⟩
    rw [List.mem_singleton] at hb; subst hb
    exact ⟨by have := i2 a ha; omega, confs_none.1 f2 a ha⟩
   ·rcases List.mem_append.1 hp with hp | hp
    ·have := i2 p hp; omega
    ·rw [List.mem_singleton] at hp; rw [hp]; exact Int.le_refl _
 obtain ⟨k1, _⟩ := key l.length (Nat.le_refl _)
 rw [List.take_length] at k1
 refine ⟨fun p hp => ?_, ?_, ?_⟩
 ·obtain ⟨q, hq, rfl⟩ := List.mem_map.1 hp
  obtain ⟨j, hj⟩ := List.getElem?_of_mem hq
  have hpi := (hf j q hj).1
  exact ⟨hpi.r0, hpi.r1, poss_of (p := q) hw (hl.ok q hq).1 (by have := (hl.ok q hq).2; omega) (hin j q hj)⟩
 ·rw [List.pairwise_map]; exact k1.imp fun h => h.1
 ·rw [List.pairwise_map]; exact k1.imp fun h => h.2
theorem VP.cP_id (hw : Wk w) {l : List P} (h : VP w l) : l.map cP = l := map_cP fun p hp => by
 obtain ⟨h0, h1, h2⟩ := h.mem p hp
 exact cP_an (poss_in hw h0 h1 h2).2.2.2.2.2.1
end
end Go.Ax.Sx.Sc

namespace Go.Ax.Sx.Sc
open Go.Ax
set_option linter.unusedSimpArgs false
set_option linter.unusedVariables false
set_option maxRecDepth 100000
section
variable {s : Sig} {w : W}
theorem l_ScheduleNoBetter {l : List P} {o : Own} {e : Nat} (hs : Ok s) (hw : w.Ok) (hb : w.Big) (hl : PBig l) (he : l = [] ∨ e = 3) : callL AP (.fn 3) [w.v, .slice o e (l.map rowP)] s = some (B true, s) := by
 have haw : ∀ r, callL AP (.fn 4) [] (s.push r) = some (B true, s.push r) := fun r => l_awake (hs.push r)
 have hli : ∀ r, callL AP (.fn 5) [w.v] (s.push r) = some (B (lightB w), s.push r) := fun r => l_Light (hs.push r) hw hb
 have hsh : ∀ m : Sig, callL AP (.fn 6) [.slice o e (l.map rowP)] m = some (B (shortB l), m) := fun m => l_short hl he
 simp only [W.v, rowW, Sl.v] at hli
 cases hf : lightB w with
 | false =>
  rw [hf] at hli
  rw [callL_go (show AP 3 = some c_l_ScheduleNoBetter from rfl) rfl]
  simp (maxSteps := 1000000) only [go_sem, b_l_ScheduleNoBetter, haw, hli, Nat.reduceEqDiff, Nat.reduceAdd, ↓reduceIte]
 | true =>
 rw [hf] at hli
 cases hf2 : shortB l with
 | false =>
  rw [hf2] at hsh
  rw [callL_go (show AP 3 = some c_l_ScheduleNoBetter from rfl) rfl]
  simp (maxSteps := 1000000) only [go_sem, b_l_ScheduleNoBetter, haw, hli, hsh, Nat.reduceEqDiff, Nat.reduceAdd, ↓reduceIte]
 | true =>
  rw [hf2] at hsh
  have hF : w.Few := fewB_iff (by unfold lightB at hf; rw [Bool.and_eq_true] at hf; exact hf.1)
  have hse : ∀ m : Sig, Ok m → callL AP (.fn 7) [w.v] m = some (I (smallE w), m) := fun m hm => r_SmallErr hm hw hF
  have hse := fun r => hse (s.push r) (hs.push r)
  simp only [W.v, rowW, Sl.v] at hse
  by_cases h0 : smallE w = 0
  ·rw [h0] at hse
   have hP := shortB_ok hl hf2
   have hwe := smallE_ok h0
   have hwk : Wk w := ⟨hw, hF, weekE_ok hwe⟩
   obtain ⟨hb1, hb2⟩ := best_c hwk hwe
   obtain ⟨bv, bval, bmax⟩ := best_is hwk
   have gv := grdG_vp hwk
   obtain ⟨bck, bpl⟩ := VP.chk hwk bv
   obtain ⟨gck, gpl⟩ := VP.chk hwk gv
   have hcp : ∀ r, callL AP (.fn 9) [w.v] (s.push r) = some ((cW w).v, s.push r) := fun r => r_CopyWeek (hs.push r) hw hF
   obtain ⟨ob, eb, hacb, heb⟩ := acc_sl (l := (bestW w).1)
   obtain ⟨og, eg, hacg, heg⟩ := acc_sl (l := grdG w)
   have hsb : ∀ r, callL AP (.fn 8) [(cW w).v] (s.push r) = some (.tuple [.slice ob eb ((bestW w).1.map rowP), I (bestW w).2.1, I 0], s.push r) := fun r => by
    rw [s_Best (hs.push r) cW_Ok (cW_Few hF), smallE_c, if_pos h0, if_pos h0, hb1, hb2, h0, hacb]
   have hsg : ∀ r, callL AP (.fn 10) [(cW w).v] (s.push r) = some (.tuple [.slice og eg ((grdG w).map rowP), I 0], s.push r) := fun r => by
    rw [s_Greedy (hs.push r) cW_Ok (cW_Few hF), weekE_c, if_pos hwe, grdG_c hwk, hwe, hacg]
   have hpb : planE w (bestW w).1 = (0, 0) := by unfold planE; rw [if_pos hwe, bck]
   have hpg : planE w (grdG w) = (0, 0) := by unfold planE; rw [if_pos hwe, gck]
   have hpe : ∀ m : Sig, Ok m → callL AP (.fn 11) [w.v, .slice ob eb ((bestW w).1.map rowP)] m = some (I 0, m) := fun m hm => by
    rw [r_PlanErr hm hw hF bpl heb, hpb]
   have hpe := fun r => hpe (s.push r) (hs.push r)
   obtain ⟨x1, g1, tk1, hc1, hA1, _⟩ := r_Copy (o := ob) (Q := s) (tk := []) hs bpl heb
   obtain ⟨x2, g2, tk2, hc2, hA2, _⟩ := r_Copy (o := og) (Q := s) (tk := tk1) hs gpl heg
   obtain ⟨x3, g3, tk3, hc3, hA3, _⟩ := r_Copy (o := o) (Q := s) (tk := tk2) hs hP he
   obtain ⟨x4, g4, tk4, hc4, hA4, _⟩ := r_Copy (o := o) (Q := s) (tk := tk3) hs hP he
   obtain ⟨o1, e1, rfl, he1⟩ := acc_val hA1
   obtain ⟨o2, e2, rfl, he2⟩ := acc_val hA2
   obtain ⟨o3, e3, rfl, he3⟩ := acc_val hA3
   obtain ⟨o4, e4, rfl, he4⟩ := acc_val hA4
   have hm : ∀ {k : List P} {e : Nat}, ((k.map cP).map rowP = [] ∨ e = 3) → (k.map cP = [] ∨ e = 3) := fun h => by rcases h with h | h; exact .inl (by simpa using h); exact .inr h
   have hv1 : ∀ r, callL AP (.fn 12) [(cW w).v, .slice o1 e1 (((bestW w).1.map cP).map rowP)] (s.push r) = some (.tuple [I (bestW w).2.1, I 0], s.push r) := fun r => by
    rw [s_ValueOf (hs.push r) cW_Ok (cW_Few hF) (cP_ok bpl) (hm he1), planE_c, hpb, if_pos rfl, valP_c fun x hx => ⟨(bv.pin hwk x hx).r0, (bv.pin hwk x hx).r1⟩, bval]
   have hv2 : ∀ r, callL AP (.fn 12) [(cW w).v, .slice o2 e2 (((grdG w).map cP).map rowP)] (s.push r) = some (.tuple [I (valP w (grdG w)), I 0], s.push r) := fun r => by
    rw [s_ValueOf (hs.push r) cW_Ok (cW_Few hF) (cP_ok gpl) (hm he2), planE_c, hpg, if_pos rfl, valP_c fun x hx => ⟨(gv.pin hwk x hx).r0, (gv.pin hwk x hx).r1⟩]
   have hck : ∀ r, callL AP (.fn 14) [(cW w).v, .slice o3 e3 ((l.map cP).map rowP)] (s.push r) = some (.tuple [I (planE w l).1, I (planE w l).2], s.push r) := fun r => by
    rw [s_CheckPlan (hs.push r) cW_Ok (cW_Few hF) (cP_ok hP) (hm he3), planE_c]
   have hgd : decide ((bestW w).2.1 < valP w (grdG w)) = false := decide_eq_false (by have := (bmax _ gv).1; omega)
   simp only [W.v, rowW, Sl.v] at hcp hsb hsg hpe hv1 hv2 hck
   by_cases h1 : (planE w l).2 = 0
   ·have hck0 : (chkE w l).2 = 0 := by unfold planE at h1; rwa [if_pos hwe] at h1
    have lv := VP.of_chk hwk hP hck0
    have lin := chk_pin hwk hP hck0
    have hvl : valP w (l.map cP) = valP w l := valP_cP
    obtain ⟨m1, m2⟩ := bmax _ lv
    rw [hvl] at m1 m2
    have hv3 : ∀ r, callL AP (.fn 12) [(cW w).v, .slice o4 e4 ((l.map cP).map rowP)] (s.push r) = some (.tuple [I (valP w l), I 0], s.push r) := fun r => by
     rw [s_ValueOf (hs.push r) cW_Ok (cW_Few hF) (cP_ok hP) (hm he4), planE_c, h1, if_pos rfl, valP_c fun x hx => ⟨(lin x hx).r0, (lin x hx).r1⟩]
    rw [h1] at hck
    have hbe : ∀ m : Sig, Ok m → callL AP (.fn 15) [.slice o e (l.map rowP), .slice ob eb ((bestW w).1.map rowP)] m = some (B (befP l (bestW w).1), m) := fun m hm => r_Before hm he heb
     ⟨by have := hP.len; omega, fun p hp => ⟨(hP.ok p hp).1, by have := (hP.ok p hp).2; omega⟩⟩ ⟨by have := bpl.len; omega, fun p hp => ⟨(bpl.ok p hp).1, by have := (bpl.ok p hp).2; omega⟩⟩
    have hbe := fun r => hbe (s.push r) (hs.push r)
    have hbf : valP w l = (bestW w).2.1 → befP l (bestW w).1 = false := fun h => by
     have := m2 h
     rw [← bv.cP_id hwk, befP_cP] at this; exact this
    simp only [W.v, rowW, Sl.v] at hv3
    generalize ((bestW w).1.map cP).map rowP = Z1 at *
    generalize ((grdG w).map cP).map rowP = Z2 at *
    generalize (l.map cP).map rowP = Z3 at *
    generalize hZ4 : (bestW w).1.map rowP = Z4 at *
    generalize hZ5 : (grdG w).map rowP = Z5 at *
    generalize hZ6 : l.map rowP = Z6 at *
    by_cases hlt : valP w l < (bestW w).2.1
    ·have hd1 : decide (valP w l < (bestW w).2.1) = true := decide_eq_true hlt
     rw [callL_go (show AP 3 = some c_l_ScheduleNoBetter from rfl) rfl]
     simp (maxSteps := 1000000) only [go_sem, b_l_ScheduleNoBetter, haw, hli, hsh, hse, hcp, hsb, hsg, hpe, hc1, hc2, hc3, hc4, hv1, hv2, hck, hv3, hgd, hd1, onBool_undef, ne_eq, not_true, decide_true, decide_false, Bool.not_true, Nat.reduceEqDiff, Nat.reduceAdd, ↓reduceIte]
    ·have hd1 : decide (valP w l < (bestW w).2.1) = false := decide_eq_false hlt
     have heq : valP w l = (bestW w).2.1 := by omega
     have hd2 : decide (valP w l = (bestW w).2.1) = true := decide_eq_true heq
     rw [hbf heq] at hbe
     rw [callL_go (show AP 3 = some c_l_ScheduleNoBetter from rfl) rfl]
     simp (maxSteps := 1000000) only [go_sem, b_l_ScheduleNoBetter, haw, hli, hsh, hse, hcp, hsb, hsg, hpe, hc1, hc2, hc3, hc4, hv1, hv2, hck, hv3, hgd, hd1, hd2, hbe, ne_eq, not_true, decide_true, decide_false, Bool.not_true, Nat.reduceEqDiff, Nat.reduceAdd, ↓reduceIte]
   ·generalize ((bestW w).1.map cP).map rowP = Z1 at *
    generalize ((grdG w).map cP).map rowP = Z2 at *
    generalize (l.map cP).map rowP = Z3 at *
    generalize hZ4 : (bestW w).1.map rowP = Z4 at *
    generalize hZ5 : (grdG w).map rowP = Z5 at *
    generalize hZ6 : l.map rowP = Z6 at *
    rw [callL_go (show AP 3 = some c_l_ScheduleNoBetter from rfl) rfl]
    simp (maxSteps := 1000000) only [go_sem, b_l_ScheduleNoBetter, haw, hli, hsh, hse, hcp, hsb, hsg, hpe, hc1, hc2, hc3, hv1, hv2, hck, hgd, h1, ne_eq, not_true, not_false_iff, decide_true, decide_false, Bool.not_true, Nat.reduceEqDiff, Nat.reduceAdd, ↓reduceIte]
  ·rw [callL_go (show AP 3 = some c_l_ScheduleNoBetter from rfl) rfl]
   simp (maxSteps := 1000000) only [go_sem, b_l_ScheduleNoBetter, haw, hli, hsh, hse, h0, ne_eq, not_false_iff, decide_true, Nat.reduceEqDiff, Nat.reduceAdd, ↓reduceIte]
end
end Go.Ax.Sx.Sc

namespace Go.Ax.Sx.Sc
open Go.Ax
section
variable {P : Program} {d : Nat}
def Flds (P : Program) (t : TypeId) (ts : List TypeId) : Prop := ∃ fs : Array Field, P.underlying t = some (.struct fs) ∧ fs.toList.map (·.type) = ts
theorem shp_flds {t : TypeId} {ts : List TypeId} {avs : List AV} (hf : Flds P t ts) (h : Shp P (d + 1) t avs) :
  ∃ ps : List (List AV), avs = ps.flatten ∧ ps.length = ts.length ∧ ∀ (i : Nat) (u : TypeId) (p : List AV), ts[i]? = some u → ps[i]? = some p → Shp P d u p := by
 obtain ⟨fs, hu, rfl⟩ := hf
 obtain ⟨ps, h1, h2, h3⟩ := shp_struct hu h
 refine ⟨ps, h1, by simp [h2], fun i u p hi hp => ?_⟩
 rw [List.getElem?_map] at hi
 obtain ⟨f, hf, rfl⟩ := Option.map_eq_some_iff.1 hi
 exact h3 i f p (by simpa using hf) hp
structure WkT (P : Program) (ti ts tg tgs tis ta tas tr trs tw : TypeId) : Prop where
 i : P.underlying ti = some (.int .i64)
 s : P.underlying ts = some .string
 g : Flds P tg [ti, ti]
 gs : P.underlying tgs = some (.slice tg)
 gc : P.cellsOf tg = 2
 is : P.underlying tis = some (.slice ti)
 ic : P.cellsOf ti = 1
 a : Flds P ta [ts, ti, tgs]
 sa : P.underlying tas = some (.slice ta)
 ac : P.cellsOf ta = 3
 r : Flds P tr [ts, tg, ti, ti, tis, ti]
 sr : P.underlying trs = some (.slice tr)
 rc : P.cellsOf tr = 7
 w : Flds P tw [ti, tas, trs]
variable {ti ts tg tgs tis ta tas tr trs tw : TypeId}
theorem maxLen_lt {n : Nat} (h : n ≤ maxLen) : (n : Int) < 9223372036854775808 := by unfold maxLen at h; omega
theorem shp_rng (T : WkT P ti ts tg tgs tis ta tas tr trs tw) {avs : List AV} (h : Shp P (d + 2) tg avs) : ∃ x : Int × Int, avs = rowG x ∧ True := by
 obtain ⟨ps, rfl, hl, hp⟩ := shp_flds T.g h
 match ps, hl, hp with
 | [p0, p1], _, hp =>
  obtain ⟨a, rfl, _⟩ := shp_int T.i (hp 0 _ p0 rfl rfl)
  obtain ⟨b, rfl, _⟩ := shp_int T.i (hp 1 _ p1 rfl rfl)
  exact ⟨(a, b), rfl, trivial⟩
theorem own_ok {o : Own} {rows : List (List AV)} (h : o = .any ∨ (o = .nilS ∧ rows = [])) : o = .any ∨ (o = .nilS ∧ rows = []) := h
theorem shp_ints (T : WkT P ti ts tg tgs tis ta tas tr trs tw) {avs : List AV} (h : Shp P (d + 2) tis avs) : ∃ x : Sl Int, avs = [x.v rowI] ∧ x.ok 1 ∧ (x.l.length : Int) < 9223372036854775808 := by
 obtain ⟨o, rows, rfl, ho, hlen, hrows⟩ := shp_slice T.is h
 obtain ⟨l, rfl, _⟩ := rows_eq (f := rowI) (g := fun _ => True) (fun r hr => by
  obtain ⟨x, hx, _⟩ := shp_int T.i (hrows r hr)
  exact ⟨x, hx, trivial⟩)
 rw [List.length_map] at hlen
 rw [T.ic]
 refine ⟨⟨o, 1, l⟩, rfl, ?_, maxLen_lt hlen⟩
 rcases ho with rfl | ⟨rfl, h⟩
 ·exact ⟨.inr rfl, .inl rfl⟩
 ·exact ⟨.inr rfl, .inr (.inr ⟨rfl, List.map_eq_nil_iff.1 (by assumption)⟩)⟩
theorem shp_rngs (T : WkT P ti ts tg tgs tis ta tas tr trs tw) {avs : List AV} (h : Shp P (d + 3) tgs avs) : ∃ x : Sl (Int × Int), avs = [x.v rowG] ∧ x.ok 2 ∧ (x.l.length : Int) < 9223372036854775808 := by
 obtain ⟨o, rows, rfl, ho, hlen, hrows⟩ := shp_slice T.gs h
 obtain ⟨l, rfl, _⟩ := rows_eq (f := rowG) (g := fun _ => True) (fun r hr => shp_rng T (hrows r hr))
 rw [List.length_map] at hlen
 rw [T.gc]
 refine ⟨⟨o, 2, l⟩, rfl, ?_, maxLen_lt hlen⟩
 rcases ho with rfl | ⟨rfl, h⟩
 ·exact ⟨.inr rfl, .inl rfl⟩
 ·exact ⟨.inr rfl, .inr (.inr ⟨rfl, List.map_eq_nil_iff.1 (by assumption)⟩)⟩
theorem shp_ant (T : WkT P ti ts tg tgs tis ta tas tr trs tw) {avs : List AV} (h : Shp P (d + 4) ta avs) :
  ∃ a : A, avs = rowA a ∧ (a.cl.ok 2 ∧ (a.name.size : Int) < 9223372036854775808 ∧ (a.cl.l.length : Int) < 9223372036854775808) := by
 obtain ⟨ps, rfl, hl, hp⟩ := shp_flds T.a h
 match ps, hl, hp with
 | [p0, p1, p2], _, hp =>
  obtain ⟨n, rfl, hn⟩ := shp_str T.s (hp 0 _ p0 rfl rfl)
  obtain ⟨b, rfl, _⟩ := shp_int T.i (hp 1 _ p1 rfl rfl)
  obtain ⟨c, rfl, hc, hcl⟩ := shp_rngs T (hp 2 _ p2 rfl rfl)
  exact ⟨⟨n, b, c⟩, rfl, hc, maxLen_lt hn, hcl⟩
theorem shp_req (T : WkT P ti ts tg tgs tis ta tas tr trs tw) {avs : List AV} (h : Shp P (d + 4) tr avs) :
  ∃ r : R, avs = rowR r ∧ (r.an.ok 1 ∧ (r.mis.size : Int) < 9223372036854775808 ∧ (r.an.l.length : Int) < 9223372036854775808) := by
 obtain ⟨ps, rfl, hl, hp⟩ := shp_flds T.r h
 match ps, hl, hp with
 | [p0, p1, p2, p3, p4, p5], _, hp =>
  obtain ⟨n, rfl, hn⟩ := shp_str T.s (hp 0 _ p0 rfl rfl)
  obtain ⟨g, rfl, _⟩ := shp_rng T (hp 1 _ p1 rfl rfl)
  obtain ⟨b, rfl, _⟩ := shp_int T.i (hp 2 _ p2 rfl rfl)
  obtain ⟨c, rfl, _⟩ := shp_int T.i (hp 3 _ p3 rfl rfl)
  obtain ⟨x, rfl, hx, hxl⟩ := shp_ints T (hp 4 _ p4 rfl rfl)
  obtain ⟨e, rfl, _⟩ := shp_int T.i (hp 5 _ p5 rfl rfl)
  exact ⟨⟨n, g.1, g.2, b, c, x, e⟩, rfl, hx, maxLen_lt hn, hxl⟩
theorem shp_week (T : WkT P ti ts tg tgs tis ta tas tr trs tw) {avs : List AV} (h : Shp P (d + 6) tw avs) : ∃ w : W, AV.agg avs = w.v ∧ w.Ok ∧ w.Big := by
 obtain ⟨ps, rfl, hl, hp⟩ := shp_flds T.w h
 match ps, hl, hp with
 | [p0, p1, p2], _, hp =>
  obtain ⟨n, rfl, _⟩ := shp_int T.i (hp 0 _ p0 rfl rfl)
  obtain ⟨o1, r1, rfl, ho1, hl1, hr1⟩ := shp_slice T.sa (hp 1 _ p1 rfl rfl)
  obtain ⟨o2, r2, rfl, ho2, hl2, hr2⟩ := shp_slice T.sr (hp 2 _ p2 rfl rfl)
  obtain ⟨as, rfl, has⟩ := rows_eq (fun r hr => shp_ant T (hr1 r hr))
  obtain ⟨rs, rfl, hrs⟩ := rows_eq (fun r hr => shp_req T (hr2 r hr))
  rw [List.length_map] at hl1 hl2
  rw [T.ac, T.rc]
  refine ⟨⟨n, ⟨o1, 3, as⟩, ⟨o2, 7, rs⟩⟩, rfl, ⟨?_, fun a ha => (has a ha).1, ?_, fun r hr => (hrs r hr).1⟩, ⟨maxLen_lt hl1, maxLen_lt hl2, fun a ha => (has a ha).2.1, fun a ha => (has a ha).2.2, fun r hr => (hrs r hr).2.1, fun r hr => (hrs r hr).2.2⟩⟩
  ·rcases ho1 with rfl | ⟨rfl, h⟩
   ·exact ⟨.inr rfl, .inl rfl⟩
   ·exact ⟨.inr rfl, .inr (.inr ⟨rfl, List.map_eq_nil_iff.1 (by assumption)⟩)⟩
  ·rcases ho2 with rfl | ⟨rfl, h⟩
   ·exact ⟨.inr rfl, .inl rfl⟩
   ·exact ⟨.inr rfl, .inr (.inr ⟨rfl, List.map_eq_nil_iff.1 (by assumption)⟩)⟩
end
end Go.Ax.Sx.Sc

/-
  What a plan is among the values that an argument may read as.
-/
namespace Go.Ax.Sx.Sc
open Go.Ax
section
variable {P : Program} {d : Nat} {ti tis tp tps : TypeId}
structure PlT (P : Program) (ti tis tp tps : TypeId) : Prop where
 i : P.underlying ti = some (.int .i64)
 ic : P.cellsOf ti = 1
 is : P.underlying tis = some (.slice ti)
 p : Flds P tp [ti, ti, tis]
 ps : P.underlying tps = some (.slice tp)
 pc : P.cellsOf tp = 3
theorem shp_ints2 (T : PlT P ti tis tp tps) {avs : List AV} (h : Shp P (d + 2) tis avs) : ∃ x : Sl Int, avs = [x.v rowI] ∧ x.ok 1 ∧ (x.l.length : Int) < 9223372036854775808 := by
 obtain ⟨o, rows, rfl, ho, hlen, hrows⟩ := shp_slice T.is h
 obtain ⟨l, rfl, _⟩ := rows_eq (f := rowI) (g := fun _ => True) (fun r hr => by
  obtain ⟨x, hx, _⟩ := shp_int T.i (hrows r hr)
  exact ⟨x, hx, trivial⟩)
 rw [List.length_map] at hlen
 rw [T.ic]
 refine ⟨⟨o, 1, l⟩, rfl, ?_, maxLen_lt hlen⟩
 rcases ho with rfl | ⟨rfl, h⟩
 ·exact ⟨.inr rfl, .inl rfl⟩
 ·exact ⟨.inr rfl, .inr (.inr ⟨rfl, List.map_eq_nil_iff.1 (by assumption)⟩)⟩
theorem shp_pass (T : PlT P ti tis tp tps) {avs : List AV} (h : Shp P (d + 4) tp avs) : ∃ p : Sc.P, avs = rowP p ∧ (p.an.ok 1 ∧ (p.an.l.length : Int) < 9223372036854775808) := by
 obtain ⟨ps, rfl, hl, hp⟩ := shp_flds T.p h
 match ps, hl, hp with
 | [p0, p1, p2], _, hp =>
  obtain ⟨a, rfl, _⟩ := shp_int T.i (hp 0 _ p0 rfl rfl)
  obtain ⟨b, rfl, _⟩ := shp_int T.i (hp 1 _ p1 rfl rfl)
  obtain ⟨x, rfl, hx, hxl⟩ := shp_ints2 T (hp 2 _ p2 rfl rfl)
  exact ⟨⟨a, b, x⟩, rfl, hx, hxl⟩
theorem shp_plan (T : PlT P ti tis tp tps) {avs : List AV} (h : Shp P (d + 5) tps avs) : ∃ (l : List Sc.P) (o : Own) (e : Nat), avs = [.slice o e (l.map rowP)] ∧ e = 3 ∧ PBig l := by
 obtain ⟨o, rows, rfl, ho, hlen, hrows⟩ := shp_slice T.ps h
 obtain ⟨l, rfl, hr⟩ := rows_eq (fun r hr => shp_pass T (hrows r hr))
 rw [List.length_map] at hlen
 rw [T.pc]
 exact ⟨l, o, 3, rfl, rfl, ⟨maxLen_lt hlen, fun p hp => (hr p hp).1, fun p hp => (hr p hp).2⟩⟩
end
end Go.Ax.Sx.Sc
