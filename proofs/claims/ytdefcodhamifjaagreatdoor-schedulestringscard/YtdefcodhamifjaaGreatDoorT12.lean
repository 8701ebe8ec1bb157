/- A part of the proof. -/
import Derived.Test.YtdefcodhamifjaaGreatDoorT11
import Derived.KernelRfl
namespace Go.Ax.Sx.Sc
open Go.Ax
set_option linter.unusedSimpArgs false
set_option linter.unusedVariables false
section
variable {s : Sig} {w : W}
theorem own_push {Q : Sig} {R r0 : Rec} {g es : Nat} {xs : List (List AV)} (hQ : Ok Q) (h : r0.toks[g]? = some (some xs.length)) :
  ownResult ((Q.push R).push r0) (.slice (.tok (Q.acts.length + 1) g) es xs) = some (.slice (.tok Q.acts.length R.toks.length) es xs, Q.push ⟨R.boxes, R.toks ++ [some xs.length]⟩) := by
 have h1 : ((Q.push R).push r0).cur = Q.acts.length + 1 := by rw [cur_push]; simp [Sig.push]
 have h2 : ((Q.push R).push r0).ro < Q.acts.length + 1 := by have := hQ.ro; show Q.ro < _; omega
 have h3 : ((Q.push R).push r0).tok (Q.acts.length + 1) g = some xs.length := by
  have := tok_push (Q.push R) r0 g
  rw [show (Q.push R).acts.length = Q.acts.length + 1 by simp [Sig.push]] at this
  rw [this, h]; rfl
 have h4 : ((Q.push R).push r0).ntok Q.acts.length = R.toks.length := by
  simp [Sig.ntok, Sig.push]
 simp only [ownResult]
 rw [if_pos ⟨h1.symm, by omega, h2, h3⟩]
 simp only [Nat.add_sub_cancel, h4, pop_push, addTok_push]
theorem z_Clone_P {Q : Sig} {l : List P} {o : Own} {e : Nat} {R : Rec} (hQ : Ok Q) (hn : l ≠ []) (ho : o.isNil = false) (hl : l.length ≤ 4294967296) (he : e = 3) :
  callL AP (.fn 91) [.slice o e (l.map rowP)] (Q.push R) = some (.slice (.tok Q.acts.length R.toks.length) 3 (l.map rowP), Q.push ⟨R.boxes, R.toks ++ [some l.length]⟩) := by
 subst he
 have hlen : (Q.push R).acts.length = Q.acts.length + 1 := by simp [Sig.push]
 have ha : appendOp ((Q.push R).push ⟨[], []⟩) 3 (.slice .full 3 []) (.slice o 3 (l.map rowP)) = some (.slice (.tok (Q.acts.length + 1) 0) 3 (l.map rowP), (Q.push R).push ⟨[], [some l.length]⟩) := by
  have h3 := ntok_push (Q.push R) ⟨[], []⟩
  have h4 := addTok_push (Q.push R) ⟨[], []⟩ l.length
  rw [hlen] at h3 h4
  have h5 : ((Q.push R).push ⟨[], []⟩).cur = Q.acts.length + 1 := by rw [cur_push, hlen]
  simp [appendOp, Own.isNil, most, hl, hn, h3, h4, h5]
 have hown := own_push (Q := Q) (R := R) (r0 := ⟨[], [some l.length]⟩) (g := 0) (es := 3) (xs := l.map rowP) hQ (by simp)
 rw [callL_go (show AP 91 = some c_z_Clone_SchedulePass from rfl) rfl]
 simp (maxSteps := 1000000) only [go_sem, b_z_Clone_SchedulePass, ho, ha, Nat.reduceEqDiff, reduceCtorEq, ↓reduceIte]
 exact hown.trans (by rw [List.length_map])
theorem clone_o {tk : List (Option Nat)} {l : List P} {o : Own} {e : Nat} (hs : Ok s) (he : l = [] ∨ e = 3) (ho : o.isNil = l.isEmpty) (hl : l.length ≤ 4294967296) :
  ∃ x og tk', (∀ bx, calloOp (callL AP) (s.push ⟨bx, tk⟩) 91 [.slice o e (l.map rowP)] = some (x, s.push ⟨bx, tk'⟩)) ∧ Acc s.acts.length 3 (l.map rowP) x og tk' := by
 cases hl0 : l with
 | nil =>
  subst hl0
  have ho' : o.isNil = true := ho
  have : ∀ bx, callL AP (.fn 91) [.slice o e (([] : List P).map rowP)] ((roS (s.push ⟨bx, tk⟩)).push ⟨[], []⟩) = some (.slice .nilS 0 [], (roS (s.push ⟨bx, tk⟩)).push ⟨[], []⟩) := fun bx => by
   rw [callL_go (show AP 91 = some c_z_Clone_SchedulePass from rfl) rfl]
   simp (maxSteps := 1000000) only [go_sem, b_z_Clone_SchedulePass, ho', reduceCtorEq, ↓reduceIte]
  refine ⟨.slice .nilS 0 [], none, tk, fun bx => ?_, rfl, rfl⟩
  unfold calloOp
  rw [show ({ (s.push ⟨bx, tk⟩).push ⟨[], []⟩ with ro := (s.push ⟨bx, tk⟩).acts.length, lro := (s.push ⟨bx, tk⟩).loops.length } : Sig) = (roS (s.push ⟨bx, tk⟩)).push ⟨[], []⟩ from rfl, this]
  rfl
 | cons a q =>
  rw [← hl0]
  have hn : l ≠ [] := by rw [hl0]; simp
  have he' : e = 3 := by rcases he with h | h; exact absurd h hn; exact h
  have ho' : o.isNil = false := by rw [ho, hl0]; rfl
  refine ⟨.slice (.tok s.acts.length tk.length) 3 (l.map rowP), some tk.length, tk ++ [some l.length], fun bx => ?_, by simpa using hn, rfl, by simp⟩
  have := z_Clone_P (Q := roS (s.push ⟨bx, tk⟩)) (R := ⟨[], []⟩) (o := o) ok_roS hn ho' hl he'
  have hac : (roS (s.push ⟨bx, tk⟩)).acts.length = (s.push ⟨bx, tk⟩).acts.length := rfl
  have hcur : (s.push ⟨bx, tk⟩).cur = s.acts.length := cur_push _ _
  have hlen : (s.push ⟨bx, tk⟩).acts.length = s.acts.length + 1 := by simp [Sig.push]
  unfold calloOp
  rw [show ({ (s.push ⟨bx, tk⟩).push ⟨[], []⟩ with ro := (s.push ⟨bx, tk⟩).acts.length, lro := (s.push ⟨bx, tk⟩).loops.length } : Sig) = (roS (s.push ⟨bx, tk⟩)).push ⟨[], []⟩ from rfl, this]
  have htok : ((roS (s.push ⟨bx, tk⟩)).push ⟨[], [some l.length]⟩).tok (s.push ⟨bx, tk⟩).acts.length 0 = some l.length := by
   have := tok_push (roS (s.push ⟨bx, tk⟩)) ⟨[], [some l.length]⟩ 0
   rw [hac] at this; rw [this]; rfl
  have hro : (s.push ⟨bx, tk⟩).ro < (s.push ⟨bx, tk⟩).acts.length := by rw [hlen]; have := hs.ro; show s.ro < _; omega
  simp only [hac, List.length_nil, List.nil_append]
  rw [if_pos ⟨trivial, by omega, hro, by rw [htok, List.length_map]⟩]
  simp only [hcur, ntok_push, addTok_push, List.length_map]
abbrev rowM (m : Nat) : List AV := [I (m : Int)]
attribute [go_sem] rowM
def nextOk (w : W) (all : List (Sl P × Bool)) (plan : List P) (own : Nat) (sets : List Nat) (i : Nat) (p : P) : Bool :=
 !confs w p plan && sets.any fun m => decide (m &&& (2 ^ (i + 1) - 1) = own ||| 2 ^ i) && fitsB w all (plan ++ [p]) m
def nextF (w : W) (all : List (Sl P × Bool)) (plan : List P) (own : Nat) (sets : List Nat) : Nat → Nat → Option P
 | _, 0 => none
 | i, n + 1 => match (all.getD i default).1.l.find? (nextOk w all plan own sets i) with
  | some p => some p
  | none => nextF w all plan own sets (i + 1) n
def fromI (plan : List P) : Nat := match plan.getLast? with
 | some p => p.req.toNat + 1
 | none => 0
def nextB (w : W) (all : List (Sl P × Bool)) (plan : List P) (own : Nat) (sets : List Nat) : Option P := nextF w all plan own sets (fromI plan) (all.length - fromI plan)
theorem pow_i (i : Nat) (hi : i ≤ 12) : IntKind.i64.wrap (((2 ^ (i + 1) : Nat) : Int) - 1) = ((2 ^ (i + 1) - 1 : Nat) : Int) := by
 have h : (2 : Nat) ^ (i + 1) ≤ 2 ^ 13 := Nat.pow_le_pow_right (by decide) (by omega)
 have h1 : 1 ≤ (2 : Nat) ^ (i + 1) := Nat.one_le_two_pow
 generalize (2 : Nat) ^ (i + 1) = q at *
 rw [wrap_id (by omega) (by omega)]
 omega
theorem lt63 {m k : Nat} (h : m < 2 ^ k) (hk : k ≤ 63) : m < 2 ^ 63 := Nat.lt_of_lt_of_le h (Nat.pow_le_pow_right (by decide) hk)
theorem dec_nat (a b : Nat) : decide ((a : Int) = (b : Int)) = decide (a = b) := by
 by_cases h : a = b
 ·rw [decide_eq_true h, decide_eq_true (by omega)]
 ·rw [decide_eq_false h, decide_eq_false (by omega)]
theorem find_drop {α : Type} {p : α → Bool} {l : List α} {k : Nat} {x : α} (h : l[k]? = some x) : (l.drop k).find? p = if p x = true then some x else (l.drop (k + 1)).find? p := by
 rw [drop_get h, List.find?_cons]
 cases p x <;> simp
theorem any_drop {α : Type} {p : α → Bool} {l : List α} {k : Nat} {x : α} (h : l[k]? = some x) : (l.drop k).any p = (p x || (l.drop (k + 1)).any p) := by
 rw [drop_get h, List.any_cons]
def nextV (r : Option P) : AV := .tuple [.agg (rowP (r.getD zeroP)), B r.isSome]
theorem c_next {o o2 o3 : Own} {e e2 e3 : Nat} {all : List (Sl P × Bool)} {plan : List P} {own : Nat} {sets : List Nat} (hs : Ok s) (hw : Wk w) (hA0 : AllOk w e all) (hp : ∀ p ∈ plan, PIn w p) (he2 : plan = [] ∨ e2 = 3) (ho2 : o2.isNil = plan.isEmpty) (hpl : plan.length ≤ 12)
    (hown : own < 2 ^ 12) (hsets : ∀ m ∈ sets, m < 2 ^ w.rs.l.length) (he3 : sets = [] ∨ e3 = 1) (hsl : sets.length ≤ 5000) :
    callL AP (.fn 61) [CH w o e all, .slice o2 e2 (plan.map rowP), I (own : Int), .slice o3 e3 (sets.map rowM)] s = some (nextV (nextB w all plan own sets), s) := by
  have hrl := hw.v.rl
  have hal := hA0.len
  have kout : ∀ (i : Nat) ρ x, (ρ 1 = .slice o2 e2 (plan.map rowP) ∧ ρ 2 = I (own : Int) ∧ ρ 3 = .slice o3 e3 (sets.map rowM) ∧ ρ 4 = .ptr s.acts.length 0 0 ∧ ρ 8 = .ptr s.acts.length 1 0 ∧ ρ 12 = I (i : Int) ∧
      ∃ bx tk, x = s.push ⟨[OW w, .slice o e (all.map rowC)] :: rowP zeroP :: bx, tk⟩) → go AP f_c_next (.c (.loop b_c_next_l0) :: k_c_next_0) ⟨ρ, x⟩ = some (nextV (nextF w all plan own sets i (all.length - i)), s) := by
    have step : ∀ (i : Nat) ρ x, i < all.length → (ρ 1 = .slice o2 e2 (plan.map rowP) ∧ ρ 2 = I (own : Int) ∧ ρ 3 = .slice o3 e3 (sets.map rowM) ∧ ρ 4 = .ptr s.acts.length 0 0 ∧ ρ 8 = .ptr s.acts.length 1 0 ∧ ρ 12 = I (i : Int) ∧
        ∃ bx tk, x = s.push ⟨[OW w, .slice o e (all.map rowC)] :: rowP zeroP :: bx, tk⟩) →
        (∀ ρ' x', (ρ' 1 = .slice o2 e2 (plan.map rowP) ∧ ρ' 2 = I (own : Int) ∧ ρ' 3 = .slice o3 e3 (sets.map rowM) ∧ ρ' 4 = .ptr s.acts.length 0 0 ∧ ρ' 8 = .ptr s.acts.length 1 0 ∧ ρ' 12 = I ((i + 1 : Nat) : Int) ∧
          ∃ bx tk, x' = s.push ⟨[OW w, .slice o e (all.map rowC)] :: rowP zeroP :: bx, tk⟩) → go AP f_c_next (.c (.loop b_c_next_l0) :: k_c_next_0) ⟨ρ', x'⟩ = some (nextV (nextF w all plan own sets (i + 1) (all.length - (i + 1))), s)) →
        go AP f_c_next (.c b_c_next_l0 :: .lp b_c_next_l0 :: k_c_next_0) ⟨ρ, x⟩ = some (nextV (nextF w all plan own sets i (all.length - i)), s) := by
      rintro i ρ x hi ⟨h1, h2, h3, h4, h8, h12, bx, tk, rfl⟩ ih
      obtain ⟨c, hc⟩ := get_some hi
      have hcm := List.mem_of_getElem? hc
      have hec : e = 2 := by rcases hA0.e with h | h; (rw [h] at hc; simp at hc); exact h
      subst hec
      have hr := ix_map (f := rowC) (o := o) (es := 2) hc
      have hgd : all.getD i default = c := by simp [List.getD, hc]
      have hnf : nextF w all plan own sets i (all.length - i) = match c.1.l.find? (nextOk w all plan own sets i) with
          | some p => some p
          | none => nextF w all plan own sets (i + 1) (all.length - (i + 1)) := by
        obtain ⟨d, hd⟩ : ∃ d, all.length - i = d + 1 := ⟨all.length - i - 1, by omega⟩
        rw [hd, nextF, hgd, show all.length - (i + 1) = d by omega]
      have hck := hA0.cnt c hcm
      have hcp := hA0.pin c hcm
      have hco := hA0.ok c hcm
      have h63 : ∀ m ∈ sets, m < 2 ^ 63 := fun m hm => lt63 (hsets m hm) (by omega)
      have kmid : ∀ (j : Nat) ρ x, j ≤ c.1.l.length → (ρ 1 = .slice o2 e2 (plan.map rowP) ∧ ρ 2 = I (own : Int) ∧ ρ 3 = .slice o3 e3 (sets.map rowM) ∧ ρ 4 = .ptr s.acts.length 0 0 ∧ ρ 8 = .ptr s.acts.length 1 0 ∧ ρ 12 = I (i : Int) ∧ ρ 42 = c.1.v rowP ∧ ρ 43 = I c.1.l.length ∧ ρ 44 = I j ∧
          ∃ bx tk, x = s.push ⟨[OW w, .slice o 2 (all.map rowC)] :: rowP zeroP :: bx, tk⟩) →
          go AP f_c_next (.c (.loop b_c_next_l1) :: k_c_next_1) ⟨ρ, x⟩ = some (nextV (match (c.1.l.drop j).find? (nextOk w all plan own sets i) with | some p => some p | none => nextF w all plan own sets (i + 1) (all.length - (i + 1))), s) := by
        refine loop_up c.1.l.length _ _ ?_ ?_
        · rintro j ρ x hj ⟨h1, h2, h3, h4, h8, h12, h42, h43, h44, bx, tk, rfl⟩ ih2
          obtain ⟨p, hp1⟩ := get_some hj
          have hpp := hcp p (List.mem_of_getElem? hp1)
          have hr := Sl.ix (f := rowP) hco hp1
          have hcf : ∀ r, callL AP (.fn 86) [OW w, .agg (rowP p), .slice o2 e2 (plan.map rowP)] (s.push r) = some (B (confs w p plan), s.push r) := fun r => w_conflicts (hs.push r) hw hpp hp he2 (by omega)
          have hwj := wrap_succ hj (show (c.1.l.length : Int) < _ by omega)
          rw [find_drop hp1]
          simp only [rowP, Sl.v] at hcf hr h42
          cases hcc : confs w p plan with
          | true =>
            rw [hcc] at hcf
            have hno : nextOk w all plan own sets i p = false := by simp [nextOk, hcc]
            rw [hno, if_neg (by simp)]
            simp (maxSteps := 1000000) only [go_sem, b_c_next_l1, b_c_next_r2, h1, h4, h42, h43, h44, hs, lt_dec hj, hr, hcf, hwj, Nat.reduceEqDiff, Nat.reduceAdd, ↓reduceIte]
            refine ih2 _ _ ?_
            exact ⟨h1, h2, h3, h4, h8, h12, h42, h43, rfl, _, _, rfl⟩
          | false =>
            rw [hcc] at hcf
            have hyes : nextOk w all plan own sets i p = sets.any fun m => decide (m &&& (2 ^ (i + 1) - 1) = own ||| 2 ^ i) && fitsB w all (plan ++ [p]) m := by simp [nextOk, hcc]
            obtain ⟨xc, ogc, tkc, hcl, hAc⟩ := clone_o (s := s) (tk := tk) (l := plan) (o := o2) (e := e2) hs he2 ho2 (by omega)
            obtain ⟨xa, oga, tka, ha1, ha2, ha3, _⟩ := hAc.append hs .full (ys := [rowP p]) (by simp) (by simp; omega)
            have hpc : closeAll (rowP p) = some (rowP p) := by
              simp only [rowP, closeAll_cons, closeAll_nil, close_int, Sl.close hpp.ok]; rfl
            have hpl2 : ∀ m : Sig, leaveCell m (p.an.v rowI) = some (p.an.v rowI) := fun m => Sl.leavec hpp.ok
            obtain ⟨oa, hxa⟩ : ∃ oa, xa = .slice oa 3 ((plan ++ [p]).map rowP) := by
              cases oga with
              | none => exact absurd rfl ha3
              | some g => exact ⟨_, by rw [ha2.2.1, List.map_append]; rfl⟩
            subst hxa
            have kin : ∀ (q : Nat) ρ x, q ≤ sets.length → (ρ 1 = .slice o2 e2 (plan.map rowP) ∧ ρ 2 = I (own : Int) ∧ ρ 3 = .slice o3 e3 (sets.map rowM) ∧ ρ 4 = .ptr s.acts.length 0 0 ∧ ρ 8 = .ptr s.acts.length 1 0 ∧ ρ 12 = I (i : Int) ∧ ρ 14 = .ptr s.acts.length (bx.length + 1 + 1) 0 ∧ ρ 15 = .slice oa 3 ((plan ++ [p]).map rowP) ∧ ρ 42 = c.1.v rowP ∧ ρ 43 = I c.1.l.length ∧ ρ 44 = I j ∧ ρ 58 = .slice o3 e3 (sets.map rowM) ∧ ρ 59 = I sets.length ∧ ρ 60 = I q ∧
                ∃ tk, x = s.push ⟨[OW w, .slice o 2 (all.map rowC)] :: rowP zeroP :: (bx ++ [rowP p]), tk⟩) →
                go AP f_c_next (.c (.loop b_c_next_l2) :: k_c_next_2) ⟨ρ, x⟩ = some (nextV (if ((sets.drop q).any fun m => decide (m &&& (2 ^ (i + 1) - 1) = own ||| 2 ^ i) && fitsB w all (plan ++ [p]) m) = true then some p else match (c.1.l.drop (j + 1)).find? (nextOk w all plan own sets i) with | some p => some p | none => nextF w all plan own sets (i + 1) (all.length - (i + 1))), s) := by
              refine loop_up sets.length _ _ ?_ ?_
              · rintro q ρ x hq ⟨h1, h2, h3, h4, h8, h12, h14, h15, h42, h43, h44, h58, h59, h60, tk, rfl⟩ ih3
                obtain ⟨m, hm1⟩ := get_some hq
                have hmm := List.mem_of_getElem? hm1
                have hm2 := hsets m hmm
                have he31 : e3 = 1 := by rcases he3 with h | h; (rw [h] at hm1; simp at hm1); exact h
                subst he31
                have hr := ix_map (f := rowM) (o := o3) (es := 1) hm1
                have hwi : IntKind.i64.wrap ((i : Int) + 1) = ((i + 1 : Nat) : Int) := by rw [wrap_id] <;> omega
                have hsh1 := ar_shln (k := i + 1) (by omega)
                have hsh2 := ar_shln (k := i) (by omega)
                have hpw := pow_i i (by omega)
                have hb1 : 2 ^ (i + 1) - 1 < 2 ^ 63 := by
                  have : (2 : Nat) ^ (i + 1) ≤ 2 ^ 13 := Nat.pow_le_pow_right (by decide) (by omega)
                  have h8 : (2 : Nat) ^ 13 < 2 ^ 63 := by decide
                  omega
                have hb2 : (2 : Nat) ^ i < 2 ^ 63 := Nat.pow_lt_pow_right (by decide) (by omega)
                have hand := ar_and (a := m) (b := 2 ^ (i + 1) - 1) (h63 m hmm) hb1
                have hor := ar_or (a := own) (b := 2 ^ i) (lt63 hown (by decide)) hb2
                have hdec := dec_nat (m &&& (2 ^ (i + 1) - 1)) (own ||| 2 ^ i)
                have hfi : ∀ r, callL AP (.fn 59) [CH w o 2 all, .slice oa 3 ((plan ++ [p]).map rowP), I (m : Int)] (s.push r) = some (B (fitsB w all (plan ++ [p]) m), s.push r) := fun r =>
                  c_fits (hs.push r) hw hA0 hm2 (fun y hy => by
                    rcases List.mem_append.1 hy with h | h
                    · exact hp y h
                    · simp at h; subst h; exact hpp) (.inr rfl) (by simp; omega)
                have hwq := wrap_succ hq (show (sets.length : Int) < _ by omega)
                rw [any_drop hm1]
                simp only [CH] at hfi
                simp only [rowP, Sl.v, zeroP, List.map_nil] at hpl2 ⊢
                cases hg : decide (m &&& (2 ^ (i + 1) - 1) = own ||| 2 ^ i) with
                | false =>
                  rw [hg] at hdec
                  simp (maxSteps := 1000000) only [go_sem, b_c_next_l2, h2, h12, h58, h59, h60, lt_dec hq, hr, hwi, hsh1, hsh2, hpw, hand, hor, hdec, hwq, Bool.false_and, Bool.false_or, Nat.reduceEqDiff, ↓reduceIte]
                  refine (ih3 _ _ ?_).trans rfl
                  exact ⟨h1, h2, h3, h4, h8, h12, h14, h15, h42, h43, h44, h58, h59, rfl, _, rfl⟩
                | true =>
                  rw [hg] at hdec
                  cases hf : fitsB w all (plan ++ [p]) m with
                  | false =>
                    rw [hf] at hfi
                    simp (maxSteps := 1000000) only [go_sem, b_c_next_l2, h2, h4, h12, h15, h58, h59, h60, lt_dec hq, hr, hwi, hsh1, hsh2, hpw, hand, hor, hdec, hfi, hwq, Bool.and_false, Bool.false_or, Nat.reduceEqDiff, ↓reduceIte]
                    refine (ih3 _ _ ?_).trans rfl
                    exact ⟨h1, h2, h3, h4, h8, h12, h14, h15, h42, h43, h44, h58, h59, rfl, _, rfl⟩
                  | true =>
                    rw [hf] at hfi
                    simp (maxSteps := 1000000) only [go_sem, b_c_next_l2, h2, h4, h8, h12, h14, h15, h58, h59, h60, hs, lt_dec hq, hr, hwi, hsh1, hsh2, hpw, hand, hor, hdec, hfi, Bool.and_self, Bool.true_or, hpl2, Nat.reduceEqDiff, ↓reduceIte]
                    rfl
              · rintro ρ x ⟨h1, h2, h3, h4, h8, h12, h14, h15, h42, h43, h44, h58, h59, h60, tk, rfl⟩
                simp (maxSteps := 1000000) only [go_sem, b_c_next_l2, b_c_next_r2, h44, h59, h60, ge_dec, hwj, Nat.reduceEqDiff, ↓reduceIte]
                rw [List.drop_length]
                refine (ih2 _ _ ?_).trans rfl
                exact ⟨h1, h2, h3, h4, h8, h12, h42, h43, rfl, _, _, rfl⟩
            simp only [rowP, Sl.v, zeroP, List.map_nil] at hcl ha1 hpc kin
            rw [hyes]
            simp (maxSteps := 1000000) only [go_sem, b_c_next_l1, h1, h3, h4, h42, h43, h44, hs, lt_dec hj, hr, hcf, hcl, hpc, ha1, Nat.reduceEqDiff, Nat.reduceAdd, ↓reduceIte]
            refine (kin 0 _ _ (Nat.zero_le _) ?_).trans ?_
            · exact ⟨h1, h2, h3, h4, h8, h12, rfl, rfl, h42, h43, h44, rfl, rfl, rfl, _, rfl⟩
            · rw [List.drop_zero]
              cases (sets.any fun m => decide (m &&& (2 ^ (i + 1) - 1) = own ||| 2 ^ i) && fitsB w all (plan ++ [p]) m) <;> rfl
        · rintro ρ x ⟨h1, h2, h3, h4, h8, h12, h42, h43, h44, bx, tk, rfl⟩
          have hwi : IntKind.i64.wrap ((i : Int) + 1) = ((i + 1 : Nat) : Int) := by rw [wrap_id] <;> omega
          simp (maxSteps := 1000000) only [go_sem, b_c_next_l1, b_c_next_r1, h12, h43, h44, ge_dec, hwi, Nat.reduceEqDiff, ↓reduceIte]
          rw [List.drop_length]
          refine (ih _ _ ?_).trans rfl
          exact ⟨h1, h2, h3, h4, h8, rfl, _, _, rfl⟩
      have hd : decide ((i : Int) < (all.length : Int)) = true := decide_eq_true (by omega)
      rw [hnf]
      simp (maxSteps := 1000000) only [go_sem, b_c_next_l0, h4, h12, hd, hr, Nat.reduceEqDiff, Nat.reduceAdd, ↓reduceIte]
      refine (kmid 0 _ _ (Nat.zero_le _) ?_).trans (by rw [List.drop_zero])
      exact ⟨h1, h2, h3, h4, h8, h12, rfl, rfl, rfl, _, _, rfl⟩
    intro i ρ x hP
    induction hn : all.length - i generalizing i ρ x with
    | zero =>
      obtain ⟨h1, h2, h3, h4, h8, h12, bx, tk, rfl⟩ := hP
      have hd : decide ((i : Int) < (all.length : Int)) = false := decide_eq_false (by omega)
      rw [go_loop]
      simp only [rowP, Sl.v, zeroP, List.map_nil]
      simp (maxSteps := 1000000) only [go_sem, b_c_next_l0, b_c_next_r0, h4, h8, h12, hs, hd, Nat.reduceEqDiff, Nat.reduceAdd, ↓reduceIte]
      rfl
    | succ d ih =>
      rw [go_loop, ← hn]
      refine step i ρ x (by omega) hP fun ρ' x' hP' => ?_
      rw [ih (i + 1) ρ' x' hP' (by omega), show all.length - (i + 1) = d by omega]
  have hgl : ∀ (a : P), plan.getLast? = some a → plan[plan.length - 1]? = some a := fun a h => by rw [← List.getLast?_eq_getElem?]; exact h
  rw [callL_go (show AP 61 = some c_c_next from rfl) rfl]
  cases hlast : plan.getLast? with
  | none =>
    have hpn : plan = [] := List.getLast?_eq_none_iff.1 hlast
    subst hpn
    simp only [CH, OW, rowP, Sl.v, zeroP, List.map_nil] at kout ⊢
    simp (maxSteps := 1000000) only [go_sem, b_c_next, Nat.reduceEqDiff, Nat.reduceAdd, Int.reduceLT, Int.cast_ofNat_Int, ↓reduceIte]
    refine (kout 0 _ _ ?_).trans ?_
    · exact ⟨rfl, rfl, rfl, rfl, rfl, rfl, [], [], rfl⟩
    · rfl
  | some a =>
    have hga := hgl a hlast
    have ham := hp a (List.mem_of_getElem? hga)
    have hne : 0 < plan.length := by
      have := (List.getElem?_eq_some_iff.1 hga).1; omega
    have he31 : e2 = 3 := by rcases he2 with h | h; (rw [h] at hne; simp at hne); exact h
    subst he31
    have hr := ix_map (f := rowP) (o := o2) (es := 3) hga
    have hw1 : IntKind.i64.wrap ((plan.length : Int) - 1) = ((plan.length - 1 : Nat) : Int) := by rw [wrap_id] <;> omega
    have hd : decide ((0 : Int) < (plan.length : Int)) = true := decide_eq_true (by omega)
    have hr0 := ham.r0
    have hr1 := ham.r1
    have hw2 : IntKind.i64.wrap (a.req + 1) = ((a.req.toNat + 1 : Nat) : Int) := by rw [wrap_id] <;> omega
    have hfrom : fromI plan = a.req.toNat + 1 := by simp [fromI, hlast]
    simp only [CH, OW, rowP, Sl.v, zeroP, List.map_nil] at kout hr ⊢
    simp (maxSteps := 1000000) only [go_sem, b_c_next, hd, hw1, hr, hw2, Nat.reduceEqDiff, Nat.reduceAdd, ↓reduceIte]
    refine (kout (a.req.toNat + 1) _ _ ?_).trans ?_
    · exact ⟨rfl, rfl, rfl, rfl, rfl, rfl, [], [], rfl⟩
    · simp only [nextB, hfrom]
end
end Go.Ax.Sx.Sc

namespace Go.Ax.Sx.Sc
open Go.Ax
set_option linter.unusedSimpArgs false
set_option linter.unusedVariables false
def stepM (w : W) (all : List (Sl P × Bool)) (st : Int × List Nat) (m : Nat) : Int × List Nat :=
 if (decide (st.1 ≤ worthB w m) && (permB all m && fitsB w all [] m)) = true then (if st.1 < worthB w m then (worthB w m, [m]) else (st.1, st.2 ++ [m])) else st
def setsF (w : W) (all : List (Sl P × Bool)) (n : Nat) : Int × List Nat := (List.range n).foldl (stepM w all) (-1, [])
theorem setsF_s {w : W} {all : List (Sl P × Bool)} {n : Nat} : setsF w all (n + 1) = stepM w all (setsF w all n) n := by
 simp [setsF, List.range_succ]
theorem setsF_len {w : W} {all : List (Sl P × Bool)} : ∀ {n : Nat}, (setsF w all n).2.length ≤ n
 | 0 => by simp [setsF]
 | n + 1 => by
  have ih := setsF_len (w := w) (all := all) (n := n)
  rw [setsF_s]; unfold stepM
  split
  ·split
   ·simp
   ·simp; omega
  ·omega
theorem setsF_mem {w : W} {all : List (Sl P × Bool)} {m : Nat} : ∀ {n : Nat}, m ∈ (setsF w all n).2 → m < n
 | 0, h => by simp [setsF] at h
 | n + 1, h => by
  have ih := fun h => setsF_mem (w := w) (all := all) (m := m) (n := n) h
  rw [setsF_s] at h; unfold stepM at h
  split at h
  ·split at h
   ·simp at h; omega
   ·rcases List.mem_append.1 h with h | h
    ·have := ih h; omega
    ·simp at h; omega
  ·have := ih h; omega
def ownM (plan : List P) : Nat := plan.foldl (fun o p => o ||| 2 ^ p.req.toNat) 0
def growP (w : W) (all : List (Sl P × Bool)) (sets : List Nat) : Nat → List P → List P
 | 0, plan => plan
 | n + 1, plan => if (sets.any fun m => decide (ownM plan = m)) = true then plan else match nextB w all plan (ownM plan) sets with
  | some p => growP w all sets n (plan ++ [p])
  | none => plan
def bestB (w : W) (all : List (Sl P × Bool)) : List P × Int × Bool :=
 if (setsF w all (2 ^ all.length)).1 < 0 then ([], 0, false)
 else (growP w all (setsF w all (2 ^ all.length)).2 (all.length + 1) [], (setsF w all (2 ^ all.length)).1, true)
theorem nextF_some {w : W} {all : List (Sl P × Bool)} {plan : List P} {own : Nat} {sets : List Nat} {p : P} : ∀ {n i : Nat}, nextF w all plan own sets i n = some p → ∃ j, i ≤ j ∧ j < i + n ∧ p ∈ (all.getD j default).1.l ∧ nextOk w all plan own sets j p = true
 | 0, _, h => by cases h
 | n + 1, i, h => by
  simp only [nextF] at h
  split at h
  ·rename_i q hq
   injection h with h
   subst h
   exact ⟨i, Nat.le_refl _, by omega, List.mem_of_find?_eq_some hq, List.find?_some hq⟩
  ·obtain ⟨j, h1, h2, h3⟩ := nextF_some h
   exact ⟨j, by omega, by omega, h3⟩
theorem fromI_app {plan : List P} {p : P} : fromI (plan ++ [p]) = p.req.toNat + 1 := by simp [fromI]
section
variable {s : Sig} {w : W}
theorem AllOk.in_get {e : Nat} {all : List (Sl P × Bool)} (h : AllOk w e all) {j : Nat} (hj : j < all.length) {p : P} (hp : p ∈ (all.getD j default).1.l) : PIn w p ∧ p.req = j := by
 obtain ⟨c, hc⟩ := get_some hj
 have e1 : all.getD j default = c := by simp [List.getD, hc]
 rw [e1] at hp
 exact ⟨h.pin c (List.mem_of_getElem? hc) p hp, h.req j c hc p hp⟩
theorem nextB_some {e : Nat} {all : List (Sl P × Bool)} {plan : List P} {own : Nat} {sets : List Nat} {p : P} (hA : AllOk w e all) (h : nextB w all plan own sets = some p) : PIn w p ∧ fromI plan ≤ p.req.toNat ∧ p.req.toNat < all.length := by
 obtain ⟨j, h1, h2, h3, _⟩ := nextF_some h
 obtain ⟨h4, h5⟩ := hA.in_get (j := j) (by omega) h3
 exact ⟨h4, by omega, by omega⟩
theorem ownM_app {plan : List P} {p : P} : ownM (plan ++ [p]) = ownM plan ||| 2 ^ p.req.toNat := by simp [ownM]
theorem ownM_lt : ∀ {plan : List P}, (∀ p ∈ plan, p.req.toNat < 12) → ownM plan < 2 ^ 12 := by
 intro plan h
 have : ∀ (l : List P) (o : Nat), o < 2 ^ 12 → (∀ p ∈ l, p.req.toNat < 12) → l.foldl (fun o p => o ||| 2 ^ p.req.toNat) o < 2 ^ 12 := by
  intro l
  induction l with
  | nil => intro o ho _; exact ho
  | cons a r ih =>
   intro o ho hl
   exact ih _ (Nat.or_lt_two_pow ho (Nat.pow_lt_pow_right (by decide) (hl a (List.mem_cons_self ..)))) fun p hp => hl p (List.mem_cons_of_mem _ hp)
 exact this plan 0 (by decide) h
def bestV (r : List P × Int × Bool) : AV := .tuple [accV 3 (r.1.map rowP), I r.2.1, B r.2.2]
theorem c_best {o : Own} {e : Nat} {all : List (Sl P × Bool)} (hs : Ok s) (hw : Wk w) (hA0 : AllOk w e all) : callL AP (.fn 34) [CH w o e all] s = some (bestV (bestB w all), s) := by
 have hrl := hw.v.rl
 have hal := hA0.len
 have hpow : 2 ^ all.length ≤ 4096 := by
  have : (2 : Nat) ^ all.length ≤ 2 ^ 12 := Nat.pow_le_pow_right (by decide) (by omega)
  exact Nat.le_trans this (by decide)
 have hsl : ∀ n, n ≤ 2 ^ all.length → (setsF w all n).2.length ≤ 4096 := fun n hn => Nat.le_trans setsF_len (by omega)
 have kplan : ∀ (f : Nat) (plan : List P) (ρ : Nat → AV) (x : Sig) (sets : List Nat) (most : Int), sets = (setsF w all (2 ^ all.length)).2 → all.length + 1 - fromI plan ≤ f → fromI plan ≤ all.length → plan.length ≤ fromI plan → (∀ p ∈ plan, PIn w p) →
   (ρ 1 = .ptr s.acts.length 0 0 ∧ (∃ o5 e5, ρ 5 = .slice o5 e5 (sets.map rowM) ∧ (sets = [] ∨ e5 = 1)) ∧ ρ 6 = I most ∧ ∃ og tk bx, Acc s.acts.length 3 (plan.map rowP) (ρ 9) og tk ∧ x = s.push ⟨[OW w, .slice o e (all.map rowC)] :: bx, tk⟩) →
   go AP f_c_best (.c (.loop b_c_best_l0) :: k_c_best_0) ⟨ρ, x⟩ = some (.tuple [accV 3 ((growP w all sets f plan).map rowP), I most, B true], s) := by
  intro f
  induction f with
  | zero => intro plan ρ x sets most hset hf hfi; omega
  | succ f ihf =>
   rintro plan ρ x sets most hset hf hfi hpl hpin ⟨h1, ⟨o5, e5, h5, he5⟩, h6, og, tk, bx, hA, rfl⟩
   have hr12 : ∀ p ∈ plan, p.req.toNat < 12 := fun p hp => by have := (hpin p hp).r0; have := (hpin p hp).r1; omega
   have hown := ownM_lt hr12
   have hsmem : ∀ m ∈ sets, m < 2 ^ w.rs.l.length := fun m hm => by
    rw [hset] at hm; have := setsF_mem hm; rw [hal] at this; exact this
   have hsl' : sets.length ≤ 4096 := by rw [hset]; exact hsl _ (Nat.le_refl _)
   obtain ⟨o9, e9, h9', he9, ho9⟩ : ∃ o9 e9, ρ 9 = .slice o9 e9 (plan.map rowP) ∧ (plan = [] ∨ e9 = 3) ∧ o9.isNil = plan.isEmpty := by
    cases og with
    | none =>
     obtain ⟨q1, q2⟩ := hA
     have : plan = [] := by simpa using q1
     subst this
     exact ⟨_, _, q2, .inl rfl, rfl⟩
    | some g =>
     refine ⟨_, _, hA.2.1, .inr rfl, ?_⟩
     have : plan ≠ [] := by have := hA.1; simpa using this
     cases plan with
     | nil => exact absurd rfl this
     | cons a r => rfl
   have hcon : ∀ r, callL AP (.fn 60) [.slice o5 e5 (sets.map rowM), I (ownM plan : Int)] (s.push r) = some (B (sets.any fun m => decide (ownM plan = m)), s.push r) := fun r => by
    have := z_Contains_int (s := s.push r) (l := sets.map fun m : Nat => (m : Int)) (x := (ownM plan : Int)) (o := o5) (e := e5) (by rcases he5 with h | h; exact .inl (by simp [h]); exact .inr h) (by simp; omega)
    rw [List.map_map] at this
    rw [show (sets.map rowM) = sets.map ((fun a : Int => [I a]) ∘ fun m : Nat => (m : Int)) from rfl, this, List.any_map]
    congr 4
    funext m
    exact dec_nat _ _
   have hnx : ∀ r, callL AP (.fn 61) [CH w o e all, .slice o9 e9 (plan.map rowP), I (ownM plan : Int), .slice o5 e5 (sets.map rowM)] (s.push r) = some (nextV (nextB w all plan (ownM plan) sets), s.push r) := fun r =>
    c_next (hs.push r) hw hA0 hpin he9 ho9 (by omega) hown hsmem he5 (by omega)
   have kown : ∀ (j : Nat) ρ x, j ≤ plan.length → (ρ 1 = .ptr s.acts.length 0 0 ∧ ρ 5 = .slice o5 e5 (sets.map rowM) ∧ ρ 6 = I most ∧ ρ 9 = .slice o9 e9 (plan.map rowP) ∧ ρ 10 = I (ownM (plan.take j) : Int) ∧ ρ 49 = .slice o9 e9 (plan.map rowP) ∧ ρ 50 = I plan.length ∧ ρ 51 = I j ∧
     ∃ bx, x = s.push ⟨[OW w, .slice o e (all.map rowC)] :: bx, tk⟩) →
     go AP f_c_best (.c (.loop b_c_best_l1) :: k_c_best_1) ⟨ρ, x⟩ = some (.tuple [accV 3 ((growP w all sets (f + 1) plan).map rowP), I most, B true], s) := by
    refine loop_up plan.length _ _ ?_ ?_
    ·rintro j ρ x hj ⟨h1, h5, h6, h9, h10, h49, h50, h51, bx, rfl⟩ ih
     obtain ⟨p, hp⟩ := get_some hj
     have hpm := hpin p (List.mem_of_getElem? hp)
     have he3 : e9 = 3 := by rcases he9 with h | h; (rw [h] at hp; simp at hp); exact h
     subst he3
     have hr := ix_map (f := rowP) (o := o9) (es := 3) hp
     have p0 := hpm.r0
     have p1 := hpm.r1
     have hsh : arithOp .shl (I 1) (I p.req) = some (I ((2 ^ p.req.toNat : Nat) : Int)) := by
      have := ar_shln (k := p.req.toNat) (by omega)
      rwa [show ((p.req.toNat : Nat) : Int) = p.req by omega] at this
     have hlt : ownM (plan.take j) < 2 ^ 63 := lt63 (ownM_lt fun q hq => hr12 q (List.mem_of_mem_take hq)) (by decide)
     have hor := ar_or (a := ownM (plan.take j)) (b := 2 ^ p.req.toNat) hlt (Nat.pow_lt_pow_right (by decide) (by omega))
     have hon : ownM (plan.take (j + 1)) = ownM (plan.take j) ||| 2 ^ p.req.toNat := by rw [take_get hp, ownM_app]
     simp (maxSteps := 1000000) only [go_sem, b_c_best_l1, h10, h49, h50, h51, hs, lt_dec hj, hr, hsh, hor, wrap_succ hj (show (plan.length : Int) < _ by omega), Nat.reduceEqDiff, Nat.reduceAdd, ↓reduceIte]
     refine ih _ _ ?_
     refine ⟨h1, h5, h6, h9, ?_, h49, h50, rfl, _, rfl⟩
     rw [hon]; rfl
    ·rintro ρ x ⟨h1, h5, h6, h9, h10, h49, h50, h51, bx, rfl⟩
     rw [List.take_length] at h10
     have hA' := hA
     rw [h9'] at hA'
     have hlv := hA'.leave
     have hgp : growP w all sets (f + 1) plan = if (sets.any fun m => decide (ownM plan = m)) = true then plan else match nextB w all plan (ownM plan) sets with
      | some p => growP w all sets f (plan ++ [p])
      | none => plan := rfl
     rw [hgp]
     cases hc : sets.any fun m => decide (ownM plan = m) with
     | true =>
      rw [hc] at hcon
      simp (maxSteps := 1000000) only [go_sem, b_c_best_l1, b_c_best_r0, h5, h6, h9, h10, h50, h51, ge_dec, hcon, hlv, Nat.reduceEqDiff, ↓reduceIte]
     | false =>
      rw [hc] at hcon
      simp only [Bool.false_eq_true, if_false]
      cases hn : nextB w all plan (ownM plan) sets with
      | none =>
       rw [hn] at hnx
       simp only [nextV, Option.getD_none, Option.isSome_none, rowP, Sl.v, zeroP, List.map_nil] at hnx
       simp (maxSteps := 1000000) only [go_sem, b_c_best_l1, b_c_best_r0, h1, h5, h6, h9, h10, h50, h51, hs, ge_dec, hcon, hnx, hlv, Nat.reduceEqDiff, ↓reduceIte]
      | some p =>
       rw [hn] at hnx
       obtain ⟨n1, n2, n3⟩ := nextB_some hA0 hn
       have hpc : closeAll (rowP p) = some (rowP p) := by
        simp only [rowP, closeAll_cons, closeAll_nil, close_int, Sl.close n1.ok]; rfl
       obtain ⟨x', og', tk', ha1, ha2, _⟩ := hA'.append hs .full (ys := [rowP p]) (by simp) (by simp; omega)
       simp only [nextV, Option.getD_some, Option.isSome_some, rowP, Sl.v] at hnx hpc ha1
       simp (maxSteps := 1000000) only [go_sem, b_c_best_l1, b_c_best_r0, h1, h5, h9, h10, h50, h51, hs, ge_dec, hcon, hnx, hpc, ha1, Nat.reduceEqDiff, ↓reduceIte]
       refine (ihf (plan ++ [p]) _ _ sets most hset (by rw [fromI_app]; omega) (by rw [fromI_app]; omega) (by rw [fromI_app]; simp; omega) (fun q hq => ?_) ?_).trans rfl
       ·rcases List.mem_append.1 hq with h | h
        ·exact hpin q h
        ·simp at h; subst h; exact n1
       ·refine ⟨h1, ⟨o5, e5, h5, he5⟩, h6, og', tk', _, ?_, rfl⟩
        rw [List.map_append]; exact ha2
   rw [go_loop]
   simp (maxSteps := 1000000) only [go_sem, b_c_best_l0, h9', Nat.reduceEqDiff, ↓reduceIte]
   refine kown 0 _ _ (Nat.zero_le _) ?_
   exact ⟨h1, h5, h6, h9', rfl, rfl, rfl, rfl, _, rfl⟩
 have kset : ∀ (j : Nat) ρ x, j ≤ 2 ^ all.length → (ρ 1 = .ptr s.acts.length 0 0 ∧ ρ 6 = I (setsF w all j).1 ∧ ρ 18 = I ((2 ^ all.length : Nat) : Int) ∧ ρ 19 = I j ∧
   ∃ og tk, Acc s.acts.length 1 ((setsF w all j).2.map rowM) (ρ 5) og tk ∧ x = s.push ⟨[[OW w, .slice o e (all.map rowC)]], tk⟩) →
   go AP f_c_best (.c (.loop b_c_best_l2) :: k_c_best_2) ⟨ρ, x⟩ = some (bestV (bestB w all), s) := by
  refine loop_up (2 ^ all.length) _ _ ?_ ?_
  ·rintro j ρ x hj ⟨h1, h6, h18, h19, og, tk, hA, rfl⟩ ih
   have hjm : j < 2 ^ w.rs.l.length := by rw [← hal]; exact hj
   have hj62 : j < 2 ^ 62 := Nat.lt_of_lt_of_le hjm (Nat.pow_le_pow_right (by decide) (by omega))
   have hwo : ∀ r, callL AP (.fn 57) [CH w o e all, I (j : Int)] (s.push r) = some (I (worthB w j), s.push r) := fun r => c_worth (hs.push r) hw hjm
   have hpe : ∀ r, callL AP (.fn 58) [CH w o e all, I (j : Int)] (s.push r) = some (B (permB all j), s.push r) := fun r => c_isPermitted (hs.push r) hA0.e (by omega) hj62
   have hfi : ∀ r, callL AP (.fn 59) [CH w o e all, .slice .nilS 0 [], I (j : Int)] (s.push r) = some (B (fitsB w all [] j), s.push r) := fun r => c_fits (plan := []) (hs.push r) hw hA0 hjm (by simp) (.inl rfl) (by simp)
   have hwj := wrap_succ hj (show (((2 ^ all.length : Nat) : Nat) : Int) < _ by omega)
   have hst := setsF_s (w := w) (all := all) (n := j)
   have hlt := lt_dec hj
   have hsj := hsl j (by omega)
   generalize setsF w all j = st at *
   generalize setsF w all (j + 1) = st' at *
   generalize hq1 : worthB w j = W1 at *
   generalize hq2 : permB all j = B1 at *
   generalize hq3 : fitsB w all [] j = B2 at *
   unfold stepM at hst
   rw [hq1, hq2, hq3] at hst
   simp only [CH] at hwo hpe hfi
   cases hg : decide (st.1 ≤ W1) with
   | false =>
    rw [hg, Bool.false_and, if_neg (by simp)] at hst
    simp (maxSteps := 1000000) only [go_sem, b_c_best_l2, h1, h6, h18, h19, hlt, hwo, hg, hwj, Nat.reduceEqDiff, ↓reduceIte]
    refine ih _ _ ?_
    exact ⟨h1, by rw [hst]; exact h6, h18, rfl, og, tk, by rw [hst]; exact hA, rfl⟩
   | true =>
    cases B1 with
    | false =>
     rw [hg, Bool.false_and, Bool.and_false, if_neg (by simp)] at hst
     simp (maxSteps := 1000000) only [go_sem, b_c_best_l2, h1, h6, h18, h19, hlt, hwo, hpe, hg, hwj, Nat.reduceEqDiff, ↓reduceIte]
     refine ih _ _ ?_
     exact ⟨h1, by rw [hst]; exact h6, h18, rfl, og, tk, by rw [hst]; exact hA, rfl⟩
    | true =>
     cases B2 with
     | false =>
      rw [hg, Bool.and_false, Bool.and_false, if_neg (by simp)] at hst
      simp (maxSteps := 1000000) only [go_sem, b_c_best_l2, h1, h6, h18, h19, hlt, hwo, hpe, hfi, hg, hwj, Nat.reduceEqDiff, ↓reduceIte]
      refine ih _ _ ?_
      exact ⟨h1, by rw [hst]; exact h6, h18, rfl, og, tk, by rw [hst]; exact hA, rfl⟩
     | true =>
      rw [hg, Bool.and_self, Bool.and_self, if_pos rfl] at hst
      by_cases hm : st.1 < W1
      ·have hd : decide (st.1 < W1) = true := decide_eq_true hm
       rw [if_pos hm] at hst
       obtain ⟨x', og', tk', ha1, ha2, _⟩ := (Acc.start (d := s.acts.length) (es := 1) (toks := tk)).append hs .full (ys := [rowM j]) (by simp) (by simp)
       simp (maxSteps := 1000000) only [go_sem, b_c_best_l2, h1, h6, h18, h19, hlt, hwo, hpe, hfi, hg, hwj, hd, ha1, Nat.reduceEqDiff, ↓reduceIte]
       refine ih _ _ ?_
       exact ⟨h1, by rw [hst]; rfl, h18, rfl, og', tk', by rw [hst]; exact ha2, rfl⟩
      ·have hd : decide (st.1 < W1) = false := decide_eq_false hm
       rw [if_neg hm] at hst
       obtain ⟨x', og', tk', ha1, ha2, _⟩ := hA.append hs .full (ys := [rowM j]) (by simp) (by simp; omega)
       simp (maxSteps := 1000000) only [go_sem, b_c_best_l2, h1, h6, h18, h19, hlt, hwo, hpe, hfi, hg, hwj, hd, ha1, Nat.reduceEqDiff, ↓reduceIte]
       refine ih _ _ ?_
       exact ⟨h1, by rw [hst]; exact h6, h18, rfl, og', tk', by rw [hst, List.map_append]; exact ha2, rfl⟩
  ·rintro ρ x ⟨h1, h6, h18, h19, og, tk, hA, rfl⟩
   have hrest := kplan (all.length + 1) []
   unfold bestB
   by_cases hneg : (setsF w all (2 ^ all.length)).1 < 0
   ·have hd : decide ((setsF w all (2 ^ all.length)).1 < 0) = true := decide_eq_true hneg
    rw [if_pos hneg]
    simp (maxSteps := 1000000) only [go_sem, b_c_best_l2, b_c_best_r1, h6, h18, h19, ge_dec, hd, Nat.reduceEqDiff, ↓reduceIte]
    rfl
   ·have hd : decide ((setsF w all (2 ^ all.length)).1 < 0) = false := decide_eq_false hneg
    rw [if_neg hneg]
    have h5 : ∃ o5 e5, ρ 5 = .slice o5 e5 ((setsF w all (2 ^ all.length)).2.map rowM) ∧ ((setsF w all (2 ^ all.length)).2 = [] ∨ e5 = 1) := by
     cases og with
     | none => obtain ⟨q1, q2⟩ := hA; exact ⟨_, _, by rw [q2, q1], .inl (by simpa using q1)⟩
     | some g => exact ⟨_, _, hA.2.1, .inr rfl⟩
    simp (maxSteps := 1000000) only [go_sem, b_c_best_l2, b_c_best_r1, h6, h18, h19, ge_dec, hd, Nat.reduceEqDiff, ↓reduceIte]
    refine (hrest _ _ _ _ rfl (by simp [fromI]) (by simp [fromI]) (by simp) (by simp) ?_).trans rfl
    exact ⟨h1, h5, h6, none, tk, [], Acc.start, rfl⟩
 have hsh := ar_shln (k := all.length) (by omega)
 rw [callL_go (show AP 34 = some c_c_best from rfl) rfl]
 simp only [CH, OW] at kset ⊢
 simp (maxSteps := 1000000) only [go_sem, b_c_best, hsh, Nat.reduceEqDiff, Nat.reduceAdd, Int.reduceNeg, ↓reduceIte]
 refine kset 0 _ _ (Nat.zero_le _) ?_
 exact ⟨rfl, rfl, rfl, rfl, none, [], Acc.start, rfl⟩
end
end Go.Ax.Sx.Sc

namespace Go.Ax.Sx.Sc
open Go.Ax
set_option linter.unusedSimpArgs false
set_option linter.unusedVariables false
def smallE (w : W) : Int := if (weekE w).2.2 = 0 then cond (smallB w) 0 8 else (weekE w).2.2
section
variable {s : Sig} {w : W}
theorem freeC_ok (hw : Wk w) : AllOk w (acS 2 (freeC w)).e (freeC w) := by
 have hget : ∀ (i : Nat) (c : Sl P × Bool), (freeC w)[i]? = some c → i < w.rs.l.length ∧ c = (acS 3 (plcs w [] (i : Nat)), true) := fun i c h => by
  have hi := (List.getElem?_eq_some_iff.1 h).1
  rw [freeC, freeUp_len] at hi
  refine ⟨hi, ?_⟩
  rw [freeC, freeUp, List.getElem?_map, List.getElem?_range hi] at h
  injection h with h
  exact h.symm
 have hmem : ∀ c ∈ freeC w, ∃ i : Nat, i < w.rs.l.length ∧ c = (acS 3 (plcs w [] (i : Nat)), true) := fun c hc => by
  obtain ⟨i, hi⟩ := List.getElem?_of_mem hc
  exact ⟨i, hget i c hi⟩
 refine ⟨?_, by simp [freeC, freeUp_len], fun c hc => ?_, fun c hc => ?_, fun c hc p hp => ?_, fun i c hc p hp => ?_⟩
 ·cases freeC w
  ·exact .inl rfl
  ·exact .inr rfl
 ·obtain ⟨i, hi, rfl⟩ := hmem c hc; exact acS_ok
 ·obtain ⟨i, hi, rfl⟩ := hmem c hc
  rw [acS_l]
  exact Nat.le_trans (List.length_filter_le _ _) (poss_count hw (by omega) (by omega))
 ·obtain ⟨i, hi, rfl⟩ := hmem c hc
  rw [acS_l] at hp
  exact (poss_in hw (i := (i : Nat)) (by omega) (by omega) (List.mem_filter.1 hp).1).1
 ·obtain ⟨hi, rfl⟩ := hget i c hc
  rw [acS_l] at hp
  exact (poss_in hw (i := (i : Nat)) (by omega) (by omega) (List.mem_filter.1 hp).1).2.1
def bestW (w : W) : List P × Int × Bool := bestB w (freeC w)
theorem s_Best (hs : Ok s) (hw : w.Ok) (hf : w.Few) : callL AP (.fn 14) [w.v] s = some (.tuple [accV 3 ((if smallE w = 0 then (bestW w).1 else []).map rowP), I (if smallE w = 0 then (bestW w).2.1 else 0), I (smallE w)], s) := by
 have ho : ∀ r, callL AP (.fn 32) [w.v] (s.push r) = some (.tuple [if (weekE w).2.2 = 0 then OW w else NP, I (smallE w)], s.push r) := fun r => s_openSmall (hs.push r) hw hf
 rw [callL_go (show AP 14 = some c_s_Best from rfl) rfl]
 simp only [W.v, rowW, Sl.v] at ho
 by_cases h0 : smallE w = 0
 ·have he : (weekE w).2.2 = 0 := by
   unfold smallE at h0
   by_cases h : (weekE w).2.2 = 0
   ·exact h
   ·rw [if_neg h] at h0; exact absurd h0 h
  have hwk : Wk w := ⟨hw, hf, weekE_ok he⟩
  rw [if_pos he, h0] at ho
  have hfr : ∀ r, callL AP (.fn 33) [OW w] (s.push r) = some (CH w (acS 2 (freeC w)).o (acS 2 (freeC w)).e (freeC w), s.push r) := fun r => by
   rw [w_free (hs.push r) hwk, acS_v]; simp only [Sl.v, acS_l]
  have hbe : ∀ r, callL AP (.fn 34) [CH w (acS 2 (freeC w)).o (acS 2 (freeC w)).e (freeC w)] (s.push r) = some (bestV (bestW w), s.push r) := fun r => c_best (hs.push r) hwk (freeC_ok hwk)
  rw [h0]
  simp only [CH, bestV] at hfr hbe
  simp only [if_true]
  simp (maxSteps := 1000000) only [go_sem, b_s_Best, ho, hfr, hbe, ne_eq, not_true, Nat.reduceEqDiff, Nat.reduceAdd, ↓reduceIte]
 ·simp only [h0, if_false]
  simp (maxSteps := 1000000) only [go_sem, b_s_Best, ho, ne_eq, h0, not_false_iff, Nat.reduceEqDiff, Nat.reduceAdd, ↓reduceIte]
  rfl
end
end Go.Ax.Sx.Sc

namespace Go.Ax.Sx.Sc
open Go.Ax
set_option linter.unusedSimpArgs false
set_option linter.unusedVariables false
def lastR (l : List P) : Int := match l.getLast? with
 | some p => p.req
 | none => -1
def anE (r : R) : Int → List Int → Int
 | _, [] => 0
 | last, a :: t => if (r.an.l.any fun b => decide (a = b)) = true then (if last < a then anE r a t else 9) else 6
def passE (w : W) (p : P) (earlier : List P) : Int :=
 if wi p.req 0 (w.rs.l.length - 1) = true then
  if lastR earlier < p.req then
   if wi p.start (w.rq p.req).lo ((w.rq p.req).hi + 1 - (w.rq p.req).len) = true then
    if (p.an.l.length : Int) = (w.rq p.req).need then
     if anE (w.rq p.req) (-1) p.an.l = 0 then
      if (p.an.l.any fun a => !openB w a p.start (w.rq p.req).len) = true then 21
      else if confs w p earlier = true then 13 else 0
     else anE (w.rq p.req) (-1) p.an.l
    else 10
   else 2
  else 9
 else 6
theorem anE_fold {w : W} {r : R} {st len : Int} : ∀ {l : List Int} {last : Int}, anE r last l = 0 → (∀ a ∈ l, (r.an.l.any fun b => decide (a = b)) = true) ∧ (∀ a ∈ l, last < a)
 | [], _, _ => by simp
 | a :: t, last, h => by
  simp only [anE] at h
  by_cases h1 : (r.an.l.any fun b => decide (a = b)) = true
  ·rw [if_pos h1] at h
   by_cases h2 : last < a
   ·rw [if_pos h2] at h
    obtain ⟨i1, i2⟩ := anE_fold (w := w) (st := st) (len := len) h
    refine ⟨fun b hb => ?_, fun b hb => ?_⟩
    ·rcases List.mem_cons.1 hb with rfl | hb
     ·exact h1
     ·exact i1 b hb
    ·rcases List.mem_cons.1 hb with rfl | hb
     ·exact h2
     ·have := i2 b hb; omega
   ·rw [if_neg h2] at h; omega
  ·rw [if_neg h1] at h; omega
theorem mem_any {l : List Int} {a : Int} (h : (l.any fun b => decide (a = b)) = true) : a ∈ l := by
 obtain ⟨b, hb, he⟩ := List.any_eq_true.1 h
 have : a = b := by simpa using he
 rw [this]; exact hb
section
variable {s : Sig} {w : W}
theorem w_passErr {p : P} {l : List P} {o : Own} {e : Nat} (hs : Ok s) (hw : Wk w) (hpo : p.an.ok 1) (hpl : (p.an.l.length : Int) < 1000000) (hl : ∀ x ∈ l, PIn w x) (he : l = [] ∨ e = 3) (hn : (l.length : Int) < 1000000) :
  callL AP (.fn 92) [OW w, .agg (rowP p), .slice o e (l.map rowP)] s = some (I (passE w p l), s) := by
 have hrl := hw.v.rl
 have hn2 := hw.v.n2
 have hre : ∀ q : Sig, callL AP (.fn 124) [OW w, I p.req] q = some (I (cond (wi p.req 0 (w.rs.l.length - 1)) 0 6), q) := fun q => w_requestErr hw
 have main : ∀ (h0 : 0 ≤ p.req) (h1 : p.req < w.rs.l.length), (w.rq p.req).lo ≤ p.start → p.start ≤ (w.rq p.req).hi + 1 - (w.rq p.req).len → ∀ (j : Nat) ρ x, j ≤ p.an.l.length → (ρ 0 = OW w ∧ ρ 2 = .slice o e (l.map rowP) ∧ ρ 4 = .ptr s.acts.length 0 0 ∧ ρ 10 = .ptr s.acts.length 1 0 ∧ ρ 76 = p.an.v rowI ∧ ρ 77 = I p.an.l.length ∧ ρ 78 = I j ∧
   (∃ last : Int, ρ 7 = I last ∧ anE (w.rq p.req) (-1) p.an.l = anE (w.rq p.req) last (p.an.l.drop j)) ∧ ρ 12 = B ((p.an.l.take j).any fun a => !openB w a p.start (w.rq p.req).len) ∧ (∀ a ∈ p.an.l.take j, a ∈ (w.rq p.req).an.l) ∧
   ∃ bx tk, x = s.push ⟨rowP p :: rowR (w.rq p.req) :: bx, tk⟩) →
   go AP f_w_passErr (.c (.loop b_w_passErr_l0) :: k_w_passErr_0) ⟨ρ, x⟩ = some (I (if anE (w.rq p.req) (-1) p.an.l = 0 then (if (p.an.l.any fun a => !openB w a p.start (w.rq p.req).len) = true then 21 else if confs w p l = true then 13 else 0) else anE (w.rq p.req) (-1) p.an.l), s) := by
  intro h0 h1 hst1 hst2
  have hq := hw.rq h0 h1
  have hqa := hw.ok.an _ (W.rq_mem h0 h1)
  have q0 := hq.lo0
  have q1 := hq.hin
  have q2 := hq.len1
  have q3 := hq.lenhi
  have hfan := hw.few.an _ (W.rq_mem h0 h1)
  refine loop_up p.an.l.length _ _ ?_ ?_
  ·rintro j ρ x hj ⟨g0, g2, g4, g10, g76, g77, g78, ⟨last, g7, hlast⟩, g12, hmem, bx, tk, rfl⟩ ih
   obtain ⟨a, ha⟩ := get_some hj
   have hr := Sl.ix (f := rowI) hpo ha
   have hct : ∀ r, callL AP (.fn 60) [.slice (w.rq p.req).an.o (w.rq p.req).an.e ((w.rq p.req).an.l.map rowI), I a] (s.push r) = some (B ((w.rq p.req).an.l.any fun b => decide (a = b)), s.push r) := fun r => z_Contains_int hqa.1 (by omega)
   rw [drop_get ha, anE] at hlast
   have hw78 := wrap_succ hj (show (p.an.l.length : Int) < _ by omega)
   simp only [Sl.v] at g76 hr
   generalize hq' : w.rq p.req = q at *
   cases hm : q.an.l.any fun b => decide (a = b) with
   | false =>
    rw [hm] at hct hlast
    rw [if_neg (by simp)] at hlast
    rw [hlast]
    simp (maxSteps := 1000000) only [go_sem, b_w_passErr_l0, g0, g4, g7, g10, g12, g76, g77, g78, lt_dec hj, hr, hct, s_unless, s_first2, firstErr, ne_eq, Nat.reduceEqDiff, reduceCtorEq, Nat.reduceAdd, Int.reduceEq, ↓reduceIte]
    rfl
   | true =>
    rw [hm] at hct hlast
    rw [if_pos rfl] at hlast
    have ham := hq.anin a (mem_any hm)
    have hop : ∀ r, callL AP (.fn 119) [OW w, I a, I p.start, I q.len] (s.push r) = some (B (openB w a p.start q.len), s.push r) := fun r => w_isOpen hw ham.1 ham.2 (by omega) (by omega) (by omega)
    by_cases hla : last < a
    ·have hd : decide (last < a) = true := decide_eq_true hla
     rw [if_pos hla] at hlast
     have hfin : ∀ c : Bool, B c = B ((p.an.l.take (j + 1)).any fun a => !openB w a p.start q.len) → ∀ ρ' x', (ρ' 0 = OW w ∧ ρ' 2 = .slice o e (l.map rowP) ∧ ρ' 4 = .ptr s.acts.length 0 0 ∧ ρ' 10 = .ptr s.acts.length 1 0 ∧ ρ' 76 = .slice p.an.o p.an.e (p.an.l.map rowI) ∧ ρ' 77 = I p.an.l.length ∧ ρ' 78 = I ((j + 1 : Nat) : Int) ∧ ρ' 7 = I a ∧ ρ' 12 = B c ∧ ∃ bx tk, x' = s.push ⟨rowP p :: rowR q :: bx, tk⟩) →
       go AP f_w_passErr (.c (.loop b_w_passErr_l0) :: k_w_passErr_0) ⟨ρ', x'⟩ = some (I (if anE q (-1) p.an.l = 0 then (if (p.an.l.any fun a => !openB w a p.start q.len) = true then 21 else if confs w p l = true then 13 else 0) else anE q (-1) p.an.l), s) := by
      rintro c hcc ρ' x' ⟨k0, k2, k4, k10, k76, k77, k78, k7, k12, kb⟩
      refine ih ρ' x' ⟨k0, k2, k4, k10, k76, k77, k78, ⟨a, k7, hlast⟩, by rw [k12, hcc], fun b hb => ?_, kb⟩
      rw [take_get ha] at hb
      rcases List.mem_append.1 hb with h | h
      ·exact hmem b h
      ·simp at h; subst h; exact mem_any hm
     have htk : ((p.an.l.take (j + 1)).any fun a => !openB w a p.start q.len) = (((p.an.l.take j).any fun a => !openB w a p.start q.len) || !openB w a p.start q.len) := by
      rw [take_get ha, List.any_append]; simp
     generalize ((p.an.l.take j).any fun a => !openB w a p.start q.len) = C at *
     cases C with
     | true =>
      simp (maxSteps := 1000000) only [go_sem, b_w_passErr_l0, g7, g10, g12, g76, g77, g78, lt_dec hj, hr, hct, hd, s_unless, s_first2, firstErr, ne_eq, not_true, hw78, Nat.reduceEqDiff, Nat.reduceAdd, Int.reduceNeg, ↓reduceIte]
      refine hfin true (by rw [htk]; rfl) _ _ ?_
      exact ⟨g0, g2, g4, g10, g76, g77, rfl, rfl, rfl, _, _, rfl⟩
     | false =>
      simp (maxSteps := 1000000) only [go_sem, b_w_passErr_l0, g0, g4, g7, g10, g12, g76, g77, g78, lt_dec hj, hr, hct, hop, hd, s_unless, s_first2, firstErr, ne_eq, not_true, hw78, Nat.reduceEqDiff, reduceCtorEq, Nat.reduceAdd, Int.reduceNeg, ↓reduceIte]
      refine hfin (!openB w a p.start q.len) (by rw [htk]; rfl) _ _ ?_
      exact ⟨g0, g2, g4, g10, g76, g77, rfl, rfl, rfl, _, _, rfl⟩
    ·have hd : decide (last < a) = false := decide_eq_false hla
     rw [if_neg hla] at hlast
     rw [hlast]
     simp (maxSteps := 1000000) only [go_sem, b_w_passErr_l0, g0, g4, g7, g10, g12, g76, g77, g78, lt_dec hj, hr, hct, hd, s_unless, s_first2, firstErr, ne_eq, Nat.reduceEqDiff, reduceCtorEq, Nat.reduceAdd, Int.reduceEq, ↓reduceIte]
     rfl
  ·rintro ρ x ⟨g0, g2, g4, g10, g76, g77, g78, ⟨last, g7, hlast⟩, g12, hmem, bx, tk, rfl⟩
   rw [List.drop_length] at hlast
   rw [List.take_length] at hmem g12
   have han0 : anE (w.rq p.req) (-1) p.an.l = 0 := hlast
   have hpin : PIn w p := ⟨h0, h1, by omega, by omega, fun a ha => hq.anin a (hmem a ha), hpo, by omega⟩
   have hcf : ∀ r, callL AP (.fn 86) [OW w, .agg (rowP p), .slice o e (l.map rowP)] (s.push r) = some (B (confs w p l), s.push r) := fun r => w_conflicts (hs.push r) hw hpin hl he (by omega)
   rw [if_pos han0]
   simp only [rowP, Sl.v] at hcf
   generalize (p.an.l.any fun a => !openB w a p.start (w.rq p.req).len) = C at *
   generalize confs w p l = D at *
   simp (maxSteps := 1000000) only [go_sem, b_w_passErr_l0, b_w_passErr_r0, g0, g2, g4, g12, g77, g78, ge_dec, hcf, s_unless, s_first2, Nat.reduceEqDiff, reduceCtorEq, ↓reduceIte]
   cases C <;> cases D <;> rfl
 rw [callL_go (show AP 92 = some c_w_passErr from rfl) rfl]
 cases hlast : l.getLast? with
 | none =>
  have hpn : l = [] := List.getLast?_eq_none_iff.1 hlast
  subst hpn
  have hlr : lastR ([] : List P) = -1 := rfl
  by_cases hA : wi p.req 0 (w.rs.l.length - 1) = true
  ·by_cases hB : -1 < p.req
   ·have hB' : decide (-1 < p.req) = true := decide_eq_true hB
    have hA2 := wi_iff.1 hA
    have h0 : 0 ≤ p.req := hA2.1
    have h1 : p.req < w.rs.l.length := by omega
    have hq := hw.rq h0 h1
    have q0 := hq.lo0
    have q1 := hq.hin
    have q2 := hq.len1
    have q3 := hq.lenhi
    have hrs := ix_rs hw h0 h1
    have hres : passE w p [] = if wi p.start (w.rq p.req).lo ((w.rq p.req).hi + 1 - (w.rq p.req).len) = true then if (p.an.l.length : Int) = (w.rq p.req).need then (if anE (w.rq p.req) (-1) p.an.l = 0 then (if (p.an.l.any fun a => !openB w a p.start (w.rq p.req).len) = true then 21 else if confs w p [] = true then 13 else 0) else anE (w.rq p.req) (-1) p.an.l) else 10 else 2 := by
     unfold passE; rw [if_pos hA, hlr, if_pos hB]
    rw [hres]
    have main := main h0 h1
    have hqa := (hw.ok.an _ (W.rq_mem h0 h1))
    have w1 : IntKind.i64.wrap ((w.rq p.req).hi + 1) = (w.rq p.req).hi + 1 := wrap_id (by omega) (by omega)
    have w2 : IntKind.i64.wrap ((w.rq p.req).hi + 1 - (w.rq p.req).len) = (w.rq p.req).hi + 1 - (w.rq p.req).len := wrap_id (by omega) (by omega)
    simp only [OW, rowP, rowR, Sl.v, List.map_nil] at main hre hrs ⊢
    generalize w.rq p.req = q at *
    obtain ⟨mis, lo, hi, len, val, ⟨oa, ea, an⟩, need⟩ := q
    simp only at *
    simp (maxSteps := 1000000) only [go_sem, b_w_passErr, hs, hre, s_unless, s_first2, hA, hB', firstErr, ne_eq, not_true, wk_2, hrs, w1, w2, s_within, Nat.reduceEqDiff, reduceCtorEq, Nat.reduceAdd, Int.reduceLT, Int.reduceNeg, Int.cast_ofNat_Int, ↓reduceIte]
    cases hC : wi p.start lo (hi + 1 - len) with
    | false => simp (maxSteps := 1000000) only [go_sem, Bool.false_eq_true, Int.reduceEq, Int.reduceNeg, ↓reduceIte]; rfl
    | true =>
     by_cases hD : (p.an.l.length : Int) = need
     ·have hD' : decide ((p.an.l.length : Int) = need) = true := decide_eq_true hD
      have hC2 := wi_iff.1 hC
      simp (maxSteps := 1000000) only [go_sem, hD', not_true, Int.reduceNeg, ↓reduceIte]
      refine (main hC2.1 hC2.2 0 _ _ (Nat.zero_le _) ?_).trans ?_
      ·exact ⟨rfl, rfl, rfl, rfl, rfl, rfl, rfl, ⟨-1, rfl, rfl⟩, rfl, by simp, _, _, rfl⟩
      ·rw [if_pos hD]
     ·have hD' : decide ((p.an.l.length : Int) = need) = false := decide_eq_false hD
      simp (maxSteps := 1000000) only [go_sem, hD, Int.reduceEq, Int.reduceNeg, ↓reduceIte]; rfl
   ·have hB' : decide (-1 < p.req) = false := decide_eq_false hB
    have hres : passE w p [] = 9 := by unfold passE; rw [if_pos hA, hlr, if_neg hB]
    rw [hres]
    simp only [OW, rowP, Sl.v, List.map_nil] at hre ⊢
    simp (maxSteps := 1000000) only [go_sem, b_w_passErr, hre, s_unless, s_first2, hA, hB', firstErr, ne_eq, Nat.reduceEqDiff, reduceCtorEq, Nat.reduceAdd, Int.reduceLT, Int.reduceEq, Int.reduceNeg, Int.cast_ofNat_Int, ↓reduceIte]
    rfl
  ·have hA' : wi p.req 0 (w.rs.l.length - 1) = false := by simpa using hA
   have hres : passE w p [] = 6 := by unfold passE; rw [if_neg hA]
   rw [hres]
   simp only [OW, rowP, Sl.v, List.map_nil] at hre ⊢
   simp (maxSteps := 1000000) only [go_sem, b_w_passErr, hre, s_unless, s_first2, hA', firstErr, ne_eq, Nat.reduceEqDiff, reduceCtorEq, Nat.reduceAdd, Int.reduceLT, Int.reduceEq, Int.reduceNeg, Int.cast_ofNat_Int, ↓reduceIte]
   rfl
 | some a =>
  have hga : l[l.length - 1]? = some a := by rw [← List.getLast?_eq_getElem?]; exact hlast
  have hlr : lastR l = a.req := by simp [lastR, hlast]
  have hne : 0 < l.length := by
   have := (List.getElem?_eq_some_iff.1 hga).1; omega
  have he3 : e = 3 := by rcases he with h | h; (rw [h] at hne; simp at hne); exact h
  subst he3
  have hr := ix_map (f := rowP) (o := o) (es := 3) hga
  have hw1 : IntKind.i64.wrap ((l.length : Int) - 1) = ((l.length - 1 : Nat) : Int) := by rw [wrap_id] <;> omega
  have hd : decide ((0 : Int) < (l.length : Int)) = true := decide_eq_true (by omega)
  simp only [rowP, Sl.v] at hr
  by_cases hA : wi p.req 0 (w.rs.l.length - 1) = true
  ·by_cases hB : a.req < p.req
   ·have hB' : decide (a.req < p.req) = true := decide_eq_true hB
    have hA2 := wi_iff.1 hA
    have h0 : 0 ≤ p.req := hA2.1
    have h1 : p.req < w.rs.l.length := by omega
    have hq := hw.rq h0 h1
    have q0 := hq.lo0
    have q1 := hq.hin
    have q2 := hq.len1
    have q3 := hq.lenhi
    have hrs := ix_rs hw h0 h1
    have hres : passE w p l = if wi p.start (w.rq p.req).lo ((w.rq p.req).hi + 1 - (w.rq p.req).len) = true then if (p.an.l.length : Int) = (w.rq p.req).need then (if anE (w.rq p.req) (-1) p.an.l = 0 then (if (p.an.l.any fun a => !openB w a p.start (w.rq p.req).len) = true then 21 else if confs w p l = true then 13 else 0) else anE (w.rq p.req) (-1) p.an.l) else 10 else 2 := by
     unfold passE; rw [if_pos hA, hlr, if_pos hB]
    rw [hres]
    have main := main h0 h1
    have hqa := (hw.ok.an _ (W.rq_mem h0 h1))
    have w1 : IntKind.i64.wrap ((w.rq p.req).hi + 1) = (w.rq p.req).hi + 1 := wrap_id (by omega) (by omega)
    have w2 : IntKind.i64.wrap ((w.rq p.req).hi + 1 - (w.rq p.req).len) = (w.rq p.req).hi + 1 - (w.rq p.req).len := wrap_id (by omega) (by omega)
    simp only [OW, rowP, rowR, Sl.v] at main hre hrs ⊢
    generalize w.rq p.req = q at *
    obtain ⟨mis, lo, hi, len, val, ⟨oa, ea, an⟩, need⟩ := q
    simp only at *
    simp (maxSteps := 1000000) only [go_sem, b_w_passErr, hs, hre, s_unless, s_first2, hd, hw1, hr, hA, hB', firstErr, ne_eq, not_true, wk_2, hrs, w1, w2, s_within, Nat.reduceEqDiff, reduceCtorEq, Nat.reduceAdd, Int.reduceNeg, ↓reduceIte]
    cases hC : wi p.start lo (hi + 1 - len) with
    | false => simp (maxSteps := 1000000) only [go_sem, Bool.false_eq_true, Int.reduceEq, Int.reduceNeg, ↓reduceIte]; rfl
    | true =>
     by_cases hD : (p.an.l.length : Int) = need
     ·have hD' : decide ((p.an.l.length : Int) = need) = true := decide_eq_true hD
      have hC2 := wi_iff.1 hC
      simp (maxSteps := 1000000) only [go_sem, hD', not_true, Int.reduceNeg, ↓reduceIte]
      refine (main hC2.1 hC2.2 0 _ _ (Nat.zero_le _) ?_).trans ?_
      ·exact ⟨rfl, rfl, rfl, rfl, rfl, rfl, rfl, ⟨-1, rfl, rfl⟩, rfl, by simp, _, _, rfl⟩
      ·rw [if_pos hD]
     ·have hD' : decide ((p.an.l.length : Int) = need) = false := decide_eq_false hD
      simp (maxSteps := 1000000) only [go_sem, hD, Int.reduceEq, Int.reduceNeg, ↓reduceIte]; rfl
   ·have hB' : decide (a.req < p.req) = false := decide_eq_false hB
    have hres : passE w p l = 9 := by unfold passE; rw [if_pos hA, hlr, if_neg hB]
    rw [hres]
    simp only [OW, rowP, Sl.v] at hre ⊢
    simp (maxSteps := 1000000) only [go_sem, b_w_passErr, hre, s_unless, s_first2, hd, hw1, hr, hA, hB', firstErr, ne_eq, Nat.reduceEqDiff, reduceCtorEq, Nat.reduceAdd, Int.reduceEq, Int.reduceNeg, ↓reduceIte]
    rfl
  ·have hA' : wi p.req 0 (w.rs.l.length - 1) = false := by simpa using hA
   have hres : passE w p l = 6 := by unfold passE; rw [if_neg hA]
   rw [hres]
   simp only [OW, rowP, Sl.v] at hre ⊢
   simp (maxSteps := 1000000) only [go_sem, b_w_passErr, hre, s_unless, s_first2, hd, hw1, hr, hA', firstErr, ne_eq, Nat.reduceEqDiff, reduceCtorEq, Nat.reduceAdd, Int.reduceEq, Int.reduceNeg, ↓reduceIte]
   rfl
theorem passE_in (hw : Wk w) {p : P} {l : List P} (hpo : p.an.ok 1) (hpl : (p.an.l.length : Int) < 1000000) (h : passE w p l = 0) : PIn w p ∧ lastR l < p.req ∧ confs w p l = false ∧ (w.rq p.req).lo ≤ p.start ∧ p.start ≤ (w.rq p.req).hi + 1 - (w.rq p.req).len ∧ (p.an.l.length : Int) = (w.rq p.req).need ∧ anE (w.rq p.req) (-1) p.an.l = 0 ∧ (p.an.l.any fun a => !openB w a p.start (w.rq p.req).len) = false := by
 unfold passE at h
 by_cases h1 : wi p.req 0 (w.rs.l.length - 1) = true
 ·rw [if_pos h1] at h
  by_cases h2 : lastR l < p.req
  ·rw [if_pos h2] at h
   by_cases h3 : wi p.start (w.rq p.req).lo ((w.rq p.req).hi + 1 - (w.rq p.req).len) = true
   ·rw [if_pos h3] at h
    by_cases h4 : (p.an.l.length : Int) = (w.rq p.req).need
    ·rw [if_pos h4] at h
     by_cases h5 : anE (w.rq p.req) (-1) p.an.l = 0
     ·rw [if_pos h5] at h
      cases h6 : p.an.l.any fun a => !openB w a p.start (w.rq p.req).len with
      | true => rw [h6, if_pos rfl] at h; omega
      | false =>
       rw [h6, if_neg (by simp)] at h
       cases h7 : confs w p l with
       | true => rw [h7, if_pos rfl] at h; omega
       | false =>
        rw [wi_iff] at h1 h3
        have hq := hw.rq h1.1 (by omega)
        have q0 := hq.lo0
        have q1 := hq.hin
        have q2 := hq.len1
        have q3 := hq.lenhi
        have hn2 := hw.v.n2
        refine ⟨⟨h1.1, by omega, by omega, by omega, fun a ha => hq.anin a (mem_any ((anE_fold (w := w) (st := 0) (len := 0) h5).1 a ha)), hpo, by omega⟩, h2, rfl, h3.1, h3.2, h4, h5, rfl⟩
     ·rw [if_neg h5] at h; exact absurd h h5
    ·rw [if_neg h4] at h; omega
   ·rw [if_neg h3] at h; omega
  ·rw [if_neg h2] at h; omega
 ·rw [if_neg h1] at h; omega
def chkE (w : W) (l : List P) : Int × Int := match firstAt (fun i x => passE w x (l.take i)) 0 l with
 | some (k, e) => (k, e)
 | none => (0, 0)
structure PlOk (l : List P) : Prop where
 len : l.length ≤ 14
 ok : ∀ p ∈ l, p.an.ok 1 ∧ p.an.l.length ≤ 6
theorem firstAt_all {α : Type} {f : Nat → α → Int} : ∀ {l : List α} {k : Nat}, firstAt f k l = none → ∀ (j : Nat) x, l[j]? = some x → f (k + j) x = 0
 | [], _, _, _, _, h => by simp at h
 | a :: r, k, hn, j, x, h => by
  simp only [firstAt] at hn
  by_cases h1 : f k a = 0
  ·rw [if_pos h1] at hn
   cases j with
   | zero => simp at h; subst h; exact h1
   | succ j =>
    have := firstAt_all hn j x (by simpa using h)
    rw [show k + (j + 1) = k + 1 + j by omega]; exact this
  ·rw [if_neg h1] at hn; cases hn
theorem chk_in (hw : Wk w) {l : List P} (hl : PlOk l) (h : (chkE w l).2 = 0) : ∀ (j : Nat) x, l[j]? = some x → passE w x (l.take j) = 0 := by
 unfold chkE at h
 cases hf : firstAt (fun i x => passE w x (l.take i)) 0 l with
 | some q => obtain ⟨k, e⟩ := q; rw [hf] at h; exact absurd h (firstAt_some hf)
 | none =>
  intro j x hj
  have := firstAt_all hf j x hj
  rwa [Nat.zero_add] at this
theorem chk_pin (hw : Wk w) {l : List P} (hl : PlOk l) (h : (chkE w l).2 = 0) : ∀ x ∈ l, PIn w x := fun x hx => by
 obtain ⟨j, hj⟩ := List.getElem?_of_mem hx
 have h1 := hl.ok x hx
 exact (passE_in hw h1.1 (by omega) (chk_in hw hl h j x hj)).1
theorem w_check {l : List P} {o : Own} {e : Nat} (hs : Ok s) (hw : Wk w) (hl : PlOk l) (he : l = [] ∨ e = 3) : callL AP (.fn 62) [OW w, .slice o e (l.map rowP)] s = some (.tuple [I (chkE w l).1, I (chkE w l).2], s) := by
 have hlen := hl.len
 have key : ∀ j ρ x, j ≤ l.length → (ρ 0 = OW w ∧ ρ 1 = .slice o e (l.map rowP) ∧ ρ 9 = .slice o e (l.map rowP) ∧ ρ 10 = I l.length ∧ ρ 11 = I j ∧ (∀ y ∈ l.take j, PIn w y) ∧ ∃ bx, x = s.push ⟨bx, []⟩) →
   go AP f_w_check (.c (.loop b_w_check_l0) :: k_w_check_0) ⟨ρ, x⟩ = some (match firstAt (fun i x => passE w x (l.take i)) j (l.drop j) with | some (k, e) => .tuple [I k, I e] | none => .tuple [I 0, I 0], s) := by
  refine loop_up l.length _ _ ?_ ?_
  ·rintro j ρ x hj ⟨h0, h1, h9, h10, h11, hpin, bx, rfl⟩ ih
   obtain ⟨p, hp⟩ := get_some hj
   have hpk := hl.ok p (List.mem_of_getElem? hp)
   have he3 : e = 3 := by rcases he with h | h; (rw [h] at hp; simp at hp); exact h
   subst he3
   have hr := ix_map (f := rowP) (o := o) (es := 3) hp
   obtain ⟨o', ho'⟩ := slice_take (f := rowP) (o := o) (es := 3) (l := l) (k := j) (by omega)
   have hpe : ∀ r, callL AP (.fn 92) [OW w, .agg (rowP p), .slice o' 3 ((l.take j).map rowP)] (s.push r) = some (I (passE w p (l.take j)), s.push r) := fun r => w_passErr (hs.push r) hw hpk.1 (by omega) hpin (.inr rfl) (by rw [List.length_take]; omega)
   rw [firstAt_get hp]
   simp only [rowP, Sl.v] at hpe
   by_cases hz : passE w p (l.take j) = 0
   ·simp (maxSteps := 1000000) only [go_sem, b_w_check_l0, h0, h1, h9, h10, h11, hs, lt_dec hj, hr, ho', hpe, hz, ne_eq, not_true, wrap_succ hj (show (l.length : Int) < _ by omega), Nat.reduceEqDiff, reduceCtorEq, ↓reduceIte]
    refine ih _ _ ?_
    refine ⟨h0, h1, h9, h10, rfl, fun y hy => ?_, _, rfl⟩
    rw [take_get hp] at hy
    rcases List.mem_append.1 hy with h | h
    ·exact hpin y h
    ·simp at h; subst h; exact (passE_in hw hpk.1 (by omega) hz).1
   ·have hd : decide (passE w p (l.take j) = 0) = false := decide_eq_false hz
    simp (maxSteps := 1000000) only [go_sem, b_w_check_l0, h0, h1, h9, h10, h11, hs, lt_dec hj, hr, ho', hpe, hz, ne_eq, not_false_iff, Nat.reduceEqDiff, reduceCtorEq, ↓reduceIte]
  ·rintro ρ x ⟨h0, h1, h9, h10, h11, hpin, bx, rfl⟩
   simp (maxSteps := 1000000) only [go_sem, b_w_check_l0, b_w_check_r0, h10, h11, ge_dec, Nat.reduceEqDiff, ↓reduceIte]
   rw [List.drop_length]; rfl
 rw [callL_go (show AP 62 = some c_w_check from rfl) rfl]
 simp (maxSteps := 1000000) only [go_sem, b_w_check, Nat.reduceEqDiff, ↓reduceIte]
 refine (key 0 _ _ (Nat.zero_le _) ?_).trans ?_
 ·exact ⟨rfl, rfl, rfl, rfl, rfl, by simp, _, rfl⟩
 ·unfold chkE
  rw [List.drop_zero]
  cases firstAt (fun i x => passE w x (l.take i)) 0 l with
  | none => rfl
  | some q => obtain ⟨k, e⟩ := q; rfl
def planE (w : W) (l : List P) : Int × Int := if (weekE w).2.2 = 0 then chkE w l else (0, (weekE w).2.2)
theorem s_openPlan {l : List P} {o : Own} {e : Nat} (hs : Ok s) (hw : w.Ok) (hf : w.Few) (hl : PlOk l) (he : l = [] ∨ e = 3) : callL AP (.fn 35) [w.v, .slice o e (l.map rowP)] s = some (.tuple [if (weekE w).2.2 = 0 then OW w else NP, I (planE w l).1, I (planE w l).2], s) := by
 unfold planE
 rw [callL_go (show AP 35 = some c_s_openPlan from rfl) rfl]
 by_cases hz : (weekE w).2.2 = 0
 ·have hwk : Wk w := ⟨hw, hf, weekE_ok hz⟩
  have ho : ∀ r, callL AP (.fn 52) [w.v] (s.push r) = some (.tuple [OW w, I 0], s.push r) := fun r => s_open (hs.push r) hw hf hz
  have hc : ∀ r, callL AP (.fn 62) [OW w, .slice o e (l.map rowP)] (s.push r) = some (.tuple [I (chkE w l).1, I (chkE w l).2], s.push r) := fun r => w_check (hs.push r) hwk hl he
  rw [if_pos hz, if_pos hz]
  simp only [W.v, rowW, Sl.v] at ho
  simp only [OW] at ho hc ⊢
  simp (maxSteps := 1000000) only [go_sem, b_s_openPlan, ho, hc, ne_eq, not_true, Nat.reduceEqDiff, Nat.reduceAdd, ↓reduceIte]
 ·have ho : ∀ r, callL AP (.fn 52) [w.v] (s.push r) = some (.tuple [NP, I (weekE w).2.2], s.push r) := fun r => s_open_bad (hs.push r) hw hf hz
  rw [if_neg hz, if_neg hz]
  simp only [W.v, rowW, Sl.v] at ho
  simp (maxSteps := 1000000) only [go_sem, b_s_openPlan, ho, ne_eq, hz, not_false_iff, Nat.reduceEqDiff, Nat.reduceAdd, ↓reduceIte]
end
end Go.Ax.Sx.Sc

namespace Go.Ax.Sx.Sc
open Go.Ax
set_option linter.unusedSimpArgs false
set_option linter.unusedVariables false
def shareF (a b : Nat) : Int × Int := if b = 0 then (0, 1) else (((a / Nat.gcd a b : Nat) : Int), ((b / Nat.gcd a b : Nat) : Int))
def askF (mi : ByteArray) : List R → Nat
 | [] => 0
 | r :: t => (if r.mis = mi then r.len.toNat else 0) + askF mi t
def graF (l : List P) (mi : ByteArray) : Nat → List R → Nat
 | _, [] => 0
 | k, r :: t => (if r.mis = mi then (if (pOf l (k : Int)).isSome = true then r.len.toNat else 0) else 0) + graF l mi (k + 1) t
section
variable {s : Sig} {w : W}
theorem ar_rem_n {a b : Nat} (hb : 0 < b) : arithOp .rem (I (a : Int)) (I (b : Int)) = some (I ((a % b : Nat) : Int)) := by
 have h : (((b : Int)) == 0) = false := by simp; omega
 rw [ar_rem h]
 congr 3
theorem ar_quo_n {a b : Nat} (hb : 0 < b) (ha : (a : Int) < 9223372036854775808) : arithOp .quo (I (a : Int)) (I (b : Int)) = some (I ((a / b : Nat) : Int)) := by
 have h : (((b : Int)) == 0) = false := by simp; omega
 rw [ar_quo h]
 have e : ((a : Int)).tdiv (b : Int) = ((a / b : Nat) : Int) := by
  rw [Int.tdiv_eq_ediv_of_nonneg (by omega)]; simp
 have hl : a / b ≤ a := Nat.div_le_self _ _
 rw [e]
 generalize a / b = q at *
 rw [wrap_id (by omega) (by omega)]
theorem s_share {a b : Nat} (hs : Ok s) (ha : (a : Int) < 9223372036854775808) (hb : (b : Int) < 9223372036854775808) : callL AP (.fn 37) [I (a : Int), I (b : Int)] s = some (.agg [I (shareF a b).1, I (shareF a b).2], s) := by
 have key : ∀ (n x y : Nat) ρ m, y ≤ n → Nat.gcd x y = Nat.gcd a b → 0 < b → (ρ 0 = I (a : Int) ∧ ρ 1 = I (b : Int) ∧ ρ 4 = .ptr s.acts.length 0 0 ∧ ρ 5 = I (x : Int) ∧ ρ 6 = I (y : Int) ∧ m = s.push ⟨[[I 0, I 0]], []⟩) → go AP f_s_share (.c (.loop b_s_share_l0) :: k_s_share_0) ⟨ρ, m⟩ = some (.agg [I (shareF a b).1, I (shareF a b).2], s) := by
  intro n
  induction n with
  | zero =>
   rintro x y ρ m hy hg hb0 ⟨h0, h1, h4, h5, h6, rfl⟩
   have hy0 : y = 0 := by omega
   subst hy0
   have hx : x = Nat.gcd a b := by rw [← hg]; simp
   have hxp : 0 < x := by rw [hx]; exact Nat.gcd_pos_of_pos_right _ hb0
   have q1 := ar_quo_n (a := a) hxp ha
   have q2 := ar_quo_n (a := b) hxp hb
   rw [go_loop]
   simp (maxSteps := 1000000) only [go_sem, b_s_share_l0, b_s_share_r0, h0, h1, h4, h5, h6, hs, ne_eq, not_true, q1, q2, Nat.reduceEqDiff, reduceCtorEq, Int.cast_ofNat_Int, ↓reduceIte]
   rw [hx, shareF, if_neg (by omega)]
  | succ n ih =>
   rintro x y ρ m hy hg hb0 ⟨h0, h1, h4, h5, h6, rfl⟩
   by_cases hy0 : y = 0
   ·exact ih x y ρ _ (by omega) hg hb0 ⟨h0, h1, h4, h5, h6, rfl⟩
   ·have hr := ar_rem_n (a := x) (b := y) (by omega)
    have hd : decide ((y : Int) = 0) = false := decide_eq_false (by omega)
    rw [go_loop]
    simp (maxSteps := 1000000) only [go_sem, b_s_share_l0, h5, h6, ne_eq, decide_not, hd, hr, Nat.reduceEqDiff, ↓reduceIte]
    refine ih y (x % y) _ _ (by have := Nat.mod_lt x (show 0 < y by omega); omega) ?_ hb0 ?_
    ·rw [← hg, Nat.gcd_comm x y, Nat.gcd_rec y x, Nat.gcd_comm]
    ·exact ⟨h0, h1, h4, rfl, rfl, rfl⟩
 rw [callL_go (show AP 37 = some c_s_share from rfl) rfl]
 by_cases hb0 : b = 0
 ·subst hb0
  simp (maxSteps := 1000000) only [go_sem, b_s_share, hs, Nat.reduceEqDiff, Int.cast_ofNat_Int, ↓reduceIte]
  rfl
 ·have hd : decide ((b : Int) = 0) = false := decide_eq_false (by omega)
  simp (maxSteps := 1000000) only [go_sem, b_s_share, hd, Nat.reduceEqDiff, reduceCtorEq, ↓reduceIte]
  exact key b a b _ _ (Nat.le_refl _) rfl (by omega) ⟨rfl, rfl, rfl, rfl, rfl, rfl⟩
theorem askF_app {mi : ByteArray} : ∀ {l r : List R}, askF mi (l ++ r) = askF mi l + askF mi r
 | [], r => by simp [askF]
 | i :: l, r => by simp only [List.cons_append, askF, askF_app]; omega
theorem graF_app {p : List P} {mi : ByteArray} : ∀ {l r : List R} {k : Nat}, graF p mi k (l ++ r) = graF p mi k l + graF p mi (k + l.length) r
 | [], r, k => by simp [graF]
 | i :: l, r, k => by simp only [List.cons_append, graF, graF_app, List.length_cons]; rw [show k + 1 + l.length = k + (l.length + 1) by omega]; omega
theorem askF_bd {mi : ByteArray} : ∀ {l : List R}, (∀ r ∈ l, r.len ≤ 200) → askF mi l ≤ 200 * l.length
 | [], _ => by simp [askF]
 | r :: t, h => by
  have h1 := askF_bd (mi := mi) (l := t) fun x hx => h x (List.mem_cons_of_mem _ hx)
  have h2 := h r (List.mem_cons_self ..)
  simp only [askF, List.length_cons]
  split <;> omega
theorem graF_bd {p : List P} {mi : ByteArray} : ∀ {l : List R} {k : Nat}, (∀ r ∈ l, r.len ≤ 200) → graF p mi k l ≤ 200 * l.length
 | [], _, _ => by simp [graF]
 | r :: t, k, h => by
  have h1 := graF_bd (p := p) (mi := mi) (l := t) (k := k + 1) fun x hx => h x (List.mem_cons_of_mem _ hx)
  have h2 := h r (List.mem_cons_self ..)
  simp only [graF, List.length_cons]
  split
  ·split <;> omega
  ·omega
def shareE (w : W) (l : List P) (mi : ByteArray) : Int × Int × Int :=
 if (planE w l).2 = 0 then
  if askF mi w.rs.l = 0 then (0, 0, 6) else ((shareF (graF l mi 0 w.rs.l) (askF mi w.rs.l)).1, (shareF (graF l mi 0 w.rs.l) (askF mi w.rs.l)).2, 0)
 else (0, 0, (planE w l).2)
theorem s_ShareOf {l : List P} {o : Own} {e : Nat} {mi : ByteArray} (hs : Ok s) (hw : w.Ok) (hf : w.Few) (hl : PlOk l) (he : l = [] ∨ e = 3) : callL AP (.fn 16) [w.v, .slice o e (l.map rowP), S mi] s = some (.tuple [.agg [I (shareE w l mi).1, I (shareE w l mi).2.1], I (shareE w l mi).2.2], s) := by
 have hlen := hl.len
 have ho : ∀ r, callL AP (.fn 35) [w.v, .slice o e (l.map rowP)] (s.push r) = some (.tuple [if (weekE w).2.2 = 0 then OW w else NP, I (planE w l).1, I (planE w l).2], s.push r) := fun r => s_openPlan (hs.push r) hw hf hl he
 have hpo : ∀ i r, callL AP (.fn 36) [.slice o e (l.map rowP), I i] (s.push r) = some (.tuple [.agg (rowP ((pOf l i).getD zeroP)), B (pOf l i).isSome], s.push r) := fun i r => s_passOf (hs.push r) he (by omega) fun p h => (hl.ok p h).1
 rw [callL_go (show AP 16 = some c_s_ShareOf from rfl) rfl]
 unfold shareE
 by_cases hz : (planE w l).2 = 0
 ·have hwe : (weekE w).2.2 = 0 := by
   unfold planE at hz
   by_cases h : (weekE w).2.2 = 0
   ·exact h
   ·rw [if_neg h] at hz; exact absurd hz h
  have hv := weekE_ok hwe
  have hrl := hv.rl
  have hl200 : ∀ r ∈ w.rs.l, r.len ≤ 200 := fun r hr => by
   have := hv.r r hr
   have := this.lenhi
   have := (hv.r r hr).lo0
   have := (hv.r r hr).hin
   have := hv.n2
   omega
  have ha := askF_bd (mi := mi) hl200
  have hg := graF_bd (p := l) (mi := mi) (k := 0) hl200
  have hsh : ∀ r, callL AP (.fn 37) [I (graF l mi 0 w.rs.l : Int), I (askF mi w.rs.l : Int)] (s.push r) = some (.agg [I (shareF (graF l mi 0 w.rs.l) (askF mi w.rs.l)).1, I (shareF (graF l mi 0 w.rs.l) (askF mi w.rs.l)).2], s.push r) := fun r => s_share (hs.push r) (by omega) (by omega)
  have key : ∀ j ρ x, j ≤ w.rs.l.length → (ρ 1 = .slice o e (l.map rowP) ∧ ρ 2 = S mi ∧ ρ 6 = .ptr s.acts.length 1 0 ∧ ρ 11 = I (graF l mi 0 (w.rs.l.take j) : Int) ∧ ρ 12 = I (askF mi (w.rs.l.take j) : Int) ∧ ρ 29 = .slice w.rs.o w.rs.e (w.rs.l.map rowR) ∧ ρ 30 = I w.rs.l.length ∧ ρ 31 = I j ∧ ∃ b0 bx, x = s.push ⟨b0 :: [I 0, I 0] :: bx, []⟩) →
    go AP f_s_ShareOf (.c (.loop b_s_ShareOf_l0) :: k_s_ShareOf_0) ⟨ρ, x⟩ = some (.tuple [.agg [I (if askF mi w.rs.l = 0 then ((0 : Int), (0 : Int), (6 : Int)) else ((shareF (graF l mi 0 w.rs.l) (askF mi w.rs.l)).1, (shareF (graF l mi 0 w.rs.l) (askF mi w.rs.l)).2, 0)).1, I (if askF mi w.rs.l = 0 then ((0 : Int), (0 : Int), (6 : Int)) else ((shareF (graF l mi 0 w.rs.l) (askF mi w.rs.l)).1, (shareF (graF l mi 0 w.rs.l) (askF mi w.rs.l)).2, 0)).2.1], I (if askF mi w.rs.l = 0 then ((0 : Int), (0 : Int), (6 : Int)) else ((shareF (graF l mi 0 w.rs.l) (askF mi w.rs.l)).1, (shareF (graF l mi 0 w.rs.l) (askF mi w.rs.l)).2, 0)).2.2], s) := by
   refine loop_up w.rs.l.length _ _ ?_ ?_
   ·rintro j ρ x hj ⟨h1, h2, h6, h11, h12, h29, h30, h31, b0, bx, rfl⟩ ih
    obtain ⟨r, hr1⟩ := get_some hj
    have hrm := List.mem_of_getElem? hr1
    have hr := Sl.ix (f := rowR) hw.rs hr1
    have hrv := hv.r r hrm
    have hr200 := hl200 r hrm
    have hr1' := hrv.len1
    have hp := hpo (j : Int)
    have hta := askF_bd (mi := mi) (l := w.rs.l.take j) fun x hx => hl200 x (List.mem_of_mem_take hx)
    have htg := graF_bd (p := l) (mi := mi) (l := w.rs.l.take j) (k := 0) fun x hx => hl200 x (List.mem_of_mem_take hx)
    have htl : (w.rs.l.take j).length = j := by rw [List.length_take]; omega
    have hak : askF mi (w.rs.l.take (j + 1)) = askF mi (w.rs.l.take j) + (if r.mis = mi then r.len.toNat else 0) := by rw [take_get hr1, askF_app]; simp [askF]
    have hgk : graF l mi 0 (w.rs.l.take (j + 1)) = graF l mi 0 (w.rs.l.take j) + (if r.mis = mi then (if (pOf l (j : Int)).isSome = true then r.len.toNat else 0) else 0) := by rw [take_get hr1, graF_app, htl]; simp [graF]
    have hwj := wrap_succ hj (show (w.rs.l.length : Int) < _ by omega)
    simp only [rowP, Sl.v] at hp hr
    by_cases hm : r.mis = mi
    ·rw [if_pos hm] at hak hgk
     have hd : decide (r.mis = mi) = true := decide_eq_true hm
     have w1 : IntKind.i64.wrap ((askF mi (w.rs.l.take j) : Int) + r.len) = ((askF mi (w.rs.l.take (j + 1)) : Nat) : Int) := by rw [hak, wrap_id (by omega) (by omega)]; omega
     cases hso : (pOf l (j : Int)).isSome with
     | true =>
      rw [hso] at hp
      rw [hso, if_pos rfl] at hgk
      have w2 : IntKind.i64.wrap ((graF l mi 0 (w.rs.l.take j) : Int) + r.len) = ((graF l mi 0 (w.rs.l.take (j + 1)) : Nat) : Int) := by rw [hgk, wrap_id (by omega) (by omega)]; omega
      simp (maxSteps := 1000000) only [go_sem, b_s_ShareOf_l0, h1, h2, h11, h12, h29, h30, h31, hs, lt_dec hj, hr, ne_eq, decide_not, hd, hp, w1, w2, hwj, Nat.reduceEqDiff, Nat.reduceAdd, ↓reduceIte]
      refine ih _ _ ?_
      exact ⟨h1, h2, h6, rfl, rfl, h29, h30, rfl, _, _, rfl⟩
     | false =>
      rw [hso] at hp
      rw [hso, if_neg (by simp), Nat.add_zero] at hgk
      simp (maxSteps := 1000000) only [go_sem, b_s_ShareOf_l0, h1, h2, h12, h29, h30, h31, hs, lt_dec hj, hr, ne_eq, decide_not, hd, hp, w1, hwj, Nat.reduceEqDiff, Nat.reduceAdd, ↓reduceIte]
      refine ih _ _ ?_
      exact ⟨h1, h2, h6, by rw [hgk]; exact h11, rfl, h29, h30, rfl, _, _, rfl⟩
    ·rw [if_neg hm, Nat.add_zero] at hak hgk
     have hd : decide (r.mis = mi) = false := decide_eq_false hm
     simp (maxSteps := 1000000) only [go_sem, b_s_ShareOf_l0, h2, h29, h30, h31, hs, lt_dec hj, hr, ne_eq, decide_not, hd, hwj, Nat.reduceEqDiff, Nat.reduceAdd, ↓reduceIte]
     refine ih _ _ ?_
     exact ⟨h1, h2, h6, by rw [hgk]; exact h11, by rw [hak]; exact h12, h29, h30, rfl, _, _, rfl⟩
   ·rintro ρ x ⟨h1, h2, h6, h11, h12, h29, h30, h31, b0, bx, rfl⟩
    rw [List.take_length] at h11 h12
    by_cases hk : askF mi w.rs.l = 0
    ·have hd : decide ((askF mi w.rs.l : Int) = 0) = true := decide_eq_true (by omega)
     simp only [hk, if_true]
     simp (maxSteps := 1000000) only [go_sem, b_s_ShareOf_l0, b_s_ShareOf_r0, h6, h12, h30, h31, hs, ge_dec, hd, Nat.reduceEqDiff, ↓reduceIte]
    ·have hd : decide ((askF mi w.rs.l : Int) = 0) = false := decide_eq_false (by omega)
     simp only [hk, if_false]
     simp (maxSteps := 1000000) only [go_sem, b_s_ShareOf_l0, b_s_ShareOf_r0, h6, h11, h12, h30, h31, hs, ge_dec, hd, hsh, Nat.reduceEqDiff, ↓reduceIte]
  rw [if_pos hwe, hz] at ho
  rw [if_pos hz]
  simp only [W.v, rowW, Sl.v] at ho
  simp (maxSteps := 1000000) only [go_sem, b_s_ShareOf, ho, ne_eq, not_true, Nat.reduceEqDiff, Nat.reduceAdd, ↓reduceIte]
  refine key 0 _ _ (Nat.zero_le _) ?_
  exact ⟨rfl, rfl, rfl, rfl, rfl, rfl, rfl, rfl, _, _, rfl⟩
 ·simp only [W.v, rowW, Sl.v] at ho
  rw [if_neg hz]
  simp (maxSteps := 1000000) only [go_sem, b_s_ShareOf, hs, ho, ne_eq, hz, not_false_iff, Nat.reduceEqDiff, Nat.reduceAdd, ↓reduceIte]
end
end Go.Ax.Sx.Sc

namespace Go.Ax.Sx.Sc
open Go.Ax
set_option linter.unusedSimpArgs false
set_option linter.unusedVariables false
def tx (l : List UInt8) : ByteArray := ⟨l.toArray⟩
theorem tx_app {a b : List UInt8} : tx a ++ tx b = tx (a ++ b) := by
 apply ByteArray.ext
 show (tx a ++ tx b).data = _
 simp [tx]
theorem tx_size {a : List UInt8} : (tx a).size = a.length := by simp [tx, ByteArray.size]
theorem ar_adds {a b : List UInt8} (h : a.length + b.length ≤ 100000000) : arithOp .add (S (tx a)) (S (tx b)) = some (S (tx (a ++ b))) := by
 have h2 : ¬ ((((tx a).size + (tx b).size : Nat) : Int) > IntKind.i64.max) := by
  have : IntKind.i64.max = 9223372036854775807 := by decide
  rw [this, tx_size, tx_size]; omega
 show Option.map AV.v (strOp .add (tx a) (tx b)) = _
 unfold strOp
 simp only [h2, if_false, tx_app]
 rfl
def Small (p : P) : Prop := (0 ≤ p.req ∧ p.req < 100) ∧ (0 ≤ p.start ∧ p.start < 100) ∧ p.an.l.length ≤ 1000 ∧ ∀ a ∈ p.an.l, 0 ≤ a ∧ a < 100
def antW : List Int → List UInt8
 | [] => []
 | a :: r => 43 :: dig2 a.toNat ++ antW r
def wordP (p : P) : List UInt8 := dig2 p.req.toNat ++ [64] ++ dig2 p.start.toNat ++ antW p.an.l
def fmtP (l : List P) : List UInt8 := [32].intercalate (l.map wordP)
theorem dig2_len {n : Nat} : (dig2 n).length ≤ 2 := by unfold dig2; split <;> simp
theorem antW_len : ∀ {l : List Int}, (antW l).length ≤ 3 * l.length
 | [] => by simp [antW]
 | a :: r => by
  have h1 := antW_len (l := r)
  have h2 := dig2_len (n := a.toNat)
  simp only [antW, List.length_cons, List.length_append]; omega
theorem antW_app : ∀ {l r : List Int}, antW (l ++ r) = antW l ++ antW r
 | [], r => rfl
 | a :: l, r => by simp only [List.cons_append, antW, antW_app, List.append_assoc]
section
variable {s : Sig} {w : W}
theorem itoa {n : Int} (h0 : 0 ≤ n) (h1 : n < 100) : callL AP (.fn 18) [I n] s = some (S (tx (dig2 n.toNat)), s) := by
 rw [callL_prim (show AP 18 = some pItoaA from rfl)]
 simp only [closeAll_cons, closeAll_nil, close_int, Option.bind_some, Option.map_some, itoaAF]
 rw [if_pos ⟨h0, h1⟩]; rfl
theorem strings_rows : ∀ {ls : List (List UInt8)}, stringsOf (ls.map fun x => [S (tx x)]) = some ls
 | [] => rfl
 | a :: r => by
  simp only [List.map_cons, stringsOf, strings_rows (ls := r), Option.map_some]
  simp [tx]
theorem join {x : AV} {ls : List (List UInt8)} {es : Nat} (hx : x.close = some (accV es (ls.map fun x => [S (tx x)]))) (h1 : ls.length ≤ 1000000) (h2 : ([32].intercalate ls).length ≤ 1000000) :
  callL AP (.fn 19) [x, S (tx [32])] s = some (S (tx ([32].intercalate ls)), s) := by
 rw [callL_prim (show AP 19 = some pJoin from rfl)]
 simp only [closeAll_cons, closeAll_nil, hx, close_str, Option.bind_some, Option.map_some]
 have hs : stringsOf (ls.map fun x => [S (tx x)]) = some ls := strings_rows
 have ht : (tx [32]).data.toList = [32] := by simp [tx]
 cases ls with
 | nil => simp only [List.map_nil, accV, joinF, stringsOf, Option.bind_some, ht]; rfl
 | cons a r =>
  simp only [List.map_cons, accV, joinF]
  simp only [List.map_cons] at hs
  rw [hs]
  simp only [Option.bind_some, ht]
  rw [if_pos ⟨h1, h2⟩]; rfl
theorem wordP_len {p : P} (h : Small p) : (wordP p).length ≤ 3010 := by
 have h1 := dig2_len (n := p.req.toNat)
 have h2 := dig2_len (n := p.start.toNat)
 have h3 := antW_len (l := p.an.l)
 have h4 := h.2.2.1
 simp only [wordP, List.length_append, List.length_singleton]; omega
theorem inter_len : ∀ {ls : List (List UInt8)} {m : Nat}, (∀ x ∈ ls, x.length ≤ m) → ([32].intercalate ls).length ≤ (m + 1) * ls.length
 | [], m, _ => by simp [List.intercalate]
 | [a], m, h => by
  have := h a (by simp)
  simp [List.intercalate]; omega
 | a :: b :: r, m, h => by
  have h1 := inter_len (ls := b :: r) (m := m) fun x hx => h x (List.mem_cons_of_mem _ hx)
  have h2 := h a (by simp)
  have e : [32].intercalate (a :: b :: r) = a ++ [32] ++ [32].intercalate (b :: r) := by simp [List.intercalate, List.intersperse]
  have e2 : (a :: b :: r).length = (b :: r).length + 1 := rfl
  have e3 : (m + 1) * ((b :: r).length + 1) = (m + 1) * (b :: r).length + (m + 1) := by rw [Nat.mul_add, Nat.mul_one]
  have e4 : (a ++ [32] ++ [32].intercalate (b :: r)).length = a.length + 1 + ([32].intercalate (b :: r)).length := by rw [List.length_append, List.length_append]; rfl
  rw [e, e2, e3, e4]
  omega
theorem s_FormatPlan {l : List P} {o : Own} {e : Nat} (hs : Ok s) (he : l = [] ∨ e = 3) (hl : l.length ≤ 100) (hok : ∀ p ∈ l, p.an.ok 1 ∧ Small p) : callL AP (.fn 7) [.slice o e (l.map rowP)] s = some (S (tx (fmtP l)), s) := by
 have key : ∀ (j : Nat) ρ x, j ≤ l.length → (ρ 9 = .slice o e (l.map rowP) ∧ ρ 10 = I l.length ∧ ρ 11 = I j ∧ ∃ og tk bx, Acc s.acts.length 1 (((l.take j).map wordP).map fun x => [S (tx x)]) (ρ 3) og tk ∧ x = s.push ⟨bx, tk⟩) → go AP f_s_FormatPlan (.c (.loop b_s_FormatPlan_l0) :: k_s_FormatPlan_0) ⟨ρ, x⟩ = some (S (tx (fmtP l)), s) := by
  refine loop_up l.length _ _ ?_ ?_
  ·rintro j ρ x hj ⟨h9, h10, h11, og, tk, bx, hA, rfl⟩ ih
   obtain ⟨p, hp⟩ := get_some hj
   have hpk := hok p (List.mem_of_getElem? hp)
   obtain ⟨⟨a1, a2⟩, ⟨a3, a4⟩, a5, a6⟩ := hpk.2
   have he3 : e = 3 := by rcases he with h | h; (rw [h] at hp; simp at hp); exact h
   subst he3
   have hr := ix_map (f := rowP) (o := o) (es := 3) hp
   have d1 := dig2_len (n := p.req.toNat)
   have d2 := dig2_len (n := p.start.toNat)
   have i1 : ∀ q : Sig, callL AP (.fn 18) [I p.req] q = some (S (tx (dig2 p.req.toNat)), q) := fun q => itoa a1 a2
   have i2 : ∀ q : Sig, callL AP (.fn 18) [I p.start] q = some (S (tx (dig2 p.start.toNat)), q) := fun q => itoa a3 a4
   have s1 : arithOp .add (S (tx (dig2 p.req.toNat))) (S ⟨#[64]⟩) = some (S (tx (dig2 p.req.toNat ++ [64]))) := ar_adds (by simp; omega)
   have s2 : arithOp .add (S (tx (dig2 p.req.toNat ++ [64]))) (S (tx (dig2 p.start.toNat))) = some (S (tx (dig2 p.req.toNat ++ [64] ++ dig2 p.start.toNat))) := ar_adds (by simp; omega)
   have hwj := wrap_succ hj (show (l.length : Int) < _ by omega)
   have kin : ∀ (q : Nat) ρ x, q ≤ p.an.l.length → ((∃ y, ρ 6 = S y ∧ y = tx (dig2 p.req.toNat ++ [64] ++ dig2 p.start.toNat ++ antW (p.an.l.take q))) ∧ ρ 9 = .slice o 3 (l.map rowP) ∧ ρ 10 = I l.length ∧ ρ 11 = I j ∧ ρ 24 = p.an.v rowI ∧ ρ 25 = I p.an.l.length ∧ ρ 26 = I q ∧
     ∃ og tk bx, Acc s.acts.length 1 (((l.take j).map wordP).map fun x => [S (tx x)]) (ρ 3) og tk ∧ x = s.push ⟨bx, tk⟩) → go AP f_s_FormatPlan (.c (.loop b_s_FormatPlan_l1) :: k_s_FormatPlan_1) ⟨ρ, x⟩ = some (S (tx (fmtP l)), s) := by
    refine loop_up p.an.l.length _ _ ?_ ?_
    ·rintro q ρ x hq ⟨⟨y, h6, hy⟩, h9, h10, h11, h24, h25, h26, og, tk, bx, hA, rfl⟩ ih2
     obtain ⟨a, ha⟩ := get_some hq
     have ham := a6 a (List.mem_of_getElem? ha)
     have hr := Sl.ix (f := rowI) hpk.1 ha
     have d3 := dig2_len (n := a.toNat)
     have d4 := antW_len (l := p.an.l.take q)
     have d5 : (p.an.l.take q).length ≤ 1000 := by rw [List.length_take]; omega
     have i3 : ∀ m : Sig, callL AP (.fn 18) [I a] m = some (S (tx (dig2 a.toNat)), m) := fun m => itoa ham.1 ham.2
     have s3 : arithOp .add (S ⟨#[43]⟩) (S (tx (dig2 a.toNat))) = some (S (tx ([43] ++ dig2 a.toNat))) := ar_adds (a := [43]) (by simp; omega)
     have s4 : arithOp .add (S (tx (dig2 p.req.toNat ++ [64] ++ dig2 p.start.toNat ++ antW (p.an.l.take q)))) (S (tx ([43] ++ dig2 a.toNat))) = some (S (tx (dig2 p.req.toNat ++ [64] ++ dig2 p.start.toNat ++ antW (p.an.l.take q) ++ ([43] ++ dig2 a.toNat)))) := ar_adds (by simp only [List.length_append, List.length_singleton]; omega)
     rw [← hy] at s4
     obtain ⟨z3, hz3⟩ : ∃ z, tx ([43] ++ dig2 a.toNat) = z := ⟨_, rfl⟩
     obtain ⟨z4, hz4⟩ : ∃ z, tx (dig2 p.req.toNat ++ [64] ++ dig2 p.start.toNat ++ antW (p.an.l.take q) ++ ([43] ++ dig2 a.toNat)) = z := ⟨_, rfl⟩
     rw [hz3] at s3 s4
     rw [hz4] at s4
     simp only [Sl.v] at h24 hr
     simp (maxSteps := 1000000) only [go_sem, b_s_FormatPlan_l1, h6, h24, h25, h26, lt_dec hq, hr, i3, s3, s4, wrap_succ hq (show (p.an.l.length : Int) < _ by omega), Nat.reduceEqDiff, ↓reduceIte]
     refine ih2 _ _ ?_
     refine ⟨⟨z4, rfl, ?_⟩, h9, h10, h11, by simp only [Sl.v]; exact h24, h25, rfl, og, tk, _, hA, rfl⟩
     rw [take_get ha, antW_app, ← hz4]
     simp [antW]
    ·rintro ρ x ⟨⟨y, h6, hy⟩, h9, h10, h11, h24, h25, h26, og, tk, bx, hA, rfl⟩
     rw [List.take_length] at hy
     rw [hy] at h6
     have hll : (l.take j).length ≤ 100 := by rw [List.length_take]; omega
     obtain ⟨x', og', tk', ha1, ha2, _⟩ := hA.append hs .full (ys := [[S (tx (wordP p))]]) (by simp) (by simp; omega)
     have h6' : ρ 6 = S (tx (wordP p)) := h6
     obtain ⟨z5, hz5⟩ : ∃ z, tx (wordP p) = z := ⟨_, rfl⟩
     rw [hz5] at h6' ha1 ha2
     simp (maxSteps := 1000000) only [go_sem, b_s_FormatPlan_l1, b_s_FormatPlan_r2, b_s_FormatPlan_r1, h6', h11, h25, h26, ge_dec, ha1, hwj, Nat.reduceEqDiff, ↓reduceIte]
     refine ih _ _ ?_
     refine ⟨h9, h10, rfl, og', tk', _, ?_, rfl⟩
     rw [take_get hp, List.map_append, List.map_append, List.map_singleton, List.map_singleton, hz5]; exact ha2
   simp only [rowP, Sl.v] at hr kin
   obtain ⟨z1, hz1⟩ : ∃ z, tx (dig2 p.req.toNat ++ [64]) = z := ⟨_, rfl⟩
   obtain ⟨z2, hz2⟩ : ∃ z, tx (dig2 p.req.toNat ++ [64] ++ dig2 p.start.toNat) = z := ⟨_, rfl⟩
   rw [hz1] at s1 s2
   rw [hz2] at s2
   simp (maxSteps := 1000000) only [go_sem, b_s_FormatPlan_l0, h9, h10, h11, hs, lt_dec hj, hr, i1, i2, s1, s2, Nat.reduceEqDiff, Nat.reduceAdd, ↓reduceIte]
   refine kin 0 _ _ (Nat.zero_le _) ?_
   refine ⟨⟨z2, rfl, ?_⟩, h9, h10, h11, rfl, rfl, rfl, og, tk, _, hA, rfl⟩
   rw [show p.an.l.take 0 = [] from rfl, antW, List.append_nil, hz2]
  ·rintro ρ x ⟨h9, h10, h11, og, tk, bx, hA, rfl⟩
   rw [List.take_length] at hA
   have hj : ∀ q : Sig, callL AP (.fn 19) [ρ 3, S ⟨#[32]⟩] q = some (S (tx (fmtP l)), q) := fun q => join hA.close (by simp; omega) (by
    have h1 := inter_len (ls := l.map wordP) (m := 3010) fun x hx => by
     obtain ⟨p, hp, rfl⟩ := List.mem_map.1 hx
     exact wordP_len (hok p hp).2
    rw [List.length_map] at h1
    have h2 := Nat.mul_le_mul_left 3011 hl
    omega)
   simp (maxSteps := 1000000) only [go_sem, b_s_FormatPlan_l0, b_s_FormatPlan_r0, h10, h11, ge_dec, hj, Nat.reduceEqDiff, ↓reduceIte]
 rw [callL_go (show AP 7 = some c_s_FormatPlan from rfl) rfl]
 simp (maxSteps := 1000000) only [go_sem, b_s_FormatPlan, reduceCtorEq, ↓reduceIte]
 refine key 0 _ _ (Nat.zero_le _) ?_
 exact ⟨rfl, rfl, rfl, none, [], [], Acc.start, rfl⟩
def WK : W := ⟨10, ⟨.full, 3, [⟨⟨#[97]⟩, 1, ⟨.full, 2, [(4, 4)]⟩⟩, ⟨⟨#[98]⟩, 0, ⟨.nilS, 0, []⟩⟩]⟩,
 ⟨.full, 7, [⟨⟨#[109, 97, 114, 115]⟩, 0, 5, 3, 10, ⟨.full, 1, [0]⟩, 1⟩, ⟨⟨#[109, 111, 111, 110]⟩, 0, 4, 2, 7, ⟨.full, 1, [0, 1]⟩, 1⟩, ⟨⟨#[109, 97, 114, 115]⟩, 0, 9, 4, 6, ⟨.full, 1, [0, 1]⟩, 2⟩]⟩⟩
theorem l_Week (hs : Ok s) : callL AP (.fn 15) [] s = some (WK.v, s) := by
 rw [callL_go (show AP 15 = some c_l_Week from rfl) rfl]
 simp (maxSteps := 1000000) only [go_sem, b_l_Week, hs, Nat.reduceEqDiff, reduceCtorEq, ↓reduceIte]
 rfl
end
end Go.Ax.Sx.Sc

namespace Go.Ax.Sx.Sc
open Go.Ax
set_option linter.unusedSimpArgs false
set_option linter.unusedVariables false
def L3 : List P := [⟨0, 0, cpI [0]⟩, ⟨1, 0, cpI [1]⟩, ⟨2, 5, cpI [0, 1]⟩]
def mars : ByteArray := ⟨#[109, 97, 114, 115]⟩
theorem WK_small : smallE WK = 0 := by decide +kernel
theorem WK_best : (bestW WK).1 = L3 := by kernel_rfl
theorem WK_val : (bestW WK).2.1 = 23 := by decide +kernel
theorem WK_share : shareE WK L3 mars = (1, 1, 0) := by decide +kernel
theorem WK_fmt : fmtP L3 = [48, 64, 48, 43, 48, 32, 49, 64, 48, 43, 49, 32, 50, 64, 53, 43, 48, 43, 49] := by decide +kernel
theorem WK_ok : WK.Ok := by
 refine ⟨⟨.inr rfl, .inr (.inl rfl)⟩, fun a ha => ?_, ⟨.inr rfl, .inr (.inl rfl)⟩, fun r hr => ?_⟩
 ·simp only [WK, List.mem_cons, List.not_mem_nil, or_false] at ha
  rcases ha with rfl | rfl
  ·exact ⟨.inr rfl, .inr (.inl rfl)⟩
  ·exact ⟨.inl rfl, .inr (.inr ⟨rfl, rfl⟩)⟩
 ·simp only [WK, List.mem_cons, List.not_mem_nil, or_false] at hr
  rcases hr with rfl | rfl | rfl <;> exact ⟨.inr rfl, .inr (.inl rfl)⟩
theorem WK_few : WK.Few := by
 refine ⟨by decide, by decide, fun a ha => ?_, fun a ha => ?_, fun r hr => ?_, fun r hr => ?_⟩
 ·simp only [WK, List.mem_cons, List.not_mem_nil, or_false] at ha
  rcases ha with rfl | rfl <;> decide
 ·simp only [WK, List.mem_cons, List.not_mem_nil, or_false] at ha
  rcases ha with rfl | rfl <;> decide
 ·simp only [WK, List.mem_cons, List.not_mem_nil, or_false] at hr
  rcases hr with rfl | rfl | rfl <;> decide
 ·simp only [WK, List.mem_cons, List.not_mem_nil, or_false] at hr
  rcases hr with rfl | rfl | rfl <;> decide
section
variable {s : Sig}
theorem b_Whole {n : Int} (hs : Ok s) : callL AP (.fn 17) [I n] s = some (.agg [I n, I 1], s) := by
 rw [callL_go (show AP 17 = some c_b_Whole from rfl) rfl]
 simp (maxSteps := 1000000) only [go_sem, b_b_Whole, hs, Nat.reduceEqDiff, reduceCtorEq, ↓reduceIte]
theorem L3_ok : ∀ p ∈ L3, p.an.ok 1 ∧ p.an.l.length ≤ 6 ∧ Small p := by
 intro p hp
 simp only [L3, List.mem_cons, List.not_mem_nil, or_false] at hp
 rcases hp with rfl | rfl | rfl <;> refine ⟨cpI_ok, by decide, ⟨by decide, by decide⟩, ⟨by decide, by decide⟩, by decide, fun a ha => ?_⟩ <;> simp [cpI] at ha <;> omega
theorem l_awake (hs : Ok s) : callL AP (.fn 4) [] s = some (B true, s) := by
 have hwk : ∀ r, callL AP (.fn 15) [] (s.push r) = some (WK.v, s.push r) := fun r => l_Week (hs.push r)
 have hbe : ∀ r, callL AP (.fn 14) [WK.v] (s.push r) = some (.tuple [accV 3 (L3.map rowP), I 23, I 0], s.push r) := fun r => by
  rw [s_Best (hs.push r) WK_ok WK_few, WK_small, if_pos rfl, if_pos rfl, WK_best, WK_val]
 have hac : accV 3 (L3.map rowP) = .slice .any 3 (L3.map rowP) := rfl
 have hpl : PlOk L3 := ⟨by decide, fun p hp => ⟨(L3_ok p hp).1, (L3_ok p hp).2.1⟩⟩
 have hsh : ∀ r, callL AP (.fn 16) [WK.v, .slice .any 3 (L3.map rowP), S mars] (s.push r) = some (.tuple [.agg [I 1, I 1], I 0], s.push r) := fun r => by
  rw [s_ShareOf (hs.push r) WK_ok WK_few hpl (.inr rfl), WK_share]
 have hfo : ∀ r, callL AP (.fn 7) [.slice .any 3 (L3.map rowP)] (s.push r) = some (S (tx [48, 64, 48, 43, 48, 32, 49, 64, 48, 43, 49, 32, 50, 64, 53, 43, 48, 43, 49]), s.push r) := fun r => by
  rw [s_FormatPlan (hs.push r) (.inr rfl) (by decide) fun p hp => ⟨(L3_ok p hp).1, (L3_ok p hp).2.2⟩, WK_fmt]
 have hwh : ∀ r, callL AP (.fn 17) [I 1] (roS (s.push r)) = some (.agg [I 1, I 1], roS (s.push r)) := fun r => b_Whole ok_roS
 rw [hac] at hbe
 simp only [mars] at hsh
 generalize hv : WK.v = V at *
 generalize (AV.slice .any 3 (L3.map rowP)) = VL at *
 rw [callL_go (show AP 4 = some c_l_awake from rfl) rfl]
 have hds : decide (tx [48, 64, 48, 43, 48, 32, 49, 64, 48, 43, 49, 32, 50, 64, 53, 43, 48, 43, 49] = ⟨#[48, 64, 48, 43, 48, 32, 49, 64, 48, 43, 49, 32, 50, 64, 53, 43, 48, 43, 49]⟩) = true := decide_eq_true rfl
 have heq : eqOp (.agg [.int, .int]) (.agg [I 1, I 1]) (.agg [I 1, I 1]) = some true := rfl
 simp (maxSteps := 1000000) only [go_sem, b_l_awake, hs, hwk, hbe, hsh, hfo, hwh, hds, heq, Nat.reduceEqDiff, reduceCtorEq, ↓reduceIte]
end
end Go.Ax.Sx.Sc
