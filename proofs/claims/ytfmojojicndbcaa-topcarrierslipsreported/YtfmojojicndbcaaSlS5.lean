import Derived.Test.YtfmojojicndbcaaSxD
import Derived.Test.YtfmojojicndbcaaSlS4
namespace Go.Ax.Sx.Sl
open Go.Ax
set_option linter.unusedSimpArgs false
set_option linter.unusedVariables false

section
variable {s : Sig}

theorem s34 {a b c d p q t u n : Int} {l : Nat} (hs : Ok s) (hn : -10000 ≤ n) (hn2 : n ≤ 10000) (ht : -10000 ≤ t) (hu : u ≤ 10000)
    (hy : ∀ w x r, -n ≤ w → w ≤ n → t ≤ x → x ≤ u → callL AP (.yield l) [SP w x] (s.push r) = some (B true, s.push r)) :
    callL AP (.fn 34) [GA a b c d p q t u n, .yield l] s = some (.tuple [], s) := by
  have key : ∀ w ρ m, (-n ≤ w ∧ ρ 1 = .yield l ∧ ρ 2 = .ptr s.acts.length 0 0 ∧ ρ 4 = I w ∧ m = s.push ⟨[[I a, I b, I c, I d, I p, I q, I t, I u, I n]], []⟩) → go AP f34 (.c (.loop b34_l0) :: k34_0) ⟨ρ, m⟩ = some (.tuple [], s) := by
    refine loop_upto n _ _ ?_ ?_
    · rintro w ρ m hw ⟨hw0, h1, h2, h4, rfl⟩ ih
      have hin : ∀ x ρ m, (t ≤ x ∧ ρ 1 = .yield l ∧ ρ 2 = .ptr s.acts.length 0 0 ∧ ρ 4 = I w ∧ ρ 5 = I x ∧ m = s.push ⟨[[I a, I b, I c, I d, I p, I q, I t, I u, I n]], []⟩) → go AP f34 (.c (.loop b34_l1) :: k34_1) ⟨ρ, m⟩ = some (.tuple [], s) := by
        refine loop_upto u _ _ ?_ ?_
        · rintro x ρ m hx ⟨hx0, h1, h2, h4, h5, rfl⟩ ih2
          simp (maxSteps := 1000000) only [go_sem, b34_l0, b34_l1, b34_r0, h1, h2, h4, h5, hs, show decide (x ≤ u) = true by simpa using hx, hy w x _ hw0 hw hx0 hx, wrap_id (x := x + 1) (by omega) (by omega), Nat.reduceEqDiff, reduceCtorEq, Nat.reduceAdd, Nat.reduceMul, Nat.reduceSub, Int.reduceLT, Int.reduceLE, Int.reduceEq, Int.reduceAdd, Int.reduceSub, Int.reduceNeg, Int.reduceToNat, Int.cast_ofNat_Int, ↓reduceIte]
          refine ih2 _ _ ?_; exact ⟨by omega, h1, h2, h4, rfl, rfl⟩
        · rintro x ρ m hx ⟨hx0, h1, h2, h4, h5, rfl⟩
          simp (maxSteps := 1000000) only [go_sem, b34_l0, b34_l1, b34_r0, h1, h2, h4, h5, hs, show decide (x ≤ u) = false by simpa using hx, wrap_id (x := w + 1) (by omega) (by omega), Nat.reduceEqDiff, reduceCtorEq, Nat.reduceAdd, Nat.reduceMul, Nat.reduceSub, Int.reduceLT, Int.reduceLE, Int.reduceEq, Int.reduceAdd, Int.reduceSub, Int.reduceNeg, Int.reduceToNat, Int.cast_ofNat_Int, ↓reduceIte]
          refine ih _ _ ?_; exact ⟨by omega, h1, h2, rfl, rfl⟩
      simp (maxSteps := 1000000) only [go_sem, b34_l0, b34_r0, h1, h2, h4, hs, show decide (w ≤ n) = true by simpa using hw, Nat.reduceEqDiff, reduceCtorEq, Nat.reduceAdd, Nat.reduceMul, Nat.reduceSub, Int.reduceLT, Int.reduceLE, Int.reduceEq, Int.reduceAdd, Int.reduceSub, Int.reduceNeg, Int.reduceToNat, Int.cast_ofNat_Int, ↓reduceIte]
      refine hin t _ _ ?_; exact ⟨Int.le_refl _, h1, h2, h4, rfl, rfl⟩
    · rintro w ρ m hw ⟨hw0, h1, h2, h4, rfl⟩
      simp (maxSteps := 1000000) only [go_sem, b34_l0, b34_r0, h1, h2, h4, hs, show decide (w ≤ n) = false by simpa using hw, Nat.reduceEqDiff, reduceCtorEq, Nat.reduceAdd, Nat.reduceMul, Nat.reduceSub, Int.reduceLT, Int.reduceLE, Int.reduceEq, Int.reduceAdd, Int.reduceSub, Int.reduceNeg, Int.reduceToNat, Int.cast_ofNat_Int, ↓reduceIte]
  rw [callL_go (show AP 34 = some c34 from rfl) rfl]
  simp (maxSteps := 1000000) only [go_sem, b34, hs, wrap_id (x := -n) (by omega) (by omega), Nat.reduceEqDiff, reduceCtorEq, Nat.reduceAdd, Nat.reduceMul, Nat.reduceSub, Int.reduceLT, Int.reduceLE, Int.reduceEq, Int.reduceAdd, Int.reduceSub, Int.reduceNeg, Int.reduceToNat, Int.cast_ofNat_Int, ↓reduceIte]
  refine key (-n) _ _ ?_; exact ⟨Int.le_refl _, rfl, rfl, rfl, rfl⟩

def cntR : List Row → Int
  | [] => 0
  | r :: l => (r.2.2 - r.2.1 + 1) + cntR l

theorem cntR_app : ∀ (l r : List Row), cntR (l ++ r) = cntR l + cntR r
  | [], r => by simp [cntR]
  | x :: l, r => by simp only [List.cons_append, cntR, cntR_app l r]; omega
theorem cntR_nn {l : List Row} (h : ∀ x ∈ l, x.2.1 ≤ x.2.2) : 0 ≤ cntR l := by
  induction l with
  | nil => simp [cntR]
  | cons x l ih =>
    have := ih (fun y hy => h y (List.mem_cons_of_mem _ hy))
    have := h x (List.mem_cons_self ..)
    simp only [cntR]; omega
theorem cntR_le {l : List Row} (h : ∀ x ∈ l, -2048 ≤ x.2.1 ∧ x.2.2 ≤ 2047) : cntR l ≤ 4096 * l.length := by
  induction l with
  | nil => simp [cntR]
  | cons x l ih =>
    have := ih (fun y hy => h y (List.mem_cons_of_mem _ hy))
    have := h x (List.mem_cons_self ..)
    simp only [cntR, List.length_cons]; omega

theorem s28 {l : List Row} {o : Own} (hs : Ok s) (hl : l.length ≤ 100) (ho : ordR l) (hc : cntR l ≤ 3000) : callL AP (.fn 28) [.slice o 3 (rowsV l)] s = some (.tuple [I (cntR l), I 0], s) := by
  have h36 : ∀ (a b : Int) (s : Sig), callL AP (.fn 36) [.slice .full 1 [[I a], [I b]]] s = some (I (firstErr [a, b]), s) := fun a b s => s36 (l := [a, b]) (show (2 : Int) < _ by decide)
  have hf : firstErr [0, 0] = 0 := rfl
  have key : ∀ k ρ m, k ≤ l.length → (ρ 4 = I (cntR (l.take k)) ∧ (∃ z, ρ 5 = I z ∧ ∀ x, l[k]? = some x → z < x.1) ∧ ρ 14 = .slice o 3 (rowsV l) ∧ ρ 15 = I l.length ∧ ρ 16 = I k ∧ ∃ junk, m = s.push ⟨junk, []⟩) → go AP f28 (.c (.loop b28_l0) :: k28_0) ⟨ρ, m⟩ = some (.tuple [I (cntR l), I 0], s) := by
    refine loop_up l.length _ _ ?_ ?_
    · rintro k ρ m hk ⟨h4, ⟨z, h5, hz⟩, h14, h15, h16, junk, rfl⟩ ih
      obtain ⟨x, hx⟩ := get_some hk
      have hr := ix_sl (o := o) (es := 3) (rowsV_get hx)
      have hxb := ho.2 x (List.mem_of_getElem? hx)
      have c1 := cntR_nn (l := l.take k) (fun y hy => (ho.2 y (List.mem_of_mem_take hy)).2.2.2.1)
      have c2 := cntR_le (l := l.take k) (fun y hy => ⟨(ho.2 y (List.mem_of_mem_take hy)).2.2.1, (ho.2 y (List.mem_of_mem_take hy)).2.2.2.2⟩)
      have c3 : (l.take k).length ≤ 100 := by rw [List.length_take]; omega
      have q1 : wi x.1 (-2048) 2047 = true := wi_iff.2 ⟨by omega, by omega⟩
      have q2 : wi x.2.1 (-2048) 2047 = true := wi_iff.2 ⟨by omega, by omega⟩
      have q3 : wi x.2.2 (-2048) 2047 = true := wi_iff.2 ⟨by omega, by omega⟩
      have q4 : decide (x.2.1 ≤ x.2.2) = true := by simp; omega
      have q5 : decide (z < x.1) = true := by simp; exact hz x hx
      simp (maxSteps := 1000000) only [go_sem, b28_l0, b28_r0, h4, h5, h14, h15, h16, hs, lt_dec hk, hr, s50, s51, s38, q1, q2, q3, q4, q5, h36, hf, ne_eq, not_true, wrap_id (x := x.2.2 - x.2.1) (by omega) (by omega), wrap_id (x := x.2.2 - x.2.1 + 1) (by omega) (by omega), wrap_id (x := cntR (l.take k) + (x.2.2 - x.2.1 + 1)) (by omega) (by omega), wrap_succ hk (show (l.length : Int) < _ by omega), Nat.reduceEqDiff, reduceCtorEq, Nat.reduceAdd, Nat.reduceMul, Nat.reduceSub, Int.reduceLT, Int.reduceLE, Int.reduceEq, Int.reduceAdd, Int.reduceSub, Int.reduceNeg, Int.reduceToNat, Int.cast_ofNat_Int, ↓reduceIte]
      refine ih _ _ ?_
      refine ⟨?_, ⟨x.1, rfl, fun y hy => ho.1 k (k + 1) x y (by omega) hx hy⟩, h14, h15, rfl, ?_⟩
      · rw [take_get hx, cntR_app]; simp [cntR, put]
      · exact ⟨_, rfl⟩
    · rintro ρ m ⟨h4, _, h14, h15, h16, junk, rfl⟩
      rw [List.take_length] at h4
      have hc' : decide (cntR l ≤ 3000) = true := by simpa using hc
      simp (maxSteps := 1000000) only [go_sem, b28_l0, b28_r0, h4, h15, h16, ge_dec, hc', s38, Nat.reduceEqDiff, reduceCtorEq, Nat.reduceAdd, Nat.reduceMul, Nat.reduceSub, Int.reduceLT, Int.reduceLE, Int.reduceEq, Int.reduceAdd, Int.reduceSub, Int.reduceNeg, Int.reduceToNat, Int.cast_ofNat_Int, ↓reduceIte]
  rw [callL_go (show AP 28 = some c28 from rfl) rfl]
  have hd : decide (200 < (l.length : Int)) = false := by simp; omega
  simp (maxSteps := 1000000) only [go_sem, b28, rowsV_len, hd, Nat.reduceEqDiff, reduceCtorEq, Nat.reduceAdd, Nat.reduceMul, Nat.reduceSub, Int.reduceLT, Int.reduceLE, Int.reduceEq, Int.reduceAdd, Int.reduceSub, Int.reduceNeg, Int.reduceToNat, Int.cast_ofNat_Int, ↓reduceIte]
  refine key 0 _ _ (Nat.zero_le _) ⟨rfl, ⟨-2049, rfl, fun x hx => ?_⟩, rfl, rfl, rfl, ⟨_, rfl⟩⟩
  have := ho.2 x (List.mem_of_getElem? hx); omega

/-- A region that proves that a loop never fails. -/
structure RegOk (a b c d p q t u n : Int) (l : List Row) : Prop where
  ord : ordR l
  cnt : cntR l ≤ 3000
  lo : inR l d p = true
  hi : inR l d q = true
  fine : ∀ r ∈ l, ∀ e, r.2.1 ≤ e → e ≤ r.2.2 → (wi (e - n) (-2048) 2047 && wi (e + n) (-2048) 2047) = true
  next : ∀ r ∈ l, ∀ e, r.2.1 ≤ e → e ≤ r.2.2 → ∀ w x, -n ≤ w → w ≤ n → t ≤ x → x ≤ u → inR l (stepF a b c d r.1 (e + w)) (e + x - stepA a b c d r.1 (e + w)) = true

theorem s9_round {a b c d p q t u n f e w y : Int} {l : List Row} {o : Own} {S : Sig} {L D i : Nat} {ρ : Nat → AV} (hR : Ready L ⟨true, none, ρ, [80], b9_a2, b9_y2⟩ S) (hS : Ok S) (hl : l.length ≤ 100) (hlo : loopOk a b c d = true) (ho : ordR l)
    (hin : inR l (stepF a b c d f (e + w)) (e + y - stepA a b c d f (e + w)) = true) (hf : -2048 ≤ f) (hf2 : f ≤ 2047) (he : -10000 ≤ e) (he2 : e ≤ 10000) (hw : -10000 ≤ w) (hw2 : w ≤ 10000) (hy : -10000 ≤ y) (hy2 : y ≤ 10000)
    (r11 : ρ 11 = .ptr D 6 0) (r8 : ρ 8 = .ptr D 5 0) (r15 : ρ 15 = .ptr D i 0) (b6 : S.box D 6 = some [.fn 29 [] [.ptr D 2 0]]) (b5 : S.box D 5 = some [I a, I b, I c, I d, I p, I q, I t, I u, I n]) (b2 : S.box D 2 = some [.slice o 3 (rowsV l)]) (bi : S.box D i = some [I f, I e]) :
    callL AP (.yield L) [SP w y] S = some (B true, S) := by
  refine (callL_round hR rfl).trans ?_
  have k6 := fun r => box_keep (m := busy L S) b6 r
  have k5 := fun r => box_keep (m := busy L S) b5 r
  have ki := fun r => box_keep (m := busy L S) bi r
  have hF := stepF_bd (a := a) (b := b) (c := c) (d := d) (f := f) (e := e + w)
  have e29 : ∀ r, callL AP (.fn 29) [SP (stepF a b c d f (e + w)) (e + y - stepA a b c d f (e + w)), .ptr D 2 0] ((busy L S).push r) = some (B true, (busy L S).push r) := fun r => by
    rw [s29 (hS.busy.push r) hl ho hF.1 hF.2 (box_keep (m := busy L S) b2 r), hin]
  simp (maxSteps := 1000000) only [go_sem, b9_a2, finA_n hR, hS, setParams_1, Nat.reduceEqDiff, reduceCtorEq, Nat.reduceAdd, Nat.reduceMul, Nat.reduceSub, Int.reduceLT, Int.reduceLE, Int.reduceEq, Int.reduceAdd, Int.reduceSub, Int.reduceNeg, Int.reduceToNat, Int.cast_ofNat_Int, ↓reduceIte]
  simp (maxSteps := 1000000) only [go_sem, b9_y2, finR_n hR, hS, r11, r8, r15, k6, k5, ki, s35 ok_roS hlo hf hf2 he he2 hw hw2 hy hy2, e29, Nat.reduceEqDiff, reduceCtorEq, Nat.reduceAdd, Nat.reduceMul, Nat.reduceSub, Int.reduceLT, Int.reduceLE, Int.reduceEq, Int.reduceAdd, Int.reduceSub, Int.reduceNeg, Int.reduceToNat, Int.cast_ofNat_Int, ↓reduceIte]
  done

theorem s9 {a b c d p q t u n : Int} {l : List Row} {o : Own} (hs : Ok s) (hl : l.length ≤ 100) (hlo : loopOk a b c d = true) (hcl : clErr p q t u n = 0) (h : RegOk a b c d p q t u n l) :
    callL AP (.fn 9) [LP a b c d, CL p q t u n, .slice o 3 (rowsV l)] s = some (.tuple [I (cntR l), I 0], s) := by
  have hd : -2048 ≤ d ∧ d ≤ 2047 := by
    simp only [loopOk, Bool.and_eq_true, wi_iff] at hlo; exact hlo.2
  have hn : (0 ≤ n ∧ n ≤ 100) ∧ (-2048 ≤ t ∧ t ≤ 2047) ∧ -2048 ≤ u ∧ u ≤ 2047 := by
    unfold clErr at hcl
    cases hq : (wi n 0 100 && wi p (-2048) 2047 && wi q (-2048) 2047 && wi t (-2048) 2047 && wi u (-2048) 2047)
    · rw [hq] at hcl; simp at hcl
    · simp only [Bool.and_eq_true, wi_iff] at hq; omega
  rw [callL_go (show AP 9 = some c9 from rfl) rfl]
  have e29 : ∀ (f e : Int) (S : Sig), Ok S → -2048 ≤ f → f ≤ 2047 → S.box s.acts.length 2 = some [.slice o 3 (rowsV l)] → callL AP (.fn 29) [SP f e, .ptr s.acts.length 2 0] S = some (B (inR l f e), S) := fun f e S hS h1 h2 hb => s29 hS hl h.ord h1 h2 hb
  have e29' : ∀ (e : Int) (b3 : List AV) b0 b1 (rest : List (List AV)), callL AP (.fn 29) [SP d e, .ptr s.acts.length 2 0] (s.push ⟨b0 :: b1 :: [.slice o 3 (rowsV l)] :: rest, []⟩) = some (B (inR l d e), s.push ⟨b0 :: b1 :: [.slice o 3 (rowsV l)] :: rest, []⟩) := fun e b3 b0 b1 rest => e29 d e _ (hs.push _) hd.1 hd.2 (by rw [box_push]; rfl)
  simp (maxSteps := 1000000) only [go_sem, b9, hs, s27 (hs.push _) hlo hcl, s28 (hs.push _) hl h.ord h.cnt, e29' _ [], h.lo, h.hi, ne_eq, not_true, rowsV_len, AV.isClosedV, AV.isClosed1, Nat.reduceEqDiff, reduceCtorEq, Nat.reduceAdd, Nat.reduceMul, Nat.reduceSub, Int.reduceLT, Int.reduceLE, Int.reduceEq, Int.reduceAdd, Int.reduceSub, Int.reduceNeg, Int.reduceToNat, Int.cast_ofNat_Int, ↓reduceIte]
  have key : ∀ k ρ m, k ≤ l.length → (ρ 6 = .ptr s.acts.length 3 0 ∧ ρ 7 = .ptr s.acts.length 4 0 ∧ ρ 8 = .ptr s.acts.length 5 0 ∧ ρ 10 = I (cntR l) ∧ ρ 11 = .ptr s.acts.length 6 0 ∧ ρ 55 = .slice o 3 (rowsV l) ∧ ρ 56 = I l.length ∧ ρ 57 = I k ∧
      ∃ junk, m = s.push ⟨[I a, I b, I c, I d] :: [I p, I q, I t, I u, I n] :: [.slice o 3 (rowsV l)] :: [I 0] :: [I 0] :: [I a, I b, I c, I d, I p, I q, I t, I u, I n] :: [.fn 29 [] [.ptr s.acts.length 2 0]] :: junk, []⟩) →
      go AP f9 (.c (.loop b9_l0) :: k9_0) ⟨ρ, m⟩ = some (.tuple [I (cntR l), I 0], s) := by
    refine loop_up l.length _ _ ?_ ?_
    · rintro k ρ m hk ⟨h6, h7, h8, h10, h11, h55, h56, h57, junk, rfl⟩ ih
      obtain ⟨x, hx⟩ := get_some hk
      have hr := ix_sl (o := o) (es := 3) (rowsV_get hx)
      have hxm := List.mem_of_getElem? hx
      have hxb := h.ord.2 x hxm
      have hin : ∀ e ρ m, (x.2.1 ≤ e ∧ ρ 6 = .ptr s.acts.length 3 0 ∧ ρ 7 = .ptr s.acts.length 4 0 ∧ ρ 8 = .ptr s.acts.length 5 0 ∧ ρ 10 = I (cntR l) ∧ ρ 11 = .ptr s.acts.length 6 0 ∧ ρ 55 = .slice o 3 (rowsV l) ∧ ρ 56 = I l.length ∧ ρ 57 = I k ∧
          ρ 13 = .ptr s.acts.length (junk.length + 1 + 1 + 1 + 1 + 1 + 1 + 1) 0 ∧ ρ 14 = I e ∧
          ∃ j2, m = s.push ⟨[I a, I b, I c, I d] :: [I p, I q, I t, I u, I n] :: [.slice o 3 (rowsV l)] :: [I 0] :: [I 0] :: [I a, I b, I c, I d, I p, I q, I t, I u, I n] :: [.fn 29 [] [.ptr s.acts.length 2 0]] :: (junk ++ [I x.1, I x.2.1, I x.2.2] :: j2), []⟩) →
          go AP f9 (.c (.loop b9_l1) :: k9_1) ⟨ρ, m⟩ = some (.tuple [I (cntR l), I 0], s) := by
        refine loop_upto x.2.2 _ _ ?_ ?_
        · rintro e ρ m he ⟨he0, h6, h7, h8, h10, h11, h55, h56, h57, h13, h14, j2, rfl⟩ ih2
          have hfine := h.fine x hxm e he0 he
          have e33 : ∀ r, callL AP (.fn 33) [GA a b c d p q t u n, SP x.1 e] (s.push r) = some (B false, s.push r) := fun r => by
            rw [s33 (hs.push _) (by omega) (by omega) (by omega) (by omega), hfine]; rfl
          simp (maxSteps := 1000000) only [go_sem, b9_l1, b9_r2, h6, h7, h8, h10, h11, h13, h14, hs, show decide (e ≤ x.2.2) = true by simpa using he, e33, AV.isClosedV, AV.isClosed1, Nat.reduceEqDiff, reduceCtorEq, Nat.reduceAdd, Nat.reduceMul, Nat.reduceSub, Int.reduceLT, Int.reduceLE, Int.reduceEq, Int.reduceAdd, Int.reduceSub, Int.reduceNeg, Int.reduceToNat, Int.cast_ofNat_Int, ↓reduceIte]
          rw [go_range rfl]
          refine (congrArg (Option.bind · _) (s34 (s := enterLoop _ _) ((hs.push _).enter) (by omega) (by omega) (by omega) (by omega) ?_)).trans ?_
          · intro w y r hw hw2 hy hy2
            refine s9_round (o := o) (p := p) (q := q) (t := t) (u := u) (n := n) (D := s.acts.length) (i := junk.length + (j2.length + 1) + 1 + 1 + 1 + 1 + 1 + 1 + 1) ((enter_ready (hs.push _)).push r) ((hs.push _).enter.push r) hl hlo h.ord (h.next x hxm e he0 he w y hw hw2 hy hy2) (by omega) (by omega) (by omega) (by omega) (by omega) (by omega) (by omega) (by omega) h11 h8 rfl ?_ ?_ ?_ ?_ <;> simp (maxSteps := 1000000) only [go_sem, Nat.reduceEqDiff, reduceCtorEq, Nat.reduceAdd, Nat.reduceMul, Nat.reduceSub, Int.reduceLT, Int.reduceLE, Int.reduceEq, Int.reduceAdd, Int.reduceSub, Int.reduceNeg, Int.reduceToNat, Int.cast_ofNat_Int, ↓reduceIte]
          · simp (maxSteps := 1000000) only [go_sem, Nat.reduceEqDiff, reduceCtorEq, Nat.reduceAdd, Nat.reduceMul, Nat.reduceSub, Int.reduceLT, Int.reduceLE, Int.reduceEq, Int.reduceAdd, Int.reduceSub, Int.reduceNeg, Int.reduceToNat, Int.cast_ofNat_Int, ↓reduceIte]
            rw [goL_normal rfl rfl rfl]
            simp (maxSteps := 1000000) only [go_sem, b9_r2, h14, wrap_id (x := e + 1) (by omega) (by omega), Nat.reduceEqDiff, reduceCtorEq, Nat.reduceAdd, Nat.reduceMul, Nat.reduceSub, Int.reduceLT, Int.reduceLE, Int.reduceEq, Int.reduceAdd, Int.reduceSub, Int.reduceNeg, Int.reduceToNat, Int.cast_ofNat_Int, ↓reduceIte]
            refine ih2 _ _ ?_
            exact ⟨by omega, h6, h7, h8, h10, h11, h55, h56, h57, h13, rfl, _, rfl⟩
        · rintro e ρ m he ⟨he0, h6, h7, h8, h10, h11, h55, h56, h57, h13, h14, j2, rfl⟩
          simp (maxSteps := 1000000) only [go_sem, b9_l1, b9_r1, h6, h7, h8, h10, h11, h13, h14, h57, hs, show decide (e ≤ x.2.2) = false by simpa using he, wrap_succ hk (show (l.length : Int) < _ by omega), Nat.reduceEqDiff, reduceCtorEq, Nat.reduceAdd, Nat.reduceMul, Nat.reduceSub, Int.reduceLT, Int.reduceLE, Int.reduceEq, Int.reduceAdd, Int.reduceSub, Int.reduceNeg, Int.reduceToNat, Int.cast_ofNat_Int, ↓reduceIte]
          refine ih _ _ ?_
          exact ⟨h6, h7, h8, h10, h11, h55, h56, rfl, _, rfl⟩
      simp (maxSteps := 1000000) only [go_sem, b9_l0, h6, h7, h8, h10, h11, h55, h56, h57, hs, lt_dec hk, hr, Nat.reduceEqDiff, reduceCtorEq, Nat.reduceAdd, Nat.reduceMul, Nat.reduceSub, Int.reduceLT, Int.reduceLE, Int.reduceEq, Int.reduceAdd, Int.reduceSub, Int.reduceNeg, Int.reduceToNat, Int.cast_ofNat_Int, ↓reduceIte]
      refine hin x.2.1 _ _ ?_
      exact ⟨Int.le_refl _, h6, h7, h8, h10, h11, h55, h56, h57, rfl, rfl, [], rfl⟩
    · rintro ρ m ⟨h6, h7, h8, h10, h11, h55, h56, h57, junk, rfl⟩
      simp (maxSteps := 1000000) only [go_sem, b9_l0, b9_r0, h6, h7, h8, h10, h11, h55, h56, h57, hs, ge_dec, Nat.reduceEqDiff, reduceCtorEq, Nat.reduceAdd, Nat.reduceMul, Nat.reduceSub, Int.reduceLT, Int.reduceLE, Int.reduceEq, Int.reduceAdd, Int.reduceSub, Int.reduceNeg, Int.reduceToNat, Int.cast_ofNat_Int, ↓reduceIte]
  refine key 0 _ _ (Nat.zero_le _) ?_
  exact ⟨rfl, rfl, rfl, rfl, rfl, rfl, rfl, rfl, [], rfl⟩
end
end Go.Ax.Sx.Sl
