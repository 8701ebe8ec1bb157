/- A part of the proof. -/
import Derived.Test.YtdefcodhamifjaaGreatDoorT10
namespace Go.Ax.Sx.Sc
open Go.Ax
set_option linter.unusedSimpArgs false
set_option linter.unusedVariables false
theorem eq_nilS {o : Own} {e e2 : Nat} {xs ys : List (List AV)} : eqOp .slice (.slice o e xs) (.slice .nilS e2 ys) = some o.isNil := by
 cases o <;> rfl
theorem nilS_isNil : Own.nilS.isNil = true := rfl
attribute [go_sem] eq_nilS nilS_isNil
def grps : Nat → List Int → List (List Int)
 | 0, _ => [[]]
 | _ + 1, [] => []
 | k + 1, x :: r => (grps k r).map (x :: ·) ++ grps (k + 1) r
theorem grps_len : ∀ {k : Nat} {l g : List Int}, g ∈ grps k l → g.length = k
 | 0, _, g, h => by simp [grps] at h; simp [h]
 | k + 1, [], g, h => by simp [grps] at h
 | k + 1, x :: r, g, h => by
  simp only [grps, List.mem_append, List.mem_map] at h
  rcases h with ⟨q, hq, rfl⟩ | h
  ·simp [grps_len hq]
  ·exact grps_len h
theorem grps_mem : ∀ {k : Nat} {l g : List Int}, g ∈ grps k l → g.Sublist l
 | 0, _, g, h => by simp [grps] at h; simp [h]
 | k + 1, [], g, h => by simp [grps] at h
 | k + 1, x :: r, g, h => by
  simp only [grps, List.mem_append, List.mem_map] at h
  rcases h with ⟨q, hq, rfl⟩ | h
  ·exact (grps_mem hq).cons_cons x
  ·exact (grps_mem h).cons x
section
variable {s : Sig} {w : W}
def isSl (l : List Int) (x : AV) : Prop := (l = [] ∧ x = .slice .nilS 0 []) ∨ (l ≠ [] ∧ ∃ o, o.isNil = false ∧ x = .slice o 1 (l.map rowI))
theorem isSl.len {l : List Int} {x : AV} (h : isSl l x) : lenOp false x = some (I l.length) := by
 rcases h with ⟨rfl, rfl⟩ | ⟨_, o, _, rfl⟩
 ·rfl
 ·simp [lenOp, AV.int]
theorem isSl.cut {l : List Int} {x : AV} (h : isSl l x) : ∃ x', sliceOp (.sl 1) x none (some (I l.length)) (some (I l.length)) = some x' ∧
  ∀ (q : Sig) (b : List (List AV)) (tk : List (Option Nat)) (n : Int), l.length + 1 ≤ 4294967296 → ∃ tk', appendOp (q.push ⟨b, tk⟩) 1 x' (.slice .full 1 [[I n]]) = some (.slice (.tok q.acts.length tk.length) 1 ((l ++ [n]).map rowI), q.push ⟨b, tk'⟩) := by
 rcases h with ⟨rfl, rfl⟩ | ⟨hn, o, ho, rfl⟩
 ·refine ⟨.slice .nilS 0 [], rfl, fun q b tk n _ => ⟨tk ++ [some 1], ?_⟩⟩
  simp [appendOp, Own.isNil, most, ntok_push, addTok_push]
 ·have h1 : asNat (I (l.length : Int)) l.length = some l.length := by simp [asNat]
  refine ⟨.slice .full 1 (l.map rowI), ?_, fun q b tk n hl => ⟨tk ++ [some (l.length + 1)], ?_⟩⟩
  ·have hp : 0 < l.length := List.length_pos_iff.2 hn
   have ht : List.take l.length (List.map rowI l) = List.map rowI l := by rw [← List.length_map (f := rowI), List.take_length]
   simp [sliceOp, mxOf, hiOf, loOf, h1, slOwn, ho, hn, hp, ht]
  ·simp [appendOp, Own.isNil, most, ntok_push, addTok_push, hl]
theorem slice_drop {α : Type} {f : α → List AV} {o : Own} {es k : Nat} {l : List α} (hk : k ≤ l.length) : ∃ o', sliceOp (.sl es) (.slice o es (l.map f)) (some (.v (.int .i64 (k : Int)))) none none = some (.slice o' es ((l.drop k).map f)) := by
 have h1 : loOf (some (AV.v (.int .i64 (k : Int)))) l.length = some k := by simp [loOf, asNat]; omega
 refine ⟨slOwn o false (k == 0 && (l.map f).length == (l.map f).length) ((l.map f).length == (l.map f).length && 0 < (l.map f).length), ?_⟩
 have ht : List.take l.length (List.map f l) = List.map f l := by rw [← List.length_map (f := f), List.take_length]
 simp [sliceOp, mxOf, hiOf, h1, ht, List.map_drop]
theorem finish_own {rs : Nat} {ρ : Nat → AV} {m : Sig} : finish [.tmp rs] true ⟨ρ, m⟩ = ownResult m (ρ rs) := rfl
theorem own_nil {m : Sig} {e : Nat} {xs : List (List AV)} : ownResult m (.slice .nilS e xs) = some (.slice .nilS e xs, m.pop) := rfl
theorem own_ro {r : Rec} {g e : Nat} {xs : List (List AV)} {m : Sig} : ownResult ((roS m).push r) (.slice (.tok m.acts.length g) e xs) = some (.slice .any e xs, roS m) := by
 have : ¬ (((roS m).push r).ro < m.acts.length) := Nat.lt_irrefl _
 simp [ownResult, this, pop_push]
attribute [go_sem] finish_own own_nil own_ro
theorem z_Clone_int_ro {l : List Int} {x : AV} (hx : isSl l x) (hl : l.length ≤ 4294967296) : callL AP (.fn 141) [x] (roS s) = some (accV 1 (l.map rowI), roS s) := by
 rw [callL_go (show AP 141 = some c_z_Clone_int from rfl) rfl]
 rcases hx with ⟨rfl, rfl⟩ | ⟨hn, o, ho, rfl⟩
 ·simp (maxSteps := 1000000) only [go_sem, b_z_Clone_int, reduceCtorEq, ↓reduceIte]; rfl
 ·have he : (l.map rowI).isEmpty = false := by cases l <;> simp_all
  have ha : appendOp ((roS s).push ⟨[], []⟩) 1 (.slice .full 1 []) (.slice o 1 (l.map rowI)) = some (.slice (.tok s.acts.length 0) 1 (l.map rowI), (roS s).push ⟨[], [some l.length]⟩) := by
   have h2 : (roS s).acts.length = s.acts.length := rfl
   have h3 := ntok_push (roS s) ⟨[], []⟩
   have h4 := addTok_push (roS s) ⟨[], []⟩ l.length
   rw [h2] at h3 h4
   simp [appendOp, Own.isNil, most, hl, hn, h2, h3, h4]
  have hv : accV 1 (l.map rowI) = .slice .any 1 (l.map rowI) := by cases l <;> simp_all [accV]
  rw [hv]
  simp (maxSteps := 1000000) only [go_sem, b_z_Clone_int, ho, ha, Nat.reduceEqDiff, reduceCtorEq, ↓reduceIte]
theorem grow_calls {ι : Type} {L N NL M : Nat} {base : ι → Sig} {Iv : List (List Int) → ι → Prop} {stop : List (List Int) → List Int → Bool} {O : List (List Int) → List Int → ι → Prop} {X : List Int → Prop} (h : Hand AP L (fun l => accV 1 (l.map rowI)) base Iv stop O X N NL M) {cnt : Nat} (hcnt : (cnt : Int) < 1000000)
    {rg : Rec} (hy : rg.boxes[0]? = some [.yield L]) (hg : rg.boxes[1]? = some [.fn 140 [] [.eptr [I cnt] 0, .ptr N 0 0, .ptr N 1 0]]) :
    ∀ (n : Nat) (pre rest : List Int) (x : AV) (o : Own) (e : Nat) (i : ι) (done : List (List Int)) (B : List Rec) (ls : List ALoop), rest.length ≤ n → pre.length ≤ cnt → isSl pre x → (rest = [] ∨ e = 1) → (rest.length : Int) < 1000000 →
      done.length + (grps (cnt - pre.length) rest).length ≤ M → Iv done i → (∀ g ∈ grps (cnt - pre.length) rest, X (pre ++ g)) →
      ∃ b i', callL AP (.fn 140) [x, .slice o e (rest.map rowI), .eptr [I cnt] 0, .ptr N 0 0, .ptr N 1 0] (up (base i) (rg :: B) ls) = some (AV.v (.bool b), up (base i') (rg :: B) ls) ∧ Ends Iv stop O done ((grps (cnt - pre.length) rest).map (pre ++ ·)) b i' := by
  intro n
  induction n with
  | zero =>
    intro pre rest x o e i done B ls hr hp hx he hl hM hI hX
    have hr0 : rest = [] := List.eq_nil_of_length_eq_zero (by omega)
    subst hr0
    have b0 : (up (base i) (rg :: B) ls).box N 0 = some [.yield L] := by rw [← h.len i, up_top, hy]
    have hok := (h.ok i).up (B := rg :: B) (ls := ls)
    by_cases hc : pre.length = cnt
    · obtain ⟨b, i', h1, h2⟩ := h.one (B := rg :: B) (ls := ls) (by rw [show cnt - pre.length = 0 by omega] at hM; simp [grps] at hM; omega) hI (by have := hX [] (by rw [show cnt - pre.length = 0 by omega]; simp [grps]); simpa using this) ⟨[], []⟩
      refine ⟨b, i', ?_, by rw [show cnt - pre.length = 0 by omega]; simpa [grps] using h2⟩
      rw [callL_go (show AP 140 = some c_s_groups_1_1 from rfl) rfl]
      have hcl : ∀ q : Sig, callL AP (.fn 141) [x] (roS q) = some (accV 1 (pre.map rowI), roS q) := fun q => z_Clone_int_ro hx (by omega)
      simp (maxSteps := 1000000) only [go_sem, b_s_groups_1_1, hx.len, hc, box_keep b0, hcl, h1, Nat.reduceEqDiff, reduceCtorEq, ↓reduceIte]
    · have hk : cnt - pre.length = (cnt - pre.length - 1) + 1 := by omega
      refine ⟨true, i, ?_, by rw [hk]; simp [grps, Ends, hI]⟩
      rw [callL_go (show AP 140 = some c_s_groups_1_1 from rfl) rfl]
      have hd : decide ((pre.length : Int) = (cnt : Int)) = false := by simp; omega
      simp (maxSteps := 1000000) only [go_sem, b_s_groups_1_1, hx.len, hd, Nat.reduceEqDiff, reduceCtorEq, Int.cast_ofNat_Int, ↓reduceIte]
      rw [go_loop]
      simp (maxSteps := 1000000) only [go_sem, b_s_groups_1_1_l0, b_s_groups_1_1_r0, Nat.reduceEqDiff, Int.reduceLT, ↓reduceIte]
  | succ n ihn =>
    intro pre rest x o e i done B ls hr hp hx he hl hM hI hX
    have b0 : ∀ i, (up (base i) (rg :: B) ls).box N 0 = some [.yield L] := fun i => by have := up_top (S := base i) (B := B) (ls := ls) (r := rg) (b := 0); rw [h.len i] at this; rw [this, hy]
    have b1 : ∀ i, (up (base i) (rg :: B) ls).box N 1 = some [.fn 140 [] [.eptr [I cnt] 0, .ptr N 0 0, .ptr N 1 0]] := fun i => by have := up_top (S := base i) (B := B) (ls := ls) (r := rg) (b := 1); rw [h.len i] at this; rw [this, hg]
    have hok : ∀ i, Ok (up (base i) (rg :: B) ls) := fun i => (h.ok i).up (B := rg :: B) (ls := ls)
    by_cases hc : pre.length = cnt
    · obtain ⟨b, i', h1, h2⟩ := h.one (B := rg :: B) (ls := ls) (by rw [show cnt - pre.length = 0 by omega] at hM; simp [grps] at hM; omega) hI (by have := hX [] (by rw [show cnt - pre.length = 0 by omega]; simp [grps]); simpa using this) ⟨[], []⟩
      refine ⟨b, i', ?_, by rw [show cnt - pre.length = 0 by omega]; simpa [grps] using h2⟩
      rw [callL_go (show AP 140 = some c_s_groups_1_1 from rfl) rfl]
      have hcl : ∀ q : Sig, callL AP (.fn 141) [x] (roS q) = some (accV 1 (pre.map rowI), roS q) := fun q => z_Clone_int_ro hx (by omega)
      simp (maxSteps := 1000000) only [go_sem, b_s_groups_1_1, hx.len, hc, box_keep (b0 i), hcl, h1, Nat.reduceEqDiff, reduceCtorEq, ↓reduceIte]
    · obtain ⟨k, hk⟩ : ∃ k, cnt - pre.length = k + 1 := ⟨cnt - pre.length - 1, by omega⟩
      rw [hk] at hX hM ⊢
      have hd : decide ((pre.length : Int) = (cnt : Int)) = false := by simp; omega
      have key : ∀ j ρ m, j ≤ rest.length → (ρ 0 = x ∧ ρ 1 = .slice o e (rest.map rowI) ∧ ρ 4 = .ptr N 1 0 ∧ ρ 18 = .slice o e (rest.map rowI) ∧ ρ 19 = I rest.length ∧ ρ 20 = I j ∧
          ∃ i tk its, m = (up (base i) (rg :: B) ls).push ⟨[], tk⟩ ∧ its ++ (grps (k + 1) (rest.drop j)).map (pre ++ ·) = (grps (k + 1) rest).map (pre ++ ·) ∧ Ends Iv stop O done its true i) →
          ∃ b i', go AP f_s_groups_1_1 (.c (.loop b_s_groups_1_1_l0) :: k_s_groups_1_1_0) ⟨ρ, m⟩ = some (AV.v (.bool b), up (base i') (rg :: B) ls) ∧ Ends Iv stop O done ((grps (k + 1) rest).map (pre ++ ·)) b i' := by
        refine loop_ex rest.length _ (fun r => ∃ b i', r = some (AV.v (.bool b), up (base i') (rg :: B) ls) ∧ Ends Iv stop O done ((grps (k + 1) rest).map (pre ++ ·)) b i') ?_ ?_
        · rintro j ρ m hj ⟨h0, h1, h4, h18, h19, h20, i, tk, its, rfl, hits, hE⟩ ih
          obtain ⟨y, hy1⟩ := get_some hj
          have he1 : e = 1 := by rcases he with h | h; (rw [h] at hy1; simp at hy1); exact h
          subst he1
          have hr1 := ix_map (f := rowI) (o := o) (es := 1) hy1
          obtain ⟨x', hx1, hx2⟩ := hx.cut
          obtain ⟨tk', hx3⟩ := hx2 (up (base i) (rg :: B) ls) [] tk y (by omega)
          have hw : IntKind.i64.wrap ((j : Int) + 1) = ((j + 1 : Nat) : Int) := by rw [wrap_id] <;> omega
          obtain ⟨o', ho'⟩ := slice_drop (f := rowI) (o := o) (es := 1) (l := rest) (k := j + 1) (by omega)
          have hd1 : rest.drop j = y :: rest.drop (j + 1) := drop_get hy1
          have hsplit : (grps (k + 1) (rest.drop j)).map (pre ++ ·) = (grps k (rest.drop (j + 1))).map ((pre ++ [y]) ++ ·) ++ (grps (k + 1) (rest.drop (j + 1))).map (pre ++ ·) := by
            rw [hd1]; simp [grps, Function.comp_def]
          have hk2 : cnt - (pre ++ [y]).length = k := by simp; omega
          have hXs : ∀ g ∈ grps (k + 1) (rest.drop j), X (pre ++ g) := fun g hg => by
            have hm : pre ++ g ∈ (grps (k + 1) rest).map (pre ++ ·) := by
              rw [← hits]; exact List.mem_append_right _ (List.mem_map.2 ⟨g, hg, rfl⟩)
            obtain ⟨g', hg', e'⟩ := List.mem_map.1 hm
            have e' : pre ++ g' = pre ++ g := e'
            rw [← e']; exact hX g' hg'
          obtain ⟨b, i', hc1, hc2⟩ := ihn (pre ++ [y]) (rest.drop (j + 1)) (.slice (.tok (up (base i) (rg :: B) ls).acts.length tk.length) 1 ((pre ++ [y]).map rowI)) o' 1 i (done ++ its) (B ++ [⟨[], tk'⟩]) ls (by rw [List.length_drop]; omega) (by simp; omega)
            (.inr ⟨by simp, _, rfl, rfl⟩) (.inr rfl) (by rw [List.length_drop]; omega) (by
              have hh := congrArg List.length hits
              rw [hsplit] at hh
              simp only [List.length_append, List.length_map] at hh ⊢
              simp only [List.length_append, List.length_singleton] at hk2
              rw [show cnt - (pre.length + [y].length) = k from hk2]; omega) hE.all (by
              rw [hk2]; intro g hg
              have := hXs (y :: g) (by rw [hd1]; simp only [grps]; exact List.mem_append_left _ (List.mem_map.2 ⟨g, hg, rfl⟩))
              simpa using this)
          rw [hk2] at hc2
          have hpu : ∀ i : ι, up (base i) (rg :: (B ++ [⟨[], tk'⟩])) ls = (up (base i) (rg :: B) ls).push ⟨[], tk'⟩ := fun i => by rw [up_push]; rfl
          rw [hpu, hpu] at hc1
          simp (maxSteps := 1000000) only [go_sem, b_s_groups_1_1_l0, h0, h1, h4, h18, h19, h20, lt_dec hj, hr1, box_keep (b1 i), hx.len, hx1, hx3, hw, ho', hc1, Nat.reduceEqDiff, reduceCtorEq, ↓reduceIte]
          cases b with
          | true =>
            simp (maxSteps := 1000000) only [go_sem]
            refine ih _ _ ?_
            refine ⟨h0, h1, h4, h18, h19, rfl, i', tk', its ++ (grps k (rest.drop (j + 1))).map ((pre ++ [y]) ++ ·), rfl, ?_, ?_⟩
            · rw [List.append_assoc, ← hsplit, hits]
            · exact hE.app_t hc2
          | false =>
            simp (maxSteps := 1000000) only [go_sem]
            refine ⟨false, i', rfl, ?_⟩
            rw [← hits, hsplit, ← List.append_assoc]
            exact (hE.app_t hc2).app_f _
        · rintro ρ m ⟨h0, h1, h4, h18, h19, h20, i, tk, its, rfl, hits, hE⟩
          simp (maxSteps := 1000000) only [go_sem, b_s_groups_1_1_l0, b_s_groups_1_1_r0, h19, h20, ge_dec, ↓reduceIte]
          refine ⟨true, i, rfl, ?_⟩
          rw [List.drop_length] at hits
          simp only [grps, List.map_nil, List.append_nil] at hits
          rw [← hits]; exact hE
      rw [callL_go (show AP 140 = some c_s_groups_1_1 from rfl) rfl]
      simp (maxSteps := 1000000) only [go_sem, b_s_groups_1_1, hx.len, hd, Nat.reduceEqDiff, reduceCtorEq, ↓reduceIte]
      refine key 0 _ _ (Nat.zero_le _) ?_
      exact ⟨rfl, rfl, rfl, rfl, rfl, rfl, i, [], [], rfl, by simp, ⟨rfl, by simpa using hI⟩⟩
theorem groups_calls {ι : Type} {L N NL M : Nat} {base : ι → Sig} {Iv : List (List Int) → ι → Prop} {stop : List (List Int) → List Int → Bool} {O : List (List Int) → List Int → ι → Prop} {X : List Int → Prop} (h : Hand AP L (fun l => accV 1 (l.map rowI)) base Iv stop O X N NL M) {cnt : Nat} (hcnt : (cnt : Int) < 1000000)
  {l : List Int} {o : Own} {e : Nat} {i : ι} {done : List (List Int)} (he : l = [] ∨ e = 1) (hl : (l.length : Int) < 1000000) (hM : done.length + (grps cnt l).length ≤ M) (hI : Iv done i) (hX : ∀ g ∈ grps cnt l, X g) :
  ∃ b i', callL AP (.fn 139) [.yield L, .eptr [I cnt] 0, .eptr [.slice o e (l.map rowI)] 0] (base i) = some (.tuple [], base i') ∧ Ends Iv stop O done (grps cnt l) b i' := by
 have hok := h.ok i
 have hlen := h.len
 obtain ⟨b, i', h1, h2⟩ := grow_calls h hcnt (rg := ⟨[[.yield L], [.fn 140 [] [.eptr [I cnt] 0, .ptr N 0 0, .ptr N 1 0]]], []⟩) rfl rfl l.length [] l (.slice .nilS 0 []) o e i done [] [] (Nat.le_refl _) (Nat.zero_le _) (.inl ⟨rfl, rfl⟩) he hl hM hI (by simpa using hX)
 refine ⟨b, i', ?_, by simpa using h2⟩
 rw [callL_go (show AP 139 = some c_s_groups_1 from rfl) rfl]
 have hp : ∀ i : ι, up (base i) [⟨[[.yield L], [.fn 140 [] [.eptr [I cnt] 0, .ptr N 0 0, .ptr N 1 0]]], []⟩] [] = (base i).push ⟨[[.yield L], [.fn 140 [] [.eptr [I cnt] 0, .ptr N 0 0, .ptr N 1 0]]], []⟩ := fun i => push_up.symm
 rw [hp, hp] at h1
 rw [← hlen i] at h1
 simp (maxSteps := 1000000) only [go_sem, b_s_groups_1, hok, h1, Nat.reduceEqDiff, Nat.reduceAdd, ↓reduceIte]
theorem leave_fn {m : Sig} {f : FuncId} {caps : List AV} : leaveVal m (.fn f [] caps) = (leaveCaps m caps).map (.fn f [] ·) := rfl
theorem leaveCaps_nil {m : Sig} : leaveCaps m [] = some [] := rfl
theorem leaveCaps_ptr {q : Sig} {r : Rec} {b off : Nat} {rest : List AV} : leaveCaps (q.push r) (.ptr q.acts.length b off :: rest) = ((r.boxes[b]?).bind closeAll).bind fun cs => (leaveCaps (q.push r) rest).map (.eptr cs off :: ·) := by
 rw [leaveCaps, if_pos (by rw [cur_push]), box_push]
 cases (r.boxes[b]?).bind closeAll with
 | none => rfl
 | some cs => cases leaveCaps (q.push r) rest <;> rfl
attribute [go_sem] leave_fn leaveCaps_nil leaveCaps_ptr
theorem s_groups {o : Own} {es : Nat} {rows : List (List AV)} {c : AV} {n : Int} (hl : (AV.slice o es rows).close = some c) (hs : Ok s) : callL AP (.fn 120) [.slice o es rows, I n] s = some (.fn 139 [] [.eptr [I n] 0, .eptr [c] 0], s) := by
 rw [callL_go (show AP 120 = some c_s_groups from rfl) rfl]
 simp (maxSteps := 1000000) only [go_sem, b_s_groups, hl, Nat.reduceEqDiff, Nat.reduceAdd, ↓reduceIte]
def readyA (w : W) (q : R) (st : Int) : List Int := q.an.l.filter fun a => openB w a st q.len
def possAt (w : W) (i st : Int) : List P := (grps (w.rq i).need.toNat (readyA w (w.rq i) st)).map fun g => ⟨i, st, cpI g⟩
def possFrom (w : W) (i : Int) : Int → Nat → List P
 | _, 0 => []
 | st, n + 1 => possAt w i st ++ possFrom w i (st + 1) n
def poss (w : W) (i : Int) : List P := possFrom w i (w.rq i).lo ((w.rq i).hi - (w.rq i).len + 2 - (w.rq i).lo).toNat
theorem acc_cpI {g : List Int} (h : g ≠ []) : accV 1 (g.map rowI) = (cpI g).v rowI := by
 cases g with
 | nil => exact absurd rfl h
 | cons a r => rfl
section
variable {ι : Type} {L N NL M : Nat} {base : ι → Sig} {Iv : List P → ι → Prop} {stop : List P → P → Bool} {O : List P → P → ι → Prop} {X : P → Prop}
abbrev posB (base : ι → Sig) (R : Rec) (ρ : Nat → AV) (j : ι × Option AExit) : Sig := up (base j.1) [R] [⟨j.2.isNone, j.2, ρ, [54], b_w_possible_1_a1, b_w_possible_1_y1⟩]
theorem poss_round {S S' : Sig} {l L d k : Nat} {ρ : Nat → AV} {xs : List (List AV)} {i st : Int} {b : Bool} (hR : Ready l ⟨true, none, ρ, [54], b_w_possible_1_a1, b_w_possible_1_y1⟩ S) (hR' : Ready l ⟨true, none, ρ, [54], b_w_possible_1_a1, b_w_possible_1_y1⟩ S') (hS : Ok S)
  (h2 : ρ 2 = .eptr [I i] 0) (h3 : ρ 3 = .ptr d 0 0) (h5 : ρ 5 = .ptr d k 0) (b0 : S.box d 0 = some [.yield L]) (bk : S.box d k = some [I st])
  (hc : callL AP (.yield L) [.agg [I i, I st, .slice .any 1 xs]] ((busy l S).push ⟨[], []⟩) = some (AV.v (.bool b), (busy l S').push ⟨[], []⟩)) :
  callL AP (.yield l) [.slice .any 1 xs] S = some (AV.v (.bool b), if b = true then S' else over l .ret S') := by
 refine (callL_round hR rfl).trans ?_
 have k0 := fun r => box_keep (m := busy l S) b0 r
 have kk := fun r => box_keep (m := busy l S) bk r
 simp (maxSteps := 1000000) only [go_sem, b_w_possible_1_a1, finA_n hR, setParams_1, ↓reduceIte]
 simp (maxSteps := 1000000) only [go_sem, b_w_possible_1_y1, h2, h3, h5, k0, kk, hc, Nat.reduceEqDiff, ↓reduceIte]
 cases b with
 | true => simp (maxSteps := 1000000) only [go_sem, finR_n hR', ↓reduceIte]
 | false => simp (maxSteps := 1000000) only [go_sem, Bool.false_eq_true, ↓reduceIte]
theorem poss_hand (h : Hand AP L (fun p => .agg (rowP p)) base Iv stop O X N NL M) {R : Rec} {ρ : Nat → AV} {i st : Int} {k : Nat} {d0 : List P} {n : Nat}
  (h2 : ρ 2 = .eptr [I i] 0) (h3 : ρ 3 = .ptr N 0 0) (h5 : ρ 5 = .ptr N k 0) (b0 : R.boxes[0]? = some [.yield L]) (bk : R.boxes[k]? = some [I st]) :
  Hand AP NL (fun g => accV 1 (g.map rowI)) (posB base R ρ) (fun dn j => j.2 = none ∧ Iv (d0 ++ dn.map fun g => ⟨i, st, cpI g⟩) j.1) (fun dn g => stop (d0 ++ dn.map fun g => ⟨i, st, cpI g⟩) ⟨i, st, cpI g⟩)
   (fun dn g j => j.2 = some .ret ∧ O (d0 ++ dn.map fun g => ⟨i, st, cpI g⟩) ⟨i, st, cpI g⟩ j.1) (fun g => g.length = n + 1 ∧ X ⟨i, st, cpI g⟩) (N + 1) (NL + 1) (M - d0.length) := by
 have main : ∀ (dn : List (List Int)) (g : List Int) (j : ι × Option AExit) (B : List Rec) (ls : List ALoop), dn.length < M - d0.length → (j.2 = none ∧ Iv (d0 ++ dn.map fun g => ⟨i, st, cpI g⟩) j.1) → (g.length = n + 1 ∧ X ⟨i, st, cpI g⟩) →
   ∃ b i', Ends Iv stop O (d0 ++ dn.map fun g => ⟨i, st, cpI g⟩) [⟨i, st, cpI g⟩] b i' ∧ callL AP (.yield NL) [accV 1 (g.map rowI)] (up (posB base R ρ j) B ls) = some (AV.v (.bool b), up (posB base R ρ (i', if b then none else some .ret)) B ls) := by
  rintro dn g ⟨i1, p⟩ B ls hm ⟨hp, hI⟩ ⟨hg, hX⟩
  simp only at hp hI
  subst hp
  have hll := h.llen
  obtain ⟨b, i', h1, h4⟩ := h.one (B := [R] ++ B) (ls := [⟨false, none, ρ, [54], b_w_possible_1_a1, b_w_possible_1_y1⟩] ++ ls) (by simp; omega) hI hX ⟨[], []⟩
  refine ⟨b, i', h4, ?_⟩
  have hgn : g ≠ [] := by intro e; rw [e] at hg; simp at hg
  have hN := h.len
  have bx : ∀ (i1 : ι) (q : Nat) (lp : ALoop), (up (base i1) (R :: B) (lp :: ls)).box N q = R.boxes[q]? := fun i1 q lp => by rw [← hN i1, up_top]
  have hR : Ready NL ⟨true, none, ρ, [54], b_w_possible_1_a1, b_w_possible_1_y1⟩ (up (base i1) (R :: B) (⟨true, none, ρ, [54], b_w_possible_1_a1, b_w_possible_1_y1⟩ :: ls)) := ready_up0 (h.ok i1) (hll i1) rfl rfl
  have hR' : Ready NL ⟨true, none, ρ, [54], b_w_possible_1_a1, b_w_possible_1_y1⟩ (up (base i') (R :: B) (⟨true, none, ρ, [54], b_w_possible_1_a1, b_w_possible_1_y1⟩ :: ls)) := ready_up0 (h.ok i') (hll i') rfl rfl
  have e1 : ∀ (i1 : ι) (lp : ALoop), up (up (base i1) [R] [lp]) B ls = up (base i1) (R :: B) (lp :: ls) := fun i1 lp => by rw [up_up]; rfl
  have hbz : ∀ i1 : ι, busy NL (up (base i1) (R :: B) (⟨true, none, ρ, [54], b_w_possible_1_a1, b_w_possible_1_y1⟩ :: ls)) = up (base i1) (R :: B) (⟨false, none, ρ, [54], b_w_possible_1_a1, b_w_possible_1_y1⟩ :: ls) := fun i1 => busy_up0 (hll i1)
  have hov : over NL .ret (up (base i') (R :: B) (⟨true, none, ρ, [54], b_w_possible_1_a1, b_w_possible_1_y1⟩ :: ls)) = up (base i') (R :: B) (⟨false, some .ret, ρ, [54], b_w_possible_1_a1, b_w_possible_1_y1⟩ :: ls) := over_up0 (hll i')
  simp only [posB, e1, Option.isNone_none]
  have hok := (h.ok i1).up (B := R :: B) (ls := ⟨true, none, ρ, [54], b_w_possible_1_a1, b_w_possible_1_y1⟩ :: ls)
  have hac : accV 1 (g.map rowI) = .slice .any 1 (g.map rowI) := by cases g with | nil => exact absurd rfl hgn | cons a r => rfl
  rw [hac]
  have hcc : callL AP (.yield L) [.agg [I i, I st, .slice .any 1 (g.map rowI)]] ((busy NL (up (base i1) (R :: B) (⟨true, none, ρ, [54], b_w_possible_1_a1, b_w_possible_1_y1⟩ :: ls))).push ⟨[], []⟩) = some (AV.v (.bool b), (busy NL (up (base i') (R :: B) (⟨true, none, ρ, [54], b_w_possible_1_a1, b_w_possible_1_y1⟩ :: ls))).push ⟨[], []⟩) := by
   simp only [List.cons_append, List.nil_append, rowP, ← acc_cpI hgn, hac] at h1
   rw [hbz, hbz]; exact h1
  refine (poss_round hR hR' hok h2 h3 h5 (by rw [bx, b0]) (by rw [bx, bk]) hcc).trans ?_
  cases b with
  | true => simp
  | false => simp [hov]
 refine ⟨fun j => (h.ok _).up, fun j => by simp [posB, up_acts, h.len], fun j => by simp [posB, up_loops, h.llen], ?_, ?_⟩
 ·intro dn g j B ls hm hI hX hs
  obtain ⟨b, i', h1, h4⟩ := main dn g j B ls hm hI hX
  simp only [Ends] at h1
  rw [if_neg (by rw [hs]; simp)] at h1
  obtain ⟨rfl, h1⟩ := h1
  exact ⟨(i', none), h4, rfl, by simpa using h1⟩
 ·intro dn g j B ls hm hI hX hs
  obtain ⟨b, i', h1, h4⟩ := main dn g j B ls hm hI hX
  simp only [Ends] at h1
  rw [if_pos hs] at h1
  obtain ⟨rfl, h1⟩ := h1
  exact ⟨(i', some .ret), h4, rfl, h1⟩
theorem accV_sl {l : List Int} : ∃ o e, accV 1 (l.map rowI) = .slice o e (l.map rowI) ∧ (l = [] ∨ e = 1) := by
 cases l with
 | nil => exact ⟨_, _, rfl, .inl rfl⟩
 | cons a r => exact ⟨_, _, rfl, .inr rfl⟩
theorem enter_pos {R : Rec} {ρ : Nat → AV} {i : ι} : enterLoop ((base i).push R) ⟨true, none, ρ, [54], b_w_possible_1_a1, b_w_possible_1_y1⟩ = posB base R ρ (i, none) := by
 simp [posB, push_up, up_enter]
theorem poss_range {F : AExit → St → Option (AV × Sig)} {ks : List K} (h : Hand AP L (fun p => .agg (rowP p)) base Iv stop O X N NL M) {R : Rec} {ρ : Nat → AV} {req st : Int} {k : Nat} {d0 : List P} {i : ι} {ready : List Int} {need : Nat}
  (hn : 1 ≤ need) (hn2 : (need : Int) < 1000000) (hl : (ready.length : Int) < 1000000)
  (h2 : ρ 2 = .eptr [I req] 0) (h3 : ρ 3 = .ptr N 0 0) (h5 : ρ 5 = .ptr N k 0) (h53 : ρ 53 = .fn 139 [] [.eptr [I need] 0, .eptr [accV 1 (ready.map rowI)] 0]) (b0 : R.boxes[0]? = some [.yield L]) (bk : R.boxes[k]? = some [I st])
  (hM : d0.length + (grps need ready).length ≤ M) (hI : Iv d0 i) (hX : ∀ g ∈ grps need ready, X ⟨req, st, cpI g⟩) :
  ∃ b i', Ends Iv stop O d0 ((grps need ready).map fun g => (⟨req, st, cpI g⟩ : P)) b i' ∧ go AP F (.c (.rangeFunc (.tmp 53) [54] b_w_possible_1_a1 b_w_possible_1_y1) :: ks) ⟨ρ, (base i).push R⟩ = if b = true then go AP F ks ⟨ρ, (base i').push R⟩ else F .ret ⟨ρ, (base i').push R⟩ := by
 obtain ⟨o, e, ha, he⟩ := accV_sl (l := ready)
 obtain ⟨n, rfl⟩ : ∃ n, need = n + 1 := ⟨need - 1, by omega⟩
 have hh := poss_hand h (R := R) (ρ := ρ) (i := req) (st := st) (k := k) (d0 := d0) (n := n) h2 h3 h5 b0 bk
 obtain ⟨b, ⟨i', p⟩, hc, hE⟩ := groups_calls hh (cnt := n + 1) hn2 (l := ready) (o := o) (e := e) (i := (i, none)) (done := []) he hl (by simp; omega) ⟨rfl, by simpa using hI⟩ (fun g hg => ⟨grps_len hg, hX g hg⟩)
 have hE' := Ends.map (I := Iv) (stop := stop) (O := O) (mk := fun g => (⟨req, st, cpI g⟩ : P)) (f := fun j : ι × Option AExit => j.1) (d0 := d0) (fun dn j hj => hj.2) (fun dn g => rfl) (fun dn g j hj => hj.2) hE
 refine ⟨b, i', by simpa using hE', ?_⟩
 have hlo : ((base i).push R).loops.length = NL := h.llen i
 have hlo' : ((base i').push R).loops.length = NL := h.llen i'
 rw [go_range (x := .tmp 53) h53, enter_pos, ha, hlo]
 refine (congrArg (Option.bind · _) hc).trans ?_
 simp only [Option.bind_some]
 cases b with
 | true =>
  have hp : p = none := (hE.all).1
  subst hp
  rw [← enter_pos, goL_normal hlo' rfl rfl]; rfl
 | false =>
  obtain ⟨pre, g, post, _, hO, _⟩ := hE.first
  have hp : p = some .ret := hO.1
  subst hp
  have : posB base R ρ (i', some .ret) = enterLoop ((base i').push R) ⟨false, some .ret, ρ, [54], b_w_possible_1_a1, b_w_possible_1_y1⟩ := by simp [posB, push_up, up_enter]
  rw [this, goL_ret hlo' rfl]; rfl
theorem poss_calls (h : Hand AP L (fun p => .agg (rowP p)) base Iv stop O X N NL M) (hw : Wk w) {req : Int} (h0 : 0 ≤ req) (h1 : req < w.rs.l.length) {i : ι} {done : List P} (hM : done.length + (poss w req).length ≤ M) (hI : Iv done i) (hX : ∀ p ∈ poss w req, X p) :
  ∃ b i', callL AP (.fn 118) [.yield L, .eptr [OW w] 0, .eptr [I req] 0] (base i) = some (.tuple [], base i') ∧ Ends Iv stop O done (poss w req) b i' := by
 have hN := h.len
 have hq := hw.rq h0 h1
 have hqa := hw.ok.an _ (W.rq_mem h0 h1)
 have hrs := ix_rs hw h0 h1
 have hn2 := hw.v.n2
 have hal := hw.v.al
 have hfan := hw.few.an _ (W.rq_mem h0 h1)
 generalize hqe : w.rq req = q at *
 obtain ⟨mis, lo, hi, len, val, ⟨oa, ea, an⟩, need⟩ := q
 obtain ⟨l0, lohi, hin, len1, lenhi, val0, val1, ann, anin, anord, need1, need2, _⟩ := hq
 simp only at l0 lohi hin len1 lenhi val0 val1 ann anin anord need1 need2 hfan
 have hea : ea = 1 := by
  rcases hqa.1 with h | h
  ·exact absurd h ann
  ·exact h
 subst hea
 have key : ∀ (st : Int) ρ m, (lo ≤ st ∧ st ≤ hi - len + 2 ∧ ρ 1 = .eptr [OW w] 0 ∧ ρ 2 = .eptr [I req] 0 ∧ ρ 3 = .ptr N 0 0 ∧ ρ 4 = .ptr N 1 0 ∧
   ∃ i junk tk its, ρ 5 = .ptr N (junk.length + 1 + 1) 0 ∧ m = (base i).push ⟨[.yield L] :: [S mis, I lo, I hi, I len, I val, .slice oa 1 (an.map rowI), I need] :: (junk ++ [[I st]]), tk⟩ ∧ its ++ possFrom w req st (hi - len + 2 - st).toNat = poss w req ∧ Ends Iv stop O done its true i) →
   ∃ b i', go AP f_w_possible_1 (.c (.loop b_w_possible_1_l0) :: k_w_possible_1_0) ⟨ρ, m⟩ = some (.tuple [], base i') ∧ Ends Iv stop O done (poss w req) b i' := by
  refine loop_exi (hi - len + 1) _ (fun r => ∃ b i', r = some (.tuple [], base i') ∧ Ends Iv stop O done (poss w req) b i') ?_ ?_
  ·rintro st ρ m hst ⟨hst0, hst1, h1, h2, h3, h4, i, junk, tk, its, h5, rfl, hits, hE⟩ ih
   have hN' := hN i
   have hd : decide (st + len - 1 ≤ hi) = true := decide_eq_true (by omega)
   have kin : ∀ (j : Nat) ρ m, j ≤ an.length → (ρ 1 = .eptr [OW w] 0 ∧ ρ 2 = .eptr [I req] 0 ∧ ρ 3 = .ptr N 0 0 ∧ ρ 4 = .ptr N 1 0 ∧ ρ 5 = .ptr N (junk.length + 1 + 1) 0 ∧ ρ 33 = .slice oa 1 (an.map rowI) ∧ ρ 34 = I an.length ∧ ρ 35 = I j ∧
     ∃ og tk, Acc (base i).acts.length 1 (((an.take j).filter fun a => openB w a st len).map rowI) (ρ 6) og tk ∧ m = (base i).push ⟨[.yield L] :: [S mis, I lo, I hi, I len, I val, .slice oa 1 (an.map rowI), I need] :: (junk ++ [[I st]]), tk⟩) →
     ∃ b i', go AP f_w_possible_1 (.c (.loop b_w_possible_1_l2) :: k_w_possible_1_2) ⟨ρ, m⟩ = some (.tuple [], base i') ∧ Ends Iv stop O done (poss w req) b i' := by
    refine loop_ex an.length _ (fun r => ∃ b i', r = some (.tuple [], base i') ∧ Ends Iv stop O done (poss w req) b i') ?_ ?_
    ·rintro j ρ m hj ⟨h1, h2, h3, h4, h5, h33, h34, h35, og, tk, hA, rfl⟩ ih2
     obtain ⟨a, ha⟩ := get_some hj
     have ham := anin a (List.mem_of_getElem? ha)
     have hr := ix_map (f := rowI) (o := oa) (es := 1) ha
     have hop : ∀ r, callL AP (.fn 119) [OW w, I a, I st, I len] ((base i).push r) = some (B (openB w a st len), (base i).push r) := fun r => w_isOpen hw ham.1 ham.2 (by omega) (by omega) (by omega)
     rw [← hN i] at h3 h4 h5
     have hfl : (an.take (j + 1)).filter (fun a => openB w a st len) = (an.take j).filter (fun a => openB w a st len) ++ if openB w a st len = true then [a] else [] := by
      rw [take_get ha, List.filter_append]; simp only [List.filter_cons, List.filter_nil]
     have hfll : ((an.take j).filter (fun a => openB w a st len)).length ≤ an.length := by
      have := List.length_filter_le (fun a => openB w a st len) (an.take j)
      rw [List.length_take] at this; omega
     cases hob : openB w a st len with
     | false =>
      rw [hob] at hop
      simp (maxSteps := 1000000) only [go_sem, b_w_possible_1_l2, h1, h4, h5, h33, h34, h35, lt_dec hj, hr, hop, wrap_succ hj (show (an.length : Int) < _ by omega), Nat.reduceEqDiff, Nat.reduceAdd, ↓reduceIte]
      refine ih2 _ _ ?_
      refine ⟨h1, h2, by rw [← hN i]; exact h3, by rw [← hN i]; exact h4, by rw [← hN i]; exact h5, h33, h34, rfl, og, tk, ?_, rfl⟩
      rw [hfl, hob, if_neg (by simp), List.append_nil]
      exact hA
     | true =>
      rw [hob] at hop
      obtain ⟨x', og', tk', ha1, ha2, _⟩ := hA.append (h.ok i) .full (ys := [[I a]]) (by simp) (by simp; omega)
      simp (maxSteps := 1000000) only [go_sem, b_w_possible_1_l2, h1, h4, h5, h33, h34, h35, lt_dec hj, hr, hop, ha1, wrap_succ hj (show (an.length : Int) < _ by omega), Nat.reduceEqDiff, Nat.reduceAdd, ↓reduceIte]
      refine ih2 _ _ ?_
      refine ⟨h1, h2, by rw [← hN i]; exact h3, by rw [← hN i]; exact h4, by rw [← hN i]; exact h5, h33, h34, rfl, og', tk', ?_, rfl⟩
      rw [hfl, hob, if_pos rfl, List.map_append]
      exact ha2
    ·rintro ρ m ⟨h1, h2, h3, h4, h5, h33, h34, h35, og, tk, hA, rfl⟩
     rw [List.take_length] at hA
     have hready : (an.filter fun a => openB w a st len) = readyA w (w.rq req) st := by rw [hqe]; rfl
     rw [hready] at hA
     have hrl : (readyA w (w.rq req) st).length ≤ 6 := by
      rw [← hready]
      have := List.length_filter_le (fun a => openB w a st len) an
      omega
     obtain ⟨nd, rfl⟩ : ∃ nd : Nat, need = nd := ⟨need.toNat, by omega⟩
     obtain ⟨o6, e6, r6, h6⟩ : ∃ o6 e6 r6, ρ 6 = .slice o6 e6 r6 := by
      cases og with
      | none => exact ⟨_, _, _, hA.2⟩
      | some g => exact ⟨_, _, _, hA.2.1⟩
     have hcl := hA.close
     rw [h6] at hcl
     have hsg : ∀ r, callL AP (.fn 120) [.slice o6 e6 r6, I (nd : Int)] ((base i).push r) = some (.fn 139 [] [.eptr [I nd] 0, .eptr [accV 1 ((readyA w (w.rq req) st).map rowI)] 0], (base i).push r) := fun r => s_groups hcl ((h.ok i).push r)
     have hpf : possFrom w req st (hi - len + 2 - st).toNat = possAt w req st ++ possFrom w req (st + 1) (hi - len + 2 - (st + 1)).toNat := by
      rw [show (hi - len + 2 - st).toNat = (hi - len + 2 - (st + 1)).toNat + 1 by omega]; rfl
     have hpa : possAt w req st = (grps nd (readyA w (w.rq req) st)).map fun g => (⟨req, st, cpI g⟩ : P) := by
      have : (w.rq req).need = nd := by rw [hqe]
      rw [possAt, this, Int.toNat_natCast]
     have fin : ∀ ρ' : Nat → AV, ρ' 1 = .eptr [OW w] 0 → ρ' 2 = .eptr [I req] 0 → ρ' 3 = .ptr N 0 0 → ρ' 4 = .ptr N 1 0 → ρ' 5 = .ptr N (junk.length + 1 + 1) 0 → ρ' 53 = .fn 139 [] [.eptr [I nd] 0, .eptr [accV 1 ((readyA w (w.rq req) st).map rowI)] 0] →
       ∃ b i', go AP f_w_possible_1 (.c (.rangeFunc (.tmp 53) [54] b_w_possible_1_a1 b_w_possible_1_y1) :: .blk 4 :: .blk 1 :: .c b_w_possible_1_r0 :: .lp b_w_possible_1_l0 :: [.blk 0]) ⟨ρ', (base i).push ⟨[.yield L] :: [S mis, I lo, I hi, I len, I val, .slice oa 1 (an.map rowI), I nd] :: (junk ++ [[I st]]), tk⟩⟩ = some (.tuple [], base i') ∧ Ends Iv stop O done (poss w req) b i' := by
      intro ρ' g1 g2 g3 g4 g5 g53
      obtain ⟨b, i', hE2, hgo⟩ := poss_range (F := f_w_possible_1) (ks := .blk 4 :: .blk 1 :: .c b_w_possible_1_r0 :: .lp b_w_possible_1_l0 :: [.blk 0]) h (R := ⟨[.yield L] :: [S mis, I lo, I hi, I len, I val, .slice oa 1 (an.map rowI), I nd] :: (junk ++ [[I st]]), tk⟩) (ρ := ρ') (req := req) (st := st) (k := junk.length + 1 + 1) (d0 := done ++ its) (i := i) (ready := readyA w (w.rq req) st) (need := nd) (by omega) (by omega) (by omega) g2 g3 g5 g53 rfl (by simp) (by
       have hh := congrArg List.length hits
       rw [hpf, hpa] at hh
       simp only [List.length_append, List.length_map] at hh ⊢
       omega) hE.all (by
       intro g hg
       refine hX _ ?_
       rw [← hits, hpf, hpa]
       exact List.mem_append_right _ (List.mem_append_left _ (List.mem_map.2 ⟨g, hg, rfl⟩)))
      rw [hgo]
      rw [← hpa] at hE2
      cases b with
      | false =>
       refine ⟨false, i', ?_, ?_⟩
       ·simp (maxSteps := 1000000) only [go_sem, Bool.false_eq_true, ↓reduceIte]
       ·rw [← hits, hpf, ← List.append_assoc]
        exact (hE.app_t hE2).app_f _
      | true =>
       have hN'' := hN i'
       have g5' := g5
       rw [← hN''] at g5'
       simp (maxSteps := 1000000) only [go_sem, b_w_possible_1_r0, g5', h.ok i', wrap_id (x := st + 1) (by omega) (by omega), Nat.reduceEqDiff, Nat.reduceAdd, ↓reduceIte]
       refine ih _ _ ?_
       refine ⟨by omega, by omega, g1, g2, g3, g4, i', junk ++ [[I st]], tk, its ++ possAt w req st, ?_, ?_, ?_, hE.app_t hE2⟩
       ·rw [← hN'']; simp [put]
       ·simp
       ·rw [List.append_assoc, ← hpf, hits]
     have h4' := h4
     rw [← hN i] at h4
     simp (maxSteps := 1000000) only [go_sem, b_w_possible_1_l2, b_w_possible_1_r1, h4, h34, h35, h6, ge_dec, hsg, Nat.reduceEqDiff, Nat.reduceAdd, ↓reduceIte]
     exact fin _ h1 h2 h3 h4' h5 rfl
   rw [← hN i] at h4 h5
   simp (maxSteps := 1000000) only [go_sem, b_w_possible_1_l0, h4, h5, hd, wrap_id (x := st + len) (by omega) (by omega), wrap_id (x := st + len - 1) (by omega) (by omega), Nat.reduceEqDiff, Nat.reduceAdd, ↓reduceIte]
   refine kin 0 _ _ (Nat.zero_le _) ?_
   exact ⟨h1, h2, h3, by rw [← hN i]; exact h4, by rw [← hN i]; exact h5, rfl, rfl, rfl, none, tk, Acc.start, rfl⟩
  ·rintro st ρ m hst ⟨hst0, hst1, h1, h2, h3, h4, i, junk, tk, its, h5, rfl, hits, hE⟩
   have hd : decide (st + len - 1 ≤ hi) = false := decide_eq_false (by omega)
   rw [← hN i] at h4 h5
   simp (maxSteps := 1000000) only [go_sem, b_w_possible_1_l0, h4, h5, hd, wrap_id (x := st + len) (by omega) (by omega), wrap_id (x := st + len - 1) (by omega) (by omega), Nat.reduceEqDiff, Nat.reduceAdd, ↓reduceIte]
   refine ⟨true, i, rfl, ?_⟩
   rw [show (hi - len + 2 - st).toNat = 0 by omega] at hits
   simp only [possFrom, List.append_nil] at hits
   rw [← hits]; exact hE
 have hcw : closeAll [OW w] = some [OW w] := rfl
 rw [callL_go (show AP 118 = some c_w_possible_1 from rfl) rfl]
 simp only [OW]
 simp (maxSteps := 1000000) only [go_sem, b_w_possible_1, h.ok i, wk_2, hrs, Nat.reduceEqDiff, Nat.reduceAdd, ↓reduceIte]
 refine key lo _ _ ?_
 refine ⟨Int.le_refl _, by omega, rfl, rfl, by rw [← hN i]; rfl, by rw [← hN i]; rfl, i, [], [], [], by rw [← hN i]; rfl, rfl, ?_, ⟨rfl, by simpa using hI⟩⟩
 rw [poss, hqe]; rfl
theorem w_possible {i : Int} (hs : Ok s) : callL AP (.fn 85) [OW w, I i] s = some (.fn 118 [] [.eptr [OW w] 0, .eptr [I i] 0], s) := by
 rw [callL_go (show AP 85 = some c_w_possible from rfl) rfl]
 simp only [OW]
 simp (maxSteps := 1000000) only [go_sem, b_w_possible, Nat.reduceEqDiff, Nat.reduceAdd, ↓reduceIte]
end
end
end Go.Ax.Sx.Sc

namespace Go.Ax.Sx.Sc
open Go.Ax
set_option linter.unusedSimpArgs false
set_option linter.unusedVariables false
def plcs (w : W) (l : List P) (i : Int) : List P := (poss w i).filter fun x => !confs w x l
theorem possFrom_mem {w : W} {i : Int} {p : P} : ∀ {n : Nat} {st : Int}, p ∈ possFrom w i st n → ∃ t, st ≤ t ∧ t < st + n ∧ p ∈ possAt w i t
 | 0, _, h => by simp [possFrom] at h
 | n + 1, st, h => by
  simp only [possFrom, List.mem_append] at h
  rcases h with h | h
  ·exact ⟨st, Int.le_refl _, by omega, h⟩
  ·obtain ⟨t, h1, h2, h3⟩ := possFrom_mem h
   exact ⟨t, by omega, by omega, h3⟩
theorem poss_in {w : W} (hw : Wk w) {i : Int} (h0 : 0 ≤ i) (h1 : i < w.rs.l.length) {p : P} (hp : p ∈ poss w i) : PIn w p ∧ p.req = i ∧ (w.rq i).lo ≤ p.start ∧ p.start ≤ (w.rq i).hi - (w.rq i).len + 1 ∧ (p.an.l.length : Int) = (w.rq i).need ∧ p.an = cpI p.an.l ∧ p.an.l.Sublist (w.rq i).an.l ∧ ∀ a ∈ p.an.l, openB w a p.start (w.rq i).len = true := by
 have hq := hw.rq h0 h1
 have hn2 := hw.v.n2
 obtain ⟨t, h2, h3, h4⟩ := possFrom_mem hp
 obtain ⟨g, hg, rfl⟩ := List.mem_map.1 h4
 have hl := grps_len hg
 have hs := grps_mem hg
 have hs2 : g.Sublist (w.rq i).an.l := hs.trans List.filter_sublist
 have b1 := hq.lo0
 have b2 := hq.hin
 have b3 := hq.len1
 have b4 := hq.lenhi
 have b5 := hq.need1
 have b6 := hq.need2
 have b7 := hw.few.an _ (W.rq_mem h0 h1)
 have hgl : (g.length : Int) = (w.rq i).need := by omega
 refine ⟨⟨h0, h1, by show 0 ≤ t; omega, by show t ≤ 200; omega, fun a ha => hq.anin a (hs2.subset ha), cpI_ok, by show (g.length : Int) < _; omega⟩, rfl, h2, by show t ≤ _; omega, hgl, rfl, hs2, fun a ha => ?_⟩
 have := hs.subset ha
 exact (List.mem_filter.1 this).2
theorem grps_count : ∀ {k : Nat} {l : List Int}, (grps k l).length ≤ 2 ^ l.length
 | 0, l => by simp [grps]; exact Nat.one_le_two_pow
 | k + 1, [] => by simp [grps]
 | k + 1, x :: r => by
  have h1 := grps_count (k := k) (l := r)
  have h2 := grps_count (k := k + 1) (l := r)
  simp only [grps, List.length_append, List.length_map, List.length_cons, Nat.pow_succ]
  omega
theorem possFrom_count {w : W} {i : Int} {m : Nat} (h : ∀ st, (possAt w i st).length ≤ m) : ∀ {n : Nat} {st : Int}, (possFrom w i st n).length ≤ n * m
 | 0, _ => by simp [possFrom]
 | n + 1, st => by
  have h1 := h st
  have h2 := possFrom_count h (n := n) (st := st + 1)
  simp only [possFrom, List.length_append, Nat.add_mul]
  omega
theorem poss_count {w : W} (hw : Wk w) {i : Int} (h0 : 0 ≤ i) (h1 : i < w.rs.l.length) : (poss w i).length ≤ 13000 := by
 have hq := hw.rq h0 h1
 have hn2 := hw.v.n2
 have b1 := hq.lo0
 have b2 := hq.hin
 have b3 := hq.len1
 have b4 := hq.lenhi
 have b7 := hw.few.an _ (W.rq_mem h0 h1)
 have : ∀ st, (possAt w i st).length ≤ 64 := fun st => by
  rw [possAt, List.length_map]
  refine Nat.le_trans grps_count ?_
  have : (readyA w (w.rq i) st).length ≤ 6 := Nat.le_trans (List.length_filter_le _ _) b7
  calc 2 ^ (readyA w (w.rq i) st).length ≤ 2 ^ 6 := Nat.pow_le_pow_right (by decide) this
   _ = 64 := by decide
 have h2 := possFrom_count this (n := ((w.rq i).hi - (w.rq i).len + 2 - (w.rq i).lo).toNat) (st := (w.rq i).lo)
 have h3 : ((w.rq i).hi - (w.rq i).len + 2 - (w.rq i).lo).toNat ≤ 201 := by omega
 have h4 := Nat.mul_le_mul_right 64 h3
 unfold poss
 omega
section
variable {s : Sig} {w : W}
theorem plc_round {X T : Rec → Sig} {l d : Nat} {ρ : Nat → AV} {r : Rec} {p : P} {pl : List P} {done : List P} {o : Own} {e : Nat} (hM : Mid X d) (hX : ∀ r, busy l (T r) = X r) (hR : ∀ r, Ready l ⟨true, none, ρ, [12], b_w_placements_a0, b_w_placements_y0⟩ (T r)) (hok : ∀ r, Ok (T r)) (hw : Wk w) (hp : PIn w p) (hpl : ∀ x ∈ pl, PIn w x) (he : pl = [] ∨ e = 3) (hn : (pl.length : Int) < 9223372036854775808)
  (h3 : ρ 3 = .ptr d 0 0) (h4 : ρ 4 = .ptr d 1 0) (h7 : ρ 7 = .ptr d 2 0) (hd : done.length < 1000000)
  (hI : ∃ x og, r.boxes = [[OW w], [.slice o e (pl.map rowP)], [x]] ∧ Acc d 3 ((done.filter fun x => !confs w x pl).map rowP) x og r.toks) :
  ∃ r', callL AP (.yield l) [.agg (rowP p)] (T r) = some (.v (.bool true), T r') ∧ ∃ x og, r'.boxes = [[OW w], [.slice o e (pl.map rowP)], [x]] ∧ Acc d 3 (((done ++ [p]).filter fun x => !confs w x pl).map rowP) x og r'.toks := by
 obtain ⟨x, og, hb, hA⟩ := hI
 have hfin : ∀ r ρ' q, finR l .normal ⟨ρ', (X r).push q⟩ = some (.v (.bool true), T r) := fun r ρ' q => by rw [← hX]; exact finR_n (hR r)
 have hokX : ∀ r, Ok (X r) := fun r => by rw [← hX]; exact (hok r).busy
 have hTX : ∀ r, (T r).acts.length = (X r).acts.length := fun r => by rw [← hX]; rfl
 have k0 : ∀ q, ((X r).push q).box d 0 = some [OW w] := fun q => by rw [hM.box, hb]; rfl
 have k1 : ∀ q, ((X r).push q).box d 1 = some [.slice o e (pl.map rowP)] := fun q => by rw [hM.box, hb]; rfl
 have k2 : ∀ q, ((X r).push q).box d 2 = some [x] := fun q => by rw [hM.box, hb]; rfl
 have hc : ∀ q, callL AP (.fn 86) [OW w, .agg (rowP p), .slice o e (pl.map rowP)] ((X r).push q) = some (B (confs w p pl), (X r).push q) := fun q => w_conflicts ((hokX r).push q) hw hp hpl he hn
 have hlen : (done.filter fun x => !confs w x pl).length ≤ done.length := List.length_filter_le _ _
 have hpc : closeAll (rowP p) = some (rowP p) := by
  simp only [rowP, closeAll_cons, closeAll_nil, close_int, Sl.close hp.ok]; rfl
 rw [callL_round (hR r) rfl]
 simp only [rowP, Sl.v] at hc hpc ⊢
 cases hcf : confs w p pl with
 | true =>
  rw [hcf] at hc
  refine ⟨r, ?_, x, og, hb, ?_⟩
  ·simp (maxSteps := 1000000) only [go_sem, b_w_placements_a0, finA_n (hR r), hok r, setParams_1, Nat.reduceEqDiff, ↓reduceIte]
   simp (maxSteps := 1000000) only [go_sem, b_w_placements_y0, hX, hTX, h3, h4, k0, k1, hc, hfin, Nat.reduceEqDiff, ↓reduceIte]
  ·rw [List.filter_append]
   simpa [hcf] using hA
 | false =>
  rw [hcf] at hc
  obtain ⟨x1, m1, r0', x', og', tk', a1, a2, a3, a4, a5, a6⟩ := hM.append (r0 := ⟨[rowP p], []⟩) hA .full (ys := [rowP p]) (by simp) (by simp; omega) (b := 2) (by rw [hb]; simp) ⟨x, by rw [hb]; rfl⟩
  refine ⟨⟨r.boxes.set 2 [x'], tk'⟩, ?_, x', og', ?_, ?_⟩
  ·simp only [rowP, Sl.v] at a1 a2
   simp (maxSteps := 1000000) only [go_sem, b_w_placements_a0, finA_n (hR r), hok r, setParams_1, Nat.reduceEqDiff, ↓reduceIte]
   simp (maxSteps := 1000000) only [go_sem, b_w_placements_y0, hX, hTX, h3, h4, h7, k0, k1, k2, hc, hfin, hpc, a1, a2, Nat.reduceEqDiff, ↓reduceIte]
  ·rw [hb]; rfl
  ·rw [List.filter_append, List.map_append]
   have : List.map rowP (List.filter (fun x => !confs w x pl) [p]) = [rowP p] := by simp [hcf]
   rw [this]; exact a4
abbrev plcB (s : Sig) (ρ : Nat → AV) (r : Rec) : Sig := enterLoop (s.push r) ⟨true, none, ρ, [12], b_w_placements_a0, b_w_placements_y0⟩
theorem plc_hand {ρ : Nat → AV} {pl : List P} {o : Own} {e : Nat} (hs : Ok s) (hw : Wk w) (hpl : ∀ x ∈ pl, PIn w x) (he : pl = [] ∨ e = 3) (hn : (pl.length : Int) < 9223372036854775808)
  (h3 : ρ 3 = .ptr s.acts.length 0 0) (h4 : ρ 4 = .ptr s.acts.length 1 0) (h7 : ρ 7 = .ptr s.acts.length 2 0) :
  Hand AP s.loops.length (fun p => .agg (rowP p)) (plcB s ρ) (fun done r => ∃ x og, r.boxes = [[OW w], [.slice o e (pl.map rowP)], [x]] ∧ Acc s.acts.length 3 ((done.filter fun x => !confs w x pl).map rowP) x og r.toks)
   (fun _ _ => false) (fun _ _ _ => False) (PIn w) (s.acts.length + 1) (s.loops.length + 1) 100000 := by
 refine ⟨fun r => (hs.push _).enter, fun r => by simp [plcB, enterLoop, Sig.push], fun r => by simp [plcB, enterLoop, Sig.push], ?_, fun _ _ _ _ _ _ _ _ h => by cases h⟩
 intro done p r B ls hd hI hp _
 have hM : Mid (fun r => up (busy s.loops.length (enterLoop (s.push r) ⟨true, none, ρ, [12], b_w_placements_a0, b_w_placements_y0⟩)) B ls) s.acts.length := mid_loop hs
 have hX : ∀ r, busy s.loops.length (up (plcB s ρ r) B ls) = (fun r => up (busy s.loops.length (enterLoop (s.push r) ⟨true, none, ρ, [12], b_w_placements_a0, b_w_placements_y0⟩)) B ls) r := fun r => up_busy (by simp [enterLoop, Sig.push])
 exact plc_round (T := fun r => up (plcB s ρ r) B ls) hM hX (fun r => up_ready (enter_ready (hs.push r))) (fun r => ((hs.push _).enter).up) hw hp hpl he hn h3 h4 h7 (by omega) hI
theorem w_placements {pl : List P} {o : Own} {e : Nat} {i : Int} (hs : Ok s) (hw : Wk w) (hpl : ∀ x ∈ pl, PIn w x) (he : pl = [] ∨ e = 3) (hn : (pl.length : Int) < 9223372036854775808) (h0 : 0 ≤ i) (h1 : i < w.rs.l.length) :
  callL AP (.fn 56) [OW w, .slice o e (pl.map rowP), I i] s = some (accV 3 ((plcs w pl i).map rowP), s) := by
 have key : ∀ ρ : Nat → AV, ρ 3 = .ptr s.acts.length 0 0 → ρ 4 = .ptr s.acts.length 1 0 → ρ 7 = .ptr s.acts.length 2 0 → ρ 11 = .fn 118 [] [.eptr [OW w] 0, .eptr [I i] 0] →
   go AP f_w_placements (.c (.rangeFunc (.tmp 11) [12] b_w_placements_a0 b_w_placements_y0) :: .blk 0 :: [.c b_w_placements_r0]) ⟨ρ, s.push ⟨[[OW w], [.slice o e (pl.map rowP)], [.slice .nilS 0 []]], []⟩⟩ = some (accV 3 ((plcs w pl i).map rowP), s) := by
  intro ρ h3 h4 h7 h11
  obtain ⟨b, r', hc, hE⟩ := poss_calls (plc_hand hs hw hpl he hn h3 h4 h7) hw h0 h1 (i := ⟨[[OW w], [.slice o e (pl.map rowP)], [.slice .nilS 0 []]], []⟩) (done := []) (by have := poss_count hw h0 h1; simp; omega) ⟨_, none, rfl, Acc.start⟩ (fun p hp => (poss_in hw h0 h1 hp).1)
  obtain ⟨rfl, x, og, hb, hA⟩ := hE.never (fun _ _ => rfl)
  rw [go_range (x := .tmp 11) h11]
  refine (congrArg (Option.bind · _) hc).trans ?_
  simp only [Option.bind_some]
  refine (goL_normal (m := s.push r') (lp := ⟨true, none, ρ, [12], b_w_placements_a0, b_w_placements_y0⟩) rfl rfl rfl).trans ?_
  obtain ⟨bx, tk⟩ := r'
  simp only at hb hA
  subst hb
  have hA' : Acc s.acts.length 3 ((plcs w pl i).map rowP) x og tk := hA
  simp (maxSteps := 1000000) only [go_sem, b_w_placements_r0, h7, hA'.leave, ↓reduceIte]
 have hp : ∀ r, callL AP (.fn 85) [OW w, I i] (s.push r) = some (.fn 118 [] [.eptr [OW w] 0, .eptr [I i] 0], s.push r) := fun r => w_possible (hs.push r)
 rw [callL_go (show AP 56 = some c_w_placements from rfl) rfl]
 simp only [OW] at key hp ⊢
 simp (maxSteps := 1000000) only [go_sem, b_w_placements, hp, Nat.reduceEqDiff, Nat.reduceAdd, ↓reduceIte]
 exact key _ rfl rfl rfl rfl
def acS {α : Type} (e : Nat) : List α → Sl α
 | [] => ⟨.nilS, 0, []⟩
 | x :: r => ⟨.any, e, x :: r⟩
theorem acS_v {α : Type} {e : Nat} {f : α → List AV} {l : List α} : accV e (l.map f) = (acS e l).v f := by cases l <;> rfl
theorem acS_l {α : Type} {e : Nat} {l : List α} : (acS e l).l = l := by cases l <;> rfl
theorem acS_ok {α : Type} {e : Nat} {l : List α} : (acS e l).ok e := by
 cases l with
 | nil => exact ⟨.inl rfl, .inr (.inr ⟨rfl, rfl⟩)⟩
 | cons a r => exact ⟨.inr rfl, .inl rfl⟩
abbrev rowC (c : Sl P × Bool) : List AV := [c.1.v rowP, B c.2]
attribute [go_sem] rowC
abbrev CH (w : W) (o : Own) (e : Nat) (all : List (Sl P × Bool)) : AV := .agg [OW w, .slice o e (all.map rowC)]
def freeUp (w : W) (n : Nat) : List (Sl P × Bool) := (List.range n).map fun i => (acS 3 (plcs w [] (i : Nat)), true)
def freeC (w : W) : List (Sl P × Bool) := freeUp w w.rs.l.length
theorem freeUp_s {w : W} {n : Nat} : freeUp w (n + 1) = freeUp w n ++ [(acS 3 (plcs w [] (n : Nat)), true)] := by
 simp [freeUp, List.range_succ]
theorem freeUp_len {w : W} {n : Nat} : (freeUp w n).length = n := by simp [freeUp]
theorem Acc.sl {d es : Nat} {xs : List (List AV)} {x : AV} {og : Option Nat} {toks : List (Option Nat)} (h : Acc d es xs x og toks) : ∃ o e r, x = .slice o e r := by
 cases og with
 | none => exact ⟨_, _, _, h.2⟩
 | some g => exact ⟨_, _, _, h.2.1⟩
theorem w_free (hs : Ok s) (hw : Wk w) : callL AP (.fn 33) [OW w] s = some (.agg [OW w, accV 2 ((freeC w).map rowC)], s) := by
 have hrl := hw.v.rl
 have hpl : ∀ (q : Sig) (i : Nat), i < w.rs.l.length → callL AP (.fn 56) [OW w, .slice .nilS 0 [], I i] (roS q) = some (accV 3 ((plcs w [] (i : Nat)).map rowP), roS q) := fun q i hi => w_placements (pl := []) ok_roS hw (by simp) (.inl rfl) (by simp) (by omega) (by omega)
 have hcl : ∀ i : Nat, closeAll (rowC (acS 3 (plcs w [] (i : Nat)), true)) = some (rowC (acS 3 (plcs w [] (i : Nat)), true)) := fun i => by
  simp only [rowC, closeAll_cons, closeAll_nil, close_bool, Sl.close (f := rowP) (acS_ok (e := 3) (l := plcs w [] (i : Nat)))]; rfl
 have key : ∀ (j : Nat) ρ m, j ≤ w.rs.l.length → (ρ 0 = OW w ∧ ρ 2 = .ptr s.acts.length 0 0 ∧ ρ 3 = .ptr s.acts.length 1 0 ∧ ρ 12 = I w.rs.l.length ∧ ρ 13 = I j ∧
   ∃ x og tk, Acc s.acts.length 2 ((freeUp w j).map rowC) x og tk ∧ m = s.push ⟨[[NP, .slice .nilS 0 []], [OW w, x]], tk⟩) → go AP f_w_free (.c (.loop b_w_free_l0) :: k_w_free_0) ⟨ρ, m⟩ = some (.agg [OW w, accV 2 ((freeC w).map rowC)], s) := by
  refine loop_up w.rs.l.length _ _ ?_ ?_
  ·rintro j ρ m hj ⟨h0, h2, h3, h12, h13, x, og, tk, hA, rfl⟩ ih
   obtain ⟨x', og', tk', ha1, ha2, _⟩ := hA.append hs .full (ys := [rowC (acS 3 (plcs w [] (j : Nat)), true)]) (by simp) (by simp [freeUp]; omega)
   have hcl := hcl j
   simp only [rowC, acS_v] at ha1 ha2 hcl
   have hpl := fun q => hpl q j hj
   simp only [acS_v, Sl.v] at hpl ha1 ha2 hcl
   obtain ⟨o', e', r', rfl⟩ := Acc.sl ha2
   simp only [OW] at h0 hpl ⊢
   simp (maxSteps := 1000000) only [go_sem, b_w_free_l0, h0, h3, h12, h13, hs, lt_dec hj, hpl, hcl, ha1, wrap_succ hj (show (w.rs.l.length : Int) < _ by omega), Nat.reduceEqDiff, reduceCtorEq, Nat.reduceAdd, ↓reduceIte]
   refine ih _ _ ?_
   refine ⟨by simp only [OW]; exact h0, h2, h3, h12, rfl, _, og', tk', ?_, by simp only [OW]; rfl⟩
   rw [freeUp_s, List.map_append]
   exact ha2
  ·rintro ρ m ⟨h0, h2, h3, h12, h13, x, og, tk, hA, rfl⟩
   have hlv := hA.leavec
   have hxc := hA.close
   obtain ⟨o', e', r', rfl⟩ := Acc.sl hA
   simp only [OW] at h0 ⊢
   simp (maxSteps := 1000000) only [go_sem, b_w_free_l0, b_w_free_r0, h2, h3, h12, h13, hs, ge_dec, hlv, Nat.reduceEqDiff, ↓reduceIte]
   rfl
 rw [callL_go (show AP 33 = some c_w_free from rfl) rfl]
 simp only [OW] at key ⊢
 simp (maxSteps := 1000000) only [go_sem, b_w_free, hs, wk_2, Nat.reduceEqDiff, reduceCtorEq, Nat.reduceAdd, ↓reduceIte]
 refine key 0 _ _ (Nat.zero_le _) ?_
 exact ⟨rfl, rfl, rfl, rfl, rfl, _, none, [], Acc.start, rfl⟩
end
end Go.Ax.Sx.Sc

namespace Go.Ax.Sx.Sc
open Go.Ax
set_option linter.unusedSimpArgs false
set_option linter.unusedVariables false
theorem bv_nat {a : Nat} (h : a < 2 ^ 63) : (BitVec.ofInt 64 (a : Int)).toNat = a := by
 have e : BitVec.ofInt 64 (a : Int) = BitVec.ofNat 64 a := BitVec.ofInt_natCast ..
 rw [e, BitVec.toNat_ofNat]
 exact Nat.mod_eq_of_lt (Nat.lt_trans h (by decide))
theorem p63 : (2 : Nat) ^ 63 = 9223372036854775808 := by decide
theorem ar_and {a b : Nat} (ha : a < 2 ^ 63) (hb : b < 2 ^ 63) : arithOp .and (I (a : Int)) (I (b : Int)) = some (I ((a &&& b : Nat) : Int)) := by
 have h : ((BitVec.ofInt 64 (a : Int) &&& BitVec.ofInt 64 (b : Int)).toNat : Int) = ((a &&& b : Nat) : Int) := by rw [BitVec.toNat_and, bv_nat ha, bv_nat hb]
 have hl : (a &&& b) ≤ a := Nat.and_le_left
 rw [p63] at ha
 have hw : IntKind.i64.wrap ((a &&& b : Nat) : Int) = ((a &&& b : Nat) : Int) := wrap_id (by omega) (by omega)
 show Option.map AV.v (some (Value.int IntKind.i64 (IntKind.i64.wrap ((BitVec.ofInt 64 (a : Int) &&& BitVec.ofInt 64 (b : Int)).toNat : Int)))) = _
 rw [h, hw]; rfl
theorem ar_or {a b : Nat} (ha : a < 2 ^ 63) (hb : b < 2 ^ 63) : arithOp .or (I (a : Int)) (I (b : Int)) = some (I ((a ||| b : Nat) : Int)) := by
 have h : ((BitVec.ofInt 64 (a : Int) ||| BitVec.ofInt 64 (b : Int)).toNat : Int) = ((a ||| b : Nat) : Int) := by rw [BitVec.toNat_or, bv_nat ha, bv_nat hb]
 have hl : (a ||| b) < 2 ^ 63 := Nat.or_lt_two_pow ha hb
 rw [p63] at hl
 have hw : IntKind.i64.wrap ((a ||| b : Nat) : Int) = ((a ||| b : Nat) : Int) := wrap_id (by omega) (by omega)
 show Option.map AV.v (some (Value.int IntKind.i64 (IntKind.i64.wrap ((BitVec.ofInt 64 (a : Int) ||| BitVec.ofInt 64 (b : Int)).toNat : Int)))) = _
 rw [h, hw]; rfl
theorem ar_shrn {a k : Nat} (hk : k ≤ 64) : arithOp .shr (I (a : Int)) (I (k : Int)) = some (I ((a / 2 ^ k : Nat) : Int)) := by
 have h1 : ¬ ((k : Int) < 0) := by omega
 have h2 : min ((k : Int)).toNat IntKind.i64.bits = k := by
  rw [Int.toNat_natCast]; exact Nat.min_eq_left hk
 have h3 : ((a : Int)).fdiv (2 ^ k) = ((a / 2 ^ k : Nat) : Int) := by
  rw [Int.fdiv_eq_ediv_of_nonneg _ (Int.pow_nonneg (by decide))]
  rw [Int.natCast_ediv]; simp
 show Option.map AV.v (shiftOp .shr .i64 (a : Int) (k : Int)) = _
 unfold shiftOp
 rw [if_neg h1]
 simp only [h2, h3]
 rfl
theorem ar_shln {k : Nat} (hk : k ≤ 62) : arithOp .shl (I 1) (I (k : Int)) = some (I ((2 ^ k : Nat) : Int)) := by
 have h1 : ¬ ((k : Int) < 0) := by omega
 have h2 : min ((k : Int)).toNat IntKind.i64.bits = k := by
  rw [Int.toNat_natCast]; exact Nat.min_eq_left (by show k ≤ 64; omega)
 have h3 : ((1 : Int) * 2 ^ k) = (((2 : Nat) ^ k : Nat) : Int) := by simp
 have h4 : (2 : Nat) ^ k < 9223372036854775808 := by rw [← p63]; exact Nat.pow_lt_pow_right (by decide) (by omega)
 generalize (2 : Nat) ^ k = q at *
 show Option.map AV.v (shiftOp .shl .i64 1 (k : Int)) = _
 unfold shiftOp
 rw [if_neg h1]
 simp only [h2, h3]
 rw [wrap_id (by omega) (by omega)]
 rfl
theorem ar_and1 {a : Nat} (ha : a < 2 ^ 63) : arithOp .and (I (a : Int)) (I 1) = some (I ((a % 2 : Nat) : Int)) := by
 have := ar_and (a := a) (b := 1) ha (by decide)
 rw [Nat.and_one_is_mod] at this; exact this
def memsUp (m n : Nat) : List Int := ((List.range n).filter fun i => m.testBit i).map fun i : Nat => (i : Int)
def mems (m : Nat) : List Int := memsUp m 62
theorem memsUp_s {m n : Nat} : memsUp m (n + 1) = memsUp m n ++ if m.testBit n = true then [(n : Int)] else [] := by
 simp only [memsUp, List.range_succ, List.filter_append, List.map_append, List.filter_cons, List.filter_nil]
 cases m.testBit n <;> simp
theorem memsUp_len {m n : Nat} : (memsUp m n).length ≤ n := by
 simp only [memsUp, List.length_map]
 have := List.length_filter_le (fun i => m.testBit i) (List.range n)
 simpa using this
theorem memsUp_end {m n k : Nat} (h : m / 2 ^ n = 0) (hk : n ≤ k) : memsUp m k = memsUp m n := by
  induction k with
  | zero => have : n = 0 := by omega
            subst this; rfl
  | succ k ih =>
    by_cases e : n = k + 1
    · rw [e]
    · rw [memsUp_s, ih (by omega)]
      have hlt : m < 2 ^ n := by
        have := Nat.div_eq_zero_iff.1 h
        rcases this with h | h
        · exact absurd h (Nat.ne_of_gt (Nat.two_pow_pos n))
        · exact h
      have : m.testBit k = false := Nat.testBit_lt_two_pow (Nat.lt_of_lt_of_le hlt (Nat.pow_le_pow_right (by decide) (by omega)))
      rw [this]; simp
theorem mems_mem {m : Nat} {i : Int} (h : i ∈ mems m) : 0 ≤ i ∧ i < 62 ∧ m.testBit i.toNat = true := by
 obtain ⟨k, hk, rfl⟩ := List.mem_map.1 h
 obtain ⟨h1, h2⟩ := List.mem_filter.1 hk
 have := List.mem_range.1 h1
 exact ⟨by omega, by omega, by simpa using h2⟩
theorem mems_lt {m n : Nat} (h : m < 2 ^ n) {i : Int} (hi : i ∈ mems m) : 0 ≤ i ∧ i < n := by
 obtain ⟨h1, _, h2⟩ := mems_mem hi
 refine ⟨h1, ?_⟩
 apply Classical.byContradiction
 intro hc
 have : m.testBit i.toNat = false := Nat.testBit_lt_two_pow (Nat.lt_of_lt_of_le h (Nat.pow_le_pow_right (by decide) (by omega)))
 rw [this] at h2; cases h2
section
variable {s : Sig} {w : W}
theorem s_openSmall_1 {r : R} (hs : Ok s) (h1 : -1000 ≤ r.lo) (h2 : r.lo ≤ 1000) (h3 : -1000 ≤ r.hi) (h4 : r.hi ≤ 1000) (h5 : -1000 ≤ r.len) (h6 : r.len ≤ 1000) : callL AP (.fn 53) [.agg (rowR r)] s = some (B (decide (8 < r.hi - r.lo + 2 - r.len)), s) := by
 rw [callL_go (show AP 53 = some c_s_openSmall_1 from rfl) rfl]
 simp (maxSteps := 1000000) only [go_sem, b_s_openSmall_1, wrap_id (x := r.hi - r.lo) (by omega) (by omega), wrap_id (x := r.hi - r.lo + 2) (by omega) (by omega), wrap_id (x := r.hi - r.lo + 2 - r.len) (by omega) (by omega), Nat.reduceEqDiff, Nat.reduceAdd, ↓reduceIte]
def smallB (w : W) : Bool := decide (w.rs.l.length ≤ 6) && !w.rs.l.any fun r => decide (8 < r.hi - r.lo + 2 - r.len)
theorem s_openSmall {w : W} (hs : Ok s) (hw : w.Ok) (hf : w.Few) : callL AP (.fn 32) [w.v] s = some (.tuple [if (weekE w).2.2 = 0 then OW w else NP, I (if (weekE w).2.2 = 0 then (cond (smallB w) 0 8) else (weekE w).2.2)], s) := by
 by_cases he : (weekE w).2.2 = 0
 ·have ho : ∀ r, callL AP (.fn 52) [w.v] (s.push r) = some (.tuple [OW w, I 0], s.push r) := fun r => s_open (hs.push r) hw hf he
  have hv := weekE_ok he
  have hcf : ∀ r, callL AP (.fn 54) [.slice w.rs.o w.rs.e (w.rs.l.map rowR), .fn 53 [] []] (s.push r) = some (B (w.rs.l.any fun r => decide (8 < r.hi - r.lo + 2 - r.len)), s.push r) := fun r =>
   z_ContainsFunc_ScheduleRequest hw.rs.1 (by have := hv.rl; omega) fun a ha r q => by
    have := hv.r a ha
    have h1 := this.lo0
    have h2 := this.lohi
    have h3 := this.hin
    have h4 := this.len1
    have h5 := this.lenhi
    have h6 := hv.n2
    exact s_openSmall_1 (((hs.push _).push _).push _) (by omega) (by omega) (by omega) (by omega) (by omega) (by omega)
  have h6 : decide ((w.rs.l.length : Int) ≤ 6) = decide (w.rs.l.length ≤ 6) := by
   by_cases h : w.rs.l.length ≤ 6
   ·rw [decide_eq_true h, decide_eq_true (by omega)]
   ·rw [decide_eq_false h, decide_eq_false (by omega)]
  rw [if_pos he, if_pos he]
  rw [callL_go (show AP 32 = some c_s_openSmall from rfl) rfl]
  simp only [W.v, rowW, Sl.v] at ho
  simp only [OW] at ho ⊢
  simp (maxSteps := 1000000) only [go_sem, b_s_openSmall, ho, ne_eq, not_true, hcf, s_unless, h6, smallB, Nat.reduceEqDiff, Nat.reduceAdd, ↓reduceIte]
 ·have ho : ∀ r, callL AP (.fn 52) [w.v] (s.push r) = some (.tuple [NP, I (weekE w).2.2], s.push r) := fun r => s_open_bad (hs.push r) hw hf he
  rw [if_neg he, if_neg he]
  rw [callL_go (show AP 32 = some c_s_openSmall from rfl) rfl]
  simp only [W.v, rowW, Sl.v] at ho
  simp (maxSteps := 1000000) only [go_sem, b_s_openSmall, ho, ne_eq, he, not_false_iff, Nat.reduceEqDiff, Nat.reduceAdd, ↓reduceIte]
theorem s_members {m : Nat} (hm : m < 2 ^ 62) (hs : Ok s) : callL AP (.fn 87) [I (m : Int)] s = some (accV 1 ((mems m).map rowI), s) := by
 have hm63 : m < 2 ^ 63 := Nat.lt_trans hm (by decide)
 have key : ∀ (j : Nat) ρ x, j ≤ 62 → (ρ 0 = I (m : Int) ∧ ρ 4 = I j ∧ ∃ og tk, Acc s.acts.length 1 ((memsUp m j).map rowI) (ρ 3) og tk ∧ x = s.push ⟨[], tk⟩) → go AP f_s_members (.c (.loop b_s_members_l0) :: k_s_members_0) ⟨ρ, x⟩ = some (accV 1 ((mems m).map rowI), s) := by
  have stop : ∀ (j : Nat) (ρ : Nat → AV) (x : Sig), m / 2 ^ j = 0 → j ≤ 62 → (ρ 0 = I (m : Int) ∧ ρ 4 = I j ∧ ∃ og tk, Acc s.acts.length 1 ((memsUp m j).map rowI) (ρ 3) og tk ∧ x = s.push ⟨[], tk⟩) →
    go AP f_s_members (.c b_s_members_l0 :: .lp b_s_members_l0 :: k_s_members_0) ⟨ρ, x⟩ = some (accV 1 ((mems m).map rowI), s) := by
   rintro j ρ x h0 hj ⟨g0, g4, og, tk, hA, rfl⟩
   have e : mems m = memsUp m j := memsUp_end h0 hj
   simp (maxSteps := 1000000) only [go_sem, b_s_members_l0, b_s_members_r0, g0, g4, ar_shrn (a := m) (k := j) (by omega), h0, hA.leave, Nat.reduceEqDiff, Int.reduceLT, Int.cast_ofNat_Int, ↓reduceIte]
   rw [e]
  refine loop_up 62 _ _ ?_ ?_
  ·rintro j ρ x hj hP ih
   by_cases h0 : m / 2 ^ j = 0
   ·exact stop j ρ x h0 (by omega) hP
   ·obtain ⟨g0, g4, og, tk, hA, rfl⟩ := hP
    have hd : decide ((0 : Int) < ((m / 2 ^ j : Nat) : Int)) = true := decide_eq_true (by generalize m / 2 ^ j = q at *; omega)
    have hlt : m / 2 ^ j < 2 ^ 63 := Nat.lt_of_le_of_lt (Nat.div_le_self _ _) hm63
    have hand := ar_and1 (a := m / 2 ^ j) hlt
    have hw := wrap_succ hj (show ((62 : Nat) : Int) < _ by decide)
    have ht : decide (((m / 2 ^ j % 2 : Nat) : Int) = 1) = m.testBit j := by
     rw [Nat.testBit_eq_decide_div_mod_eq]
     generalize m / 2 ^ j = q at *
     by_cases h : q % 2 = 1
     ·rw [decide_eq_true h, decide_eq_true (by omega)]
     ·rw [decide_eq_false h, decide_eq_false (by omega)]
    have hl := memsUp_len (m := m) (n := j)
    cases hb : m.testBit j with
    | false =>
     rw [hb] at ht
     simp (maxSteps := 1000000) only [go_sem, b_s_members_l0, g0, g4, ar_shrn (a := m) (k := j) (by omega), hd, hand, ht, hw, Nat.reduceEqDiff, reduceCtorEq, ↓reduceIte]
     refine ih _ _ ?_
     refine ⟨g0, rfl, og, tk, ?_, rfl⟩
     rw [memsUp_s, hb, if_neg (by simp), List.append_nil]; exact hA
    | true =>
     rw [hb] at ht
     obtain ⟨x', og', tk', ha1, ha2, _⟩ := hA.append hs .full (ys := [[I (j : Int)]]) (by simp) (by simp; omega)
     simp (maxSteps := 1000000) only [go_sem, b_s_members_l0, g0, g4, ar_shrn (a := m) (k := j) (by omega), hd, hand, ht, ha1, hw, Nat.reduceEqDiff, reduceCtorEq, ↓reduceIte]
     refine ih _ _ ?_
     refine ⟨g0, rfl, og', tk', ?_, rfl⟩
     rw [memsUp_s, hb, if_pos rfl, List.map_append]; exact ha2
  ·rintro ρ x hP
   exact stop 62 ρ x (Nat.div_eq_of_lt hm) (Nat.le_refl _) hP
 rw [callL_go (show AP 87 = some c_s_members from rfl) rfl]
 simp (maxSteps := 1000000) only [go_sem, b_s_members]
 refine key 0 _ _ (Nat.zero_le _) ?_
 exact ⟨rfl, rfl, none, [], Acc.start, rfl⟩
def sumV (w : W) : List Int → Int
 | [] => 0
 | i :: r => (w.rq i).val + sumV w r
theorem sumV_app {w : W} : ∀ {l r : List Int}, sumV w (l ++ r) = sumV w l + sumV w r
 | [], r => by simp [sumV]
 | i :: l, r => by simp only [List.cons_append, sumV, sumV_app]; omega
theorem sumV_bd (hw : Wk w) : ∀ {l : List Int}, (∀ i ∈ l, 0 ≤ i ∧ i < w.rs.l.length) → 0 ≤ sumV w l ∧ sumV w l ≤ 100000 * l.length
 | [], _ => by simp [sumV]
 | i :: l, h => by
  have h1 := sumV_bd hw (l := l) fun j hj => h j (List.mem_cons_of_mem _ hj)
  have h2 := h i (List.mem_cons_self ..)
  have h3 := hw.rq h2.1 h2.2
  have := h3.val0
  have := h3.val1
  simp only [sumV, List.length_cons]; omega
def worthB (w : W) (m : Nat) : Int := sumV w (mems m)
structure AllOk (w : W) (e : Nat) (all : List (Sl P × Bool)) : Prop where
 e : all = [] ∨ e = 2
 len : all.length = w.rs.l.length
 ok : ∀ c ∈ all, c.1.ok 3
 cnt : ∀ c ∈ all, c.1.l.length ≤ 13000
 pin : ∀ c ∈ all, ∀ p ∈ c.1.l, PIn w p
 req : ∀ (i : Nat) (c : Sl P × Bool), all[i]? = some c → ∀ p ∈ c.1.l, p.req = i
theorem mems_len {m : Nat} : (mems m).length ≤ 62 := memsUp_len
theorem c_worth {o : Own} {e : Nat} {all : List (Sl P × Bool)} {m : Nat} (hs : Ok s) (hw : Wk w) (hm : m < 2 ^ w.rs.l.length) : callL AP (.fn 57) [CH w o e all, I (m : Int)] s = some (I (worthB w m), s) := by
 have hrl := hw.v.rl
 have hm62 : m < 2 ^ 62 := Nat.lt_of_lt_of_le hm (Nat.pow_le_pow_right (by decide) (by omega))
 have hin : ∀ i ∈ mems m, 0 ≤ i ∧ i < w.rs.l.length := fun i hi => mems_lt hm hi
 have hml := mems_len (m := m)
 have key : ∀ (j : Nat) ρ x, j ≤ (mems m).length → (ρ 2 = .ptr s.acts.length 0 0 ∧ ρ 5 = I (sumV w ((mems m).take j)) ∧ ρ 9 = accV 1 ((mems m).map rowI) ∧ ρ 10 = I (mems m).length ∧ ρ 11 = I j ∧ x = s.push ⟨[[OW w, .slice o e (all.map rowC)]], []⟩) → go AP f_c_worth (.c (.loop b_c_worth_l0) :: k_c_worth_0) ⟨ρ, x⟩ = some (I (worthB w m), s) := by
  refine loop_up (mems m).length _ _ ?_ ?_
  ·rintro j ρ x hj ⟨h2, h5, h9, h10, h11, rfl⟩ ih
   obtain ⟨i, hi⟩ := get_some hj
   have hii := hin i (List.mem_of_getElem? hi)
   have hr := ix_acc (es := 1) (xs := (mems m).map rowI) (k := j) (row := rowI i) (by rw [List.getElem?_map, hi]; rfl)
   have hb := sumV_bd hw (l := (mems m).take j) fun a ha => hin a (List.mem_of_mem_take ha)
   have hq := hw.rq hii.1 hii.2
   have q0 := hq.val0
   have q1 := hq.val1
   have hl : ((mems m).take j).length ≤ 62 := by rw [List.length_take]; omega
   simp only [OW]
   simp (maxSteps := 1000000) only [go_sem, b_c_worth_l0, h2, h5, h9, h10, h11, lt_dec hj, hr, wk_2, ix_rs hw hii.1 hii.2, wrap_id (x := sumV w ((mems m).take j) + (w.rq i).val) (by omega) (by omega), wrap_succ hj (show ((mems m).length : Int) < _ by omega), Nat.reduceEqDiff, Nat.reduceAdd, ↓reduceIte]
   refine ih _ _ ?_
   refine ⟨h2, ?_, h9, h10, rfl, rfl⟩
   rw [take_get hi, sumV_app]; simp [sumV, put]
  ·rintro ρ x ⟨h2, h5, h9, h10, h11, rfl⟩
   rw [List.take_length] at h5
   simp (maxSteps := 1000000) only [go_sem, b_c_worth_l0, b_c_worth_r0, h5, h10, h11, ge_dec, Nat.reduceEqDiff, ↓reduceIte]
   rfl
 have hmb : ∀ r, callL AP (.fn 87) [I (m : Int)] (s.push r) = some (accV 1 ((mems m).map rowI), s.push r) := fun r => s_members hm62 (hs.push r)
 rw [callL_go (show AP 57 = some c_c_worth from rfl) rfl]
 simp only [OW] at key ⊢
 simp (maxSteps := 1000000) only [go_sem, b_c_worth, hmb, Nat.reduceEqDiff, Nat.reduceAdd, ↓reduceIte]
 refine key 0 _ _ (Nat.zero_le _) ?_
 exact ⟨rfl, rfl, rfl, rfl, rfl, rfl⟩
def permF (m : Nat) : Nat → List (Sl P × Bool) → Bool
 | _, [] => true
 | k, c :: r => (c.2 || m.testBit k) && permF m (k + 1) r
def permB (all : List (Sl P × Bool)) (m : Nat) : Bool := permF m 0 all
theorem permF_get {m k : Nat} {all : List (Sl P × Bool)} {c : Sl P × Bool} (h : all[k]? = some c) : permF m k (all.drop k) = ((c.2 || m.testBit k) && permF m (k + 1) (all.drop (k + 1))) := by
 rw [drop_get h]; rfl
theorem c_isPermitted {o : Own} {e : Nat} {all : List (Sl P × Bool)} {m : Nat} (hs : Ok s) (he : all = [] ∨ e = 2) (hl : all.length ≤ 12) (hm : m < 2 ^ 62) : callL AP (.fn 58) [CH w o e all, I (m : Int)] s = some (B (permB all m), s) := by
 have hm63 : m < 2 ^ 63 := Nat.lt_trans hm (by decide)
 have key : ∀ (j : Nat) ρ x, j ≤ all.length → (ρ 1 = I (m : Int) ∧ ρ 8 = .slice o e (all.map rowC) ∧ ρ 9 = I all.length ∧ ρ 10 = I j ∧ ∃ bx, x = s.push ⟨bx, []⟩) → go AP f_c_isPermitted (.c (.loop b_c_isPermitted_l0) :: k_c_isPermitted_0) ⟨ρ, x⟩ = some (B (permF m j (all.drop j)), s) := by
  refine loop_up all.length _ _ ?_ ?_
  ·rintro j ρ x hj ⟨h1, h8, h9, h10, bx, rfl⟩ ih
   obtain ⟨c, hc⟩ := get_some hj
   have he2 : e = 2 := by rcases he with h | h; (rw [h] at hc; simp at hc); exact h
   subst he2
   have hr := ix_map (f := rowC) (o := o) (es := 2) hc
   have hlt : m / 2 ^ j < 2 ^ 63 := Nat.lt_of_le_of_lt (Nat.div_le_self _ _) hm63
   have ht : decide (((m / 2 ^ j % 2 : Nat) : Int) = 0) = !m.testBit j := by
    rw [Nat.testBit_eq_decide_div_mod_eq]
    generalize m / 2 ^ j = q at *
    by_cases h : q % 2 = 1
    ·rw [decide_eq_true h, decide_eq_false (by omega)]; rfl
    ·rw [decide_eq_false h, decide_eq_true (by omega)]; rfl
   rw [permF_get hc]
   simp (maxSteps := 1000000) only [go_sem, b_c_isPermitted_l0, h1, h8, h9, h10, hs, lt_dec hj, hr, ar_shrn (a := m) (k := j) (by omega), ar_and1 hlt, ht, wrap_succ hj (show (all.length : Int) < _ by omega), Nat.reduceEqDiff, Nat.reduceAdd, ↓reduceIte]
   cases hc2 : c.2 <;> cases hb : m.testBit j <;> simp (maxSteps := 1000000) only [go_sem, Bool.not_false, Bool.not_true, Bool.or_true, Bool.or_false] <;> first
    | rfl
    | (refine ih _ _ ?_; exact ⟨h1, h8, h9, rfl, _, rfl⟩)
  ·rintro ρ x ⟨h1, h8, h9, h10, bx, rfl⟩
   simp (maxSteps := 1000000) only [go_sem, b_c_isPermitted_l0, b_c_isPermitted_r0, h9, h10, ge_dec, ↓reduceIte]
   rw [List.drop_length]; rfl
 rw [callL_go (show AP 58 = some c_c_isPermitted from rfl) rfl]
 simp only [CH, OW]
 simp (maxSteps := 1000000) only [go_sem, b_c_isPermitted, Nat.reduceEqDiff, Nat.reduceAdd, ↓reduceIte]
 refine key 0 _ _ (Nat.zero_le _) ?_
 exact ⟨rfl, rfl, rfl, rfl, _, rfl⟩
def wo (w : W) (p : P) (l : List P) : List P := l.filter fun x => !conf w x p
theorem w_without {l : List P} {p : P} {o : Own} {e : Nat} (hs : Ok s) (hw : Wk w) (he : l = [] ∨ e = 3) (hl : l.length ≤ 13000) (hin : ∀ x ∈ l, PIn w x) (hp : PIn w p) : callL AP (.fn 88) [OW w, .slice o e (l.map rowP), .agg (rowP p)] s = some (accV 3 ((wo w p l).map rowP), s) := by
 have key : ∀ (j : Nat) ρ x, j ≤ l.length → (ρ 0 = OW w ∧ ρ 5 = .ptr s.acts.length 0 0 ∧ ρ 10 = .slice o e (l.map rowP) ∧ ρ 11 = I l.length ∧ ρ 12 = I j ∧ ∃ og tk bx, Acc s.acts.length 3 ((wo w p (l.take j)).map rowP) (ρ 7) og tk ∧ x = s.push ⟨rowP p :: bx, tk⟩) → go AP f_w_without (.c (.loop b_w_without_l0) :: k_w_without_0) ⟨ρ, x⟩ = some (accV 3 ((wo w p l).map rowP), s) := by
  refine loop_up l.length _ _ ?_ ?_
  ·rintro j ρ x hj ⟨h0, h5, h10, h11, h12, og, tk, bx, hA, rfl⟩ ih
   obtain ⟨y, hy⟩ := get_some hj
   have hym := hin y (List.mem_of_getElem? hy)
   have he3 : e = 3 := by rcases he with h | h; (rw [h] at hy; simp at hy); exact h
   subst he3
   have hr := ix_map (f := rowP) (o := o) (es := 3) hy
   have hcf : ∀ r, callL AP (.fn 123) [OW w, .agg (rowP y), .agg (rowP p)] (s.push r) = some (B (conf w y p), s.push r) := fun r => w_conflict (hs.push r) hw hym hp
   have hcl : closeAll (rowP y) = some (rowP y) := by
    simp only [rowP, closeAll_cons, closeAll_nil, close_int, Sl.close hym.ok]; rfl
   have hfl : wo w p (l.take (j + 1)) = wo w p (l.take j) ++ if conf w y p = true then [] else [y] := by
    unfold wo
    rw [take_get hy, List.filter_append]; cases h : conf w y p <;> simp [h]
   have hll : (wo w p (l.take j)).length ≤ 13000 := by
    have := List.length_filter_le (fun x => !conf w x p) (l.take j)
    rw [List.length_take] at this; unfold wo; omega
   simp only [rowP, Sl.v] at hcf hcl
   cases hc : conf w y p with
   | true =>
    rw [hc] at hcf
    simp (maxSteps := 1000000) only [go_sem, b_w_without_l0, h0, h5, h10, h11, h12, hs, lt_dec hj, hr, hcf, wrap_succ hj (show (l.length : Int) < _ by omega), Nat.reduceEqDiff, reduceCtorEq, ↓reduceIte]
    refine ih _ _ ?_
    refine ⟨h0, h5, h10, h11, rfl, og, tk, _, ?_, rfl⟩
    rw [hfl, hc, if_pos rfl, List.append_nil]; exact hA
   | false =>
    rw [hc] at hcf
    obtain ⟨x', og', tk', ha1, ha2, _⟩ := hA.append hs .full (ys := [rowP y]) (by simp) (by simp; omega)
    simp only [rowP, Sl.v] at ha1
    simp (maxSteps := 1000000) only [go_sem, b_w_without_l0, h0, h5, h10, h11, h12, hs, lt_dec hj, hr, hcf, hcl, ha1, wrap_succ hj (show (l.length : Int) < _ by omega), Nat.reduceEqDiff, reduceCtorEq, ↓reduceIte]
    refine ih _ _ ?_
    refine ⟨h0, h5, h10, h11, rfl, og', tk', _, ?_, rfl⟩
    rw [hfl, hc, if_neg (by simp), List.map_append]; exact ha2
  ·rintro ρ x ⟨h0, h5, h10, h11, h12, og, tk, bx, hA, rfl⟩
   rw [List.take_length] at hA
   simp (maxSteps := 1000000) only [go_sem, b_w_without_l0, b_w_without_r0, h11, h12, ge_dec, hA.leave, Nat.reduceEqDiff, ↓reduceIte]
 rw [callL_go (show AP 88 = some c_w_without from rfl) rfl]
 simp (maxSteps := 1000000) only [go_sem, b_w_without, Nat.reduceEqDiff, Nat.reduceAdd, ↓reduceIte]
 refine key 0 _ _ (Nat.zero_le _) ?_
 exact ⟨rfl, rfl, rfl, rfl, rfl, none, [], [], Acc.start, rfl⟩
theorem s_passOf_1 {p : P} {i : Int} {d b : Nat} (hs : Ok s) (hb : s.box d b = some [I i]) : callL AP (.fn 64) [.agg (rowP p), .ptr d b 0] s = some (B (decide (p.req = i)), s) := by
 rw [callL_go (show AP 64 = some c_s_passOf_1 from rfl) rfl]
 simp (maxSteps := 1000000) only [go_sem, b_s_passOf_1, box_keep hb, Nat.reduceEqDiff, Nat.reduceAdd, ↓reduceIte]
def pOf (l : List P) (i : Int) : Option P := l.find? fun x => decide (x.req = i)
def zeroP : P := ⟨0, 0, ⟨.nilS, 0, []⟩⟩
theorem find_findI {α : Type} {p : α → Bool} : ∀ {l : List α}, (l.find? p = none ∧ findI p l = -1) ∨ ∃ (k : Nat) (x : α), l.find? p = some x ∧ l[k]? = some x ∧ findI p l = k
 | [] => .inl ⟨rfl, rfl⟩
 | a :: r => by
  cases h : p a with
  | true => exact .inr ⟨0, a, by simp [h], rfl, by simp [findI, h]⟩
  | false =>
   rcases find_findI (p := p) (l := r) with ⟨h1, h2⟩ | ⟨k, x, h1, h2, h3⟩
   ·exact .inl ⟨by simp [h, h1], by simp [findI, h, h2]⟩
   ·exact .inr ⟨k + 1, x, by simp [h, h1], by simpa using h2, by simp only [findI, h, h3, Bool.false_eq_true, if_false]; rw [if_neg (by omega)]; simp⟩
theorem s_passOf {l : List P} {i : Int} {o : Own} {e : Nat} (hs : Ok s) (he : l = [] ∨ e = 3) (hn : (l.length : Int) < 9223372036854775808) (hok : ∀ p ∈ l, p.an.ok 1) :
  callL AP (.fn 36) [.slice o e (l.map rowP), I i] s = some (.tuple [.agg (rowP ((pOf l i).getD zeroP)), B (pOf l i).isSome], s) := by
 have hcf : ∀ b, callL AP (.fn 63) [.slice o e (l.map rowP), .fn 64 [] [.ptr s.acts.length 0 0]] (s.push ⟨[I i] :: b, []⟩) = some (I (findI (fun x => decide (x.req = i)) l), s.push ⟨[I i] :: b, []⟩) := fun b =>
  z_IndexFunc_SchedulePass he hn fun a ha r => s_passOf_1 ((hs.push _).push _) (box_keep box_at0 _)
 rw [callL_go (show AP 36 = some c_s_passOf from rfl) rfl]
 rcases find_findI (p := fun x : P => decide (x.req = i)) (l := l) with ⟨h1, h2⟩ | ⟨k, x, h1, h2, h3⟩
 ·rw [h2] at hcf
  have hp : pOf l i = none := h1
  simp (maxSteps := 1000000) only [go_sem, b_s_passOf, hs, hcf, hp, Nat.reduceEqDiff, reduceCtorEq, Nat.reduceAdd, Int.reduceLT, Int.reduceNeg, ↓reduceIte]
  rfl
 ·rw [h3] at hcf
  have hp : pOf l i = some x := h1
  have hd : decide ((k : Int) < 0) = false := decide_eq_false (by omega)
  have he3 : e = 3 := by rcases he with h | h; (rw [h] at h2; simp at h2); exact h
  subst he3
  have hr := ix_map (f := rowP) (o := o) (es := 3) h2
  have hlv := Sl.leavec (f := rowI) (m := s.push ⟨[[I i], rowP x], []⟩) (hok x (List.mem_of_getElem? h2))
  simp only [rowP, Sl.v] at hlv
  simp (maxSteps := 1000000) only [go_sem, b_s_passOf, hs, hcf, hp, hd, hr, hlv, Nat.reduceEqDiff, reduceCtorEq, Nat.reduceAdd, ↓reduceIte]
  rfl
def shortF (l : List (List P)) : Nat → Nat → Nat
 | 0, b => b
 | n + 1, b => let k := l.length - (n + 1); shortF l n (if (l.getD k []).length < (l.getD b []).length then k else b)
def shortI (l : List (List P)) : Nat := shortF l l.length 0
theorem shortF_lt {l : List (List P)} : ∀ {n b : Nat}, n ≤ l.length → b < l.length → shortF l n b < l.length
 | 0, b, _, hb => hb
 | n + 1, b, hn, hb => by
  simp only [shortF]
  refine shortF_lt (by omega) ?_
  split <;> omega
theorem shortI_lt {l : List (List P)} (h : l ≠ []) : shortI l < l.length := shortF_lt (Nat.le_refl _) (List.length_pos_iff.2 h)
def fitN' (w : W) : Nat → List (List P) → Bool
 | 0, _ => true
 | n + 1, l => (l.getD (shortI l) []).any fun p => fitN' w n ((l.eraseIdx (shortI l)).map (wo w p))
def fit (w : W) (l : List (List P)) : Bool := fitN' w l.length l
abbrev rowL (x : Sl P) : List AV := [x.v rowP]
attribute [go_sem] rowL
structure LsOk (w : W) (l : List (Sl P)) : Prop where
 len : l.length ≤ 12
 ok : ∀ x ∈ l, x.ok 3
 cnt : ∀ x ∈ l, x.l.length ≤ 13000
 pin : ∀ x ∈ l, ∀ p ∈ x.l, PIn w p
theorem getD_map {l : List (Sl P)} {k : Nat} {x : Sl P} (h : l[k]? = some x) : (l.map (·.l)).getD k [] = x.l := by
 simp [List.getD, List.getElem?_map, h]
end
end Go.Ax.Sx.Sc

namespace Go.Ax.Sx.Sc
open Go.Ax
set_option linter.unusedSimpArgs false
set_option linter.unusedVariables false
theorem erase_take {α : Type} {l : List α} {j s : Nat} {x : α} (h : l[j]? = some x) : (l.take (j + 1)).eraseIdx s = (l.take j).eraseIdx s ++ if j = s then [] else [x] := by
 have hj := (List.getElem?_eq_some_iff.1 h).1
 have hl : (l.take j).length = j := by rw [List.length_take]; omega
 rw [take_get h]
 by_cases h1 : s < j
 ·rw [List.eraseIdx_append_of_lt_length (by omega), if_neg (by omega)]
 ·rw [List.eraseIdx_append_of_length_le (by omega), hl, List.eraseIdx_of_length_le (l := l.take j) (by omega)]
  by_cases h2 : j = s
  ·subst h2; simp
  ·rw [if_neg h2]
   obtain ⟨d, hd⟩ : ∃ d, s - j = d + 1 := ⟨s - j - 1, by omega⟩
   rw [hd]; rfl
theorem wo_len {w : W} {p : P} {l : List P} : (wo w p l).length ≤ l.length := List.length_filter_le _ _
theorem wo_mem {w : W} {p x : P} {l : List P} (h : x ∈ wo w p l) : x ∈ l := (List.mem_filter.1 h).1
def restS (w : W) (p : P) (l : List (Sl P)) : List (Sl P) := l.map fun x => acS 3 (wo w p x.l)
theorem restS_l {w : W} {p : P} {l : List (Sl P)} : (restS w p l).map (·.l) = (l.map (·.l)).map (wo w p) := by
 simp [restS, acS_l, Function.comp_def]
theorem eraseIdx_map' {α β : Type} {f : α → β} : ∀ {l : List α} {i : Nat}, (l.map f).eraseIdx i = (l.eraseIdx i).map f
 | [], _ => rfl
 | a :: l, 0 => rfl
 | a :: l, i + 1 => by simp only [List.map_cons, List.eraseIdx_cons_succ, eraseIdx_map' (l := l)]
section
variable {s : Sig} {w : W}
theorem LsOk.rest {l : List (Sl P)} {i : Nat} {p : P} (h : LsOk w l) : LsOk w (restS w p (l.eraseIdx i)) := by
 have hm : ∀ x ∈ l.eraseIdx i, x ∈ l := fun x hx => List.mem_of_mem_eraseIdx hx
 refine ⟨?_, fun y hy => ?_, fun y hy => ?_, fun y hy q hq => ?_⟩
 ·have := List.length_eraseIdx_le l i
  have := h.len
  simp [restS]; omega
 all_goals
  obtain ⟨x, hx, rfl⟩ := List.mem_map.1 hy
 ·exact acS_ok
 ·rw [acS_l]; exact Nat.le_trans wo_len (h.cnt x (hm x hx))
 ·rw [acS_l] at hq; exact h.pin x (hm x hx) q (wo_mem hq)
theorem w_fit (hw : Wk w) : ∀ (n : Nat) (s : Sig) (l : List (Sl P)) (o : Own) (e : Nat), Ok s → l.length = n → (l = [] ∨ e = 1) → LsOk w l → callL AP (.fn 89) [OW w, .slice o e (l.map rowL)] s = some (B (fit w (l.map (·.l))), s) := by
 intro n
 induction n with
 | zero =>
  intro s l o e hs hn he hl
  have : l = [] := List.eq_nil_of_length_eq_zero hn
  subst this
  rw [callL_go (show AP 89 = some c_w_fit from rfl) rfl]
  simp (maxSteps := 1000000) only [go_sem, b_w_fit, Nat.reduceEqDiff, Int.cast_ofNat_Int, ↓reduceIte]
  rfl
 | succ n ihn =>
  intro s l o e hs hn he hl
  have hne : l ≠ [] := by intro h; rw [h] at hn; simp at hn
  have he1 : e = 1 := by rcases he with h | h; exact absurd h hne; exact h
  subst he1
  have hlen := hl.len
  generalize hL : l.map (·.l) = L
  have hLl : L.length = l.length := by rw [← hL]; simp
  have hLne : L ≠ [] := by intro h; rw [h] at hLl; simp at hLl; omega
  have hsh := shortI_lt hLne
  obtain ⟨ys, hys⟩ := get_some (l := l) (k := shortI L) (by omega)
  have hysm := List.mem_of_getElem? hys
  have hyL : L.getD (shortI L) [] = ys.l := by rw [← hL] at *; exact getD_map hys
  have hyc := hl.cnt ys hysm
  have hyp := hl.pin ys hysm
  have hyo := hl.ok ys hysm
  have hfit : fit w L = ys.l.any fun p => fitN' w n ((L.eraseIdx (shortI L)).map (wo w p)) := by
   unfold fit
   rw [hLl, hn, fitN', hyL]
  rw [hfit]
  have kout : ∀ (j : Nat) ρ x, j ≤ ys.l.length → (ρ 0 = OW w ∧ ρ 1 = .slice o 1 (l.map rowL) ∧ ρ 5 = I (shortI L) ∧ ρ 36 = ys.v rowP ∧ ρ 37 = I ys.l.length ∧ ρ 38 = I j ∧ ∃ bx tk, x = s.push ⟨bx, tk⟩) →
    go AP f_w_fit (.c (.loop b_w_fit_l0) :: k_w_fit_0) ⟨ρ, x⟩ = some (B ((ys.l.drop j).any fun p => fitN' w n ((L.eraseIdx (shortI L)).map (wo w p))), s) := by
   refine loop_up ys.l.length _ _ ?_ ?_
   ·rintro j ρ x hj ⟨h0, h1, h5, h36, h37, h38, bx, tk, rfl⟩ ih
    obtain ⟨p, hp⟩ := get_some hj
    have hpp := hyp p (List.mem_of_getElem? hp)
    have hr := Sl.ix (f := rowP) hyo hp
    have hrs : ∀ x : Sl P, restS w p [x] = [acS 3 (wo w p x.l)] := fun _ => rfl
    have kin : ∀ (q : Nat) ρ x, q ≤ l.length → (ρ 0 = OW w ∧ ρ 1 = .slice o 1 (l.map rowL) ∧ ρ 5 = I (shortI L) ∧ ρ 9 = .ptr s.acts.length bx.length 0 ∧ ρ 36 = ys.v rowP ∧ ρ 37 = I ys.l.length ∧ ρ 38 = I j ∧ ρ 42 = .slice o 1 (l.map rowL) ∧ ρ 43 = I l.length ∧ ρ 44 = I q ∧
      ∃ og tk, Acc s.acts.length 1 ((restS w p ((l.take q).eraseIdx (shortI L))).map rowL) (ρ 10) og tk ∧ x = s.push ⟨bx ++ [rowP p], tk⟩) →
      go AP f_w_fit (.c (.loop b_w_fit_l1) :: k_w_fit_1) ⟨ρ, x⟩ = some (B ((ys.l.drop j).any fun p => fitN' w n ((L.eraseIdx (shortI L)).map (wo w p))), s) := by
     refine loop_up l.length _ _ ?_ ?_
     ·rintro q ρ x hq ⟨h0, h1, h5, h9, h36, h37, h38, h42, h43, h44, og, tk, hA, rfl⟩ ih2
      obtain ⟨y, hy⟩ := get_some hq
      have hym := List.mem_of_getElem? hy
      have hr := ix_map (f := rowL) (o := o) (es := 1) hy
      have hcnt := hl.cnt y hym
      have hwo : ∀ r, callL AP (.fn 88) [OW w, .slice y.o y.e (y.l.map rowP), .agg (rowP p)] (s.push r) = some (accV 3 ((wo w p y.l).map rowP), s.push r) := fun r => w_without (hs.push r) hw (hl.ok y hym).1 hcnt (hl.pin y hym) hpp
      have hcl := Sl.close (f := rowP) (acS_ok (e := 3) (l := wo w p y.l))
      have her := erase_take (s := shortI L) hy
      have hle : (restS w p ((l.take q).eraseIdx (shortI L))).length ≤ 12 := by
       have h1 := List.length_eraseIdx_le (l.take q) (shortI L)
       rw [List.length_take] at h1
       simp [restS]; omega
      by_cases hqs : q = shortI L
      ·have hd : decide ((q : Int) = (shortI L : Int)) = true := decide_eq_true (by omega)
       simp (maxSteps := 1000000) only [go_sem, b_w_fit_l1, h5, h42, h43, h44, lt_dec hq, hr, ne_eq, decide_not, hd, wrap_succ hq (show (l.length : Int) < _ by omega), Nat.reduceEqDiff, ↓reduceIte]
       refine ih2 _ _ ?_
       refine ⟨h0, h1, h5, h9, h36, h37, h38, h42, h43, rfl, og, tk, ?_, rfl⟩
       rw [her, if_pos hqs, List.append_nil]; exact hA
      ·have hd : decide ((q : Int) = (shortI L : Int)) = false := decide_eq_false (by omega)
       obtain ⟨x', og', tk', ha1, ha2, _⟩ := hA.append hs .full (ys := [rowL (acS 3 (wo w p y.l))]) (by simp) (by simp; omega)
       simp only [rowL, acS_v, Sl.v] at ha1 hwo hcl
       simp only [rowP, Sl.v] at hwo
       simp (maxSteps := 1000000) only [go_sem, b_w_fit_l1, h0, h5, h9, h42, h43, h44, lt_dec hq, hr, ne_eq, decide_not, hd, hwo, hcl, ha1, wrap_succ hq (show (l.length : Int) < _ by omega), Nat.reduceEqDiff, reduceCtorEq, ↓reduceIte]
       refine ih2 _ _ ?_
       refine ⟨h0, h1, h5, h9, h36, h37, h38, h42, h43, rfl, og', tk', ?_, rfl⟩
       have : restS w p ((l.take q).eraseIdx (shortI L) ++ [y]) = restS w p ((l.take q).eraseIdx (shortI L)) ++ [acS 3 (wo w p y.l)] := by simp [restS]
       rw [her, if_neg hqs, this, List.map_append]; exact ha2
     ·rintro ρ x ⟨h0, h1, h5, h9, h36, h37, h38, h42, h43, h44, og, tk, hA, rfl⟩
      rw [List.take_length] at hA
      have hok' : LsOk w (restS w p (l.eraseIdx (shortI L))) := hl.rest
      have hln : (restS w p (l.eraseIdx (shortI L))).length = n := by
       simp only [restS, List.length_map]
       rw [List.length_eraseIdx_of_lt (by omega)]; omega
      obtain ⟨o', e', hx, he'⟩ : ∃ o' e', ρ 10 = .slice o' e' ((restS w p (l.eraseIdx (shortI L))).map rowL) ∧ (restS w p (l.eraseIdx (shortI L)) = [] ∨ e' = 1) := by
       cases og with
       | none => obtain ⟨h1, h2⟩ := hA; exact ⟨_, _, by rw [h2, h1], .inl (by simpa using h1)⟩
       | some g => exact ⟨_, _, hA.2.1, .inr rfl⟩
      have hrec : ∀ r, callL AP (.fn 89) [OW w, .slice o' e' ((restS w p (l.eraseIdx (shortI L))).map rowL)] (s.push r) = some (B (fitN' w n ((L.eraseIdx (shortI L)).map (wo w p))), s.push r) := fun r => by
       rw [ihn (s.push r) (restS w p (l.eraseIdx (shortI L))) o' e' (hs.push r) hln he' hok', fit, restS_l, ← hL, ← eraseIdx_map', List.length_map, List.length_eraseIdx_of_lt (by rw [hL]; omega), List.length_map, hn]
       rfl
      rw [drop_get hp, List.any_cons]
      simp (maxSteps := 1000000) only [go_sem, b_w_fit_l1, b_w_fit_r2, b_w_fit_r1, h0, h43, h44, h38, ge_dec, hx, hrec, Nat.reduceEqDiff, reduceCtorEq, ↓reduceIte]
      cases fitN' w n ((L.eraseIdx (shortI L)).map (wo w p)) with
      | true => simp (maxSteps := 1000000) only [go_sem]; rfl
      | false =>
       simp (maxSteps := 1000000) only [go_sem, wrap_succ hj (show (ys.l.length : Int) < _ by omega)]
       refine (ih _ _ ?_).trans (by simp)
       exact ⟨h0, h1, h5, h36, h37, rfl, _, _, rfl⟩
    simp (maxSteps := 1000000) only [go_sem, b_w_fit_l0, h1, h36, h37, h38, hs, lt_dec hj, hr, Nat.reduceEqDiff, ↓reduceIte]
    refine kin 0 _ _ (Nat.zero_le _) ?_
    exact ⟨h0, h1, h5, rfl, h36, h37, h38, rfl, rfl, rfl, none, tk, by rw [show restS w p ((l.take 0).eraseIdx (shortI L)) = [] by simp [restS]]; exact Acc.start, rfl⟩
   ·rintro ρ x ⟨h0, h1, h5, h36, h37, h38, bx, tk, rfl⟩
    simp (maxSteps := 1000000) only [go_sem, b_w_fit_l0, b_w_fit_r0, h37, h38, ge_dec, ↓reduceIte]
    rw [List.drop_length]; rfl
  have ksh : ∀ (j : Nat) ρ x, j ≤ l.length → (ρ 0 = OW w ∧ ρ 1 = .slice o 1 (l.map rowL) ∧ ρ 16 = .slice o 1 (l.map rowL) ∧ ρ 17 = I l.length ∧ ρ 18 = I j ∧ (∃ b : Nat, ρ 5 = I b ∧ b < l.length ∧ shortF L (l.length - j) b = shortI L) ∧ x = s.push ⟨[], []⟩) →
    go AP f_w_fit (.c (.loop b_w_fit_l2) :: k_w_fit_2) ⟨ρ, x⟩ = some (B (ys.l.any fun p => fitN' w n ((L.eraseIdx (shortI L)).map (wo w p))), s) := by
   refine loop_up l.length _ _ ?_ ?_
   ·rintro j ρ x hj ⟨h0, h1, h16, h17, h18, ⟨b, h5, hb, hsf⟩, rfl⟩ ih
    obtain ⟨y, hy⟩ := get_some hj
    obtain ⟨z, hz⟩ := get_some hb
    have hr := ix_map (f := rowL) (o := o) (es := 1) hy
    have hr2 := ix_map (f := rowL) (o := o) (es := 1) hz
    have hgy : L.getD j [] = y.l := by rw [← hL]; exact getD_map hy
    have hgz : L.getD b [] = z.l := by rw [← hL]; exact getD_map hz
    have hst : shortF L (l.length - j) b = shortF L (l.length - (j + 1)) (if y.l.length < z.l.length then j else b) := by
     obtain ⟨d, hd⟩ : ∃ d, l.length - j = d + 1 := ⟨l.length - j - 1, by omega⟩
     rw [hd, shortF]
     rw [show L.length - (d + 1) = j by omega, hgy, hgz, show l.length - (j + 1) = d by omega]
    rw [hst] at hsf
    by_cases hlt : y.l.length < z.l.length
    ·have hd : decide ((y.l.length : Int) < (z.l.length : Int)) = true := decide_eq_true (by omega)
     rw [if_pos hlt] at hsf
     simp (maxSteps := 1000000) only [go_sem, b_w_fit_l2, h1, h5, h16, h17, h18, lt_dec hj, hr, hr2, hd, wrap_succ hj (show (l.length : Int) < _ by omega), Nat.reduceEqDiff, ↓reduceIte]
     refine ih _ _ ?_
     exact ⟨h0, h1, h16, h17, rfl, ⟨j, rfl, hj, hsf⟩, rfl⟩
    ·have hd : decide ((y.l.length : Int) < (z.l.length : Int)) = false := decide_eq_false (by omega)
     rw [if_neg hlt] at hsf
     simp (maxSteps := 1000000) only [go_sem, b_w_fit_l2, h1, h5, h16, h17, h18, lt_dec hj, hr, hr2, hd, wrap_succ hj (show (l.length : Int) < _ by omega), Nat.reduceEqDiff, ↓reduceIte]
     refine ih _ _ ?_
     exact ⟨h0, h1, h16, h17, rfl, ⟨b, h5, hb, hsf⟩, rfl⟩
   ·rintro ρ x ⟨h0, h1, h16, h17, h18, ⟨b, h5, hb, hsf⟩, rfl⟩
    rw [Nat.sub_self] at hsf
    have hbs : b = shortI L := hsf
    subst hbs
    have hr := ix_map (f := rowL) (o := o) (es := 1) hys
    simp (maxSteps := 1000000) only [go_sem, b_w_fit_l2, b_w_fit_r3, h1, h5, h17, h18, ge_dec, hr, Nat.reduceEqDiff, ↓reduceIte]
    refine kout 0 _ _ (Nat.zero_le _) ?_
    exact ⟨h0, h1, h5, rfl, rfl, rfl, [], [], rfl⟩
  have hd : decide ((l.length : Int) = 0) = false := decide_eq_false (by omega)
  rw [callL_go (show AP 89 = some c_w_fit from rfl) rfl]
  simp (maxSteps := 1000000) only [go_sem, b_w_fit, hd, Nat.reduceEqDiff, ↓reduceIte]
  refine ksh 0 _ _ (Nat.zero_le _) ?_
  exact ⟨rfl, rfl, rfl, rfl, rfl, ⟨0, rfl, by omega, by rw [Nat.sub_zero, ← hLl]; rfl⟩, rfl⟩
instance : Inhabited (Sl P × Bool) := ⟨(⟨.nilS, 0, []⟩, false)⟩
def woS (w : W) (plan : List P) (x : Sl P) : Sl P := plan.foldl (fun x p => acS 3 (wo w p x.l)) x
def opS (w : W) (all : List (Sl P × Bool)) (plan : List P) (l : List Int) : List (Sl P) := (l.filter fun i => (pOf plan i).isNone).map fun i => woS w plan (all.getD i.toNat default).1
def fitsB (w : W) (all : List (Sl P × Bool)) (plan : List P) (m : Nat) : Bool := fit w ((opS w all plan (mems m)).map (·.l))
theorem woS_s {plan : List P} {x : Sl P} {q : Nat} {p : P} (h : plan[q]? = some p) : woS w (plan.take (q + 1)) x = acS 3 (wo w p (woS w (plan.take q) x).l) := by
 rw [woS, take_get h, List.foldl_append]; rfl
theorem woS_ok {x : Sl P} (hx : x.ok 3) (hc : x.l.length ≤ 13000) (hp : ∀ p ∈ x.l, PIn w p) : ∀ {plan : List P}, (woS w plan x).ok 3 ∧ (woS w plan x).l.length ≤ 13000 ∧ ∀ p ∈ (woS w plan x).l, PIn w p := by
 intro plan
 induction plan generalizing x with
 | nil => exact ⟨hx, hc, hp⟩
 | cons a r ih => exact ih (x := acS 3 (wo w a x.l)) acS_ok (by rw [acS_l]; exact Nat.le_trans wo_len hc) (fun p h => by rw [acS_l] at h; exact hp p (wo_mem h))
theorem opS_s {all : List (Sl P × Bool)} {plan : List P} {l : List Int} {j : Nat} {i : Int} (h : l[j]? = some i) : opS w all plan (l.take (j + 1)) = opS w all plan (l.take j) ++ if (pOf plan i).isSome = true then [] else [woS w plan (all.getD i.toNat default).1] := by
 unfold opS
 rw [take_get h, List.filter_append, List.map_append]
 cases hp : pOf plan i <;> simp [hp]
theorem AllOk.get {e : Nat} {all : List (Sl P × Bool)} (h : AllOk w e all) {i : Int} (h0 : 0 ≤ i) (h1 : i < w.rs.l.length) : ∃ c, all[i.toNat]? = some c ∧ all.getD i.toNat default = c ∧ c ∈ all := by
 have hl := h.len
 obtain ⟨c, hc⟩ := get_some (l := all) (k := i.toNat) (by omega)
 exact ⟨c, hc, by simp [List.getD, hc], List.mem_of_getElem? hc⟩
theorem c_fits {o o2 : Own} {e e2 : Nat} {all : List (Sl P × Bool)} {plan : List P} {m : Nat} (hs : Ok s) (hw : Wk w) (hA0 : AllOk w e all) (hm : m < 2 ^ w.rs.l.length) (hp : ∀ p ∈ plan, PIn w p) (he2 : plan = [] ∨ e2 = 3) (hpl : plan.length ≤ 14) :
  callL AP (.fn 59) [CH w o e all, .slice o2 e2 (plan.map rowP), I (m : Int)] s = some (B (fitsB w all plan m), s) := by
 have hrl := hw.v.rl
 have hm62 : m < 2 ^ 62 := Nat.lt_of_lt_of_le hm (Nat.pow_le_pow_right (by decide) (by omega))
 have hin : ∀ i ∈ mems m, 0 ≤ i ∧ i < w.rs.l.length := fun i hi => mems_lt hm hi
 have hml := mems_len (m := m)
 have hopl : ∀ j, (opS w all plan ((mems m).take j)).length ≤ 62 := fun j => by
  have := List.length_filter_le (fun i => (pOf plan i).isNone) ((mems m).take j)
  rw [List.length_take] at this
  simp only [opS, List.length_map]; omega
 have hml12 : (mems m).length ≤ 12 := by
  have e : mems m = memsUp m w.rs.l.length := memsUp_end (Nat.div_eq_of_lt hm) (by omega)
  have := memsUp_len (m := m) (n := w.rs.l.length)
  rw [e]; omega
 have hLs : LsOk w (opS w all plan (mems m)) := by
  refine ⟨?_, ?_, ?_, ?_⟩
  ·have := List.length_filter_le (fun i => (pOf plan i).isNone) (mems m)
   simp only [opS, List.length_map]; omega
  all_goals
   intro x hx
   obtain ⟨i, hi, rfl⟩ := List.mem_map.1 hx
   have hi' := hin i (List.mem_filter.1 hi).1
   obtain ⟨c, hc1, hc2, hc3⟩ := hA0.get hi'.1 hi'.2
   rw [hc2]
   have := woS_ok (w := w) (hA0.ok c hc3) (hA0.cnt c hc3) (hA0.pin c hc3) (plan := plan)
  ·exact this.1
  ·exact this.2.1
  ·exact this.2.2
 have kout : ∀ (j : Nat) ρ x, j ≤ (mems m).length → (ρ 1 = .slice o2 e2 (plan.map rowP) ∧ ρ 3 = .ptr s.acts.length 0 0 ∧ ρ 16 = accV 1 ((mems m).map rowI) ∧ ρ 17 = I (mems m).length ∧ ρ 18 = I j ∧
   ∃ og tk bx, Acc s.acts.length 1 ((opS w all plan ((mems m).take j)).map rowL) (ρ 7) og tk ∧ x = s.push ⟨[OW w, .slice o e (all.map rowC)] :: bx, tk⟩) → go AP f_c_fits (.c (.loop b_c_fits_l0) :: k_c_fits_0) ⟨ρ, x⟩ = some (B (fitsB w all plan m), s) := by
  refine loop_up (mems m).length _ _ ?_ ?_
  ·rintro j ρ x hj ⟨h1, h3, h16, h17, h18, og, tk, bx, hA, rfl⟩ ih
   obtain ⟨i, hi⟩ := get_some hj
   have hii := hin i (List.mem_of_getElem? hi)
   have hr := ix_acc (es := 1) (xs := (mems m).map rowI) (k := j) (row := rowI i) (by rw [List.getElem?_map, hi]; rfl)
   obtain ⟨c, hc1, hc2, hc3⟩ := hA0.get hii.1 hii.2
   have he' : e = 2 := by rcases hA0.e with h | h; (rw [h] at hc1; simp at hc1); exact h
   subst he'
   have hrc := ix_map (f := rowC) (o := o) (es := 2) hc1
   rw [show ((i.toNat : Nat) : Int) = i by omega] at hrc
   have hpo : ∀ r, callL AP (.fn 36) [.slice o2 e2 (plan.map rowP), I i] (s.push r) = some (.tuple [.agg (rowP ((pOf plan i).getD zeroP)), B (pOf plan i).isSome], s.push r) := fun r => s_passOf (hs.push r) he2 (by omega) fun p h => (hp p h).ok
   have hos := opS_s (w := w) (all := all) (plan := plan) hi
   rw [hc2] at hos
   have hw18 := wrap_succ hj (show ((mems m).length : Int) < _ by omega)
   simp only [rowP, Sl.v] at hpo
   cases hso : (pOf plan i).isSome with
   | true =>
    rw [hso] at hpo
    simp (maxSteps := 1000000) only [go_sem, b_c_fits_l0, b_c_fits_r1, h1, h16, h17, h18, hs, lt_dec hj, hr, hpo, hw18, Nat.reduceEqDiff, ↓reduceIte]
    refine ih _ _ ?_
    refine ⟨h1, h3, h16, h17, rfl, og, tk, _, ?_, rfl⟩
    rw [hos, hso, if_pos rfl, List.append_nil]; exact hA
   | false =>
    rw [hso] at hpo
    have kin : ∀ (q : Nat) ρ x, q ≤ plan.length → (ρ 1 = .slice o2 e2 (plan.map rowP) ∧ ρ 3 = .ptr s.acts.length 0 0 ∧ ρ 12 = (woS w (plan.take q) c.1).v rowP ∧ ρ 16 = accV 1 ((mems m).map rowI) ∧ ρ 17 = I (mems m).length ∧ ρ 18 = I j ∧ ρ 35 = .slice o2 e2 (plan.map rowP) ∧ ρ 36 = I plan.length ∧ ρ 37 = I q ∧
      ∃ og tk bx, Acc s.acts.length 1 ((opS w all plan ((mems m).take j)).map rowL) (ρ 7) og tk ∧ x = s.push ⟨[OW w, .slice o 2 (all.map rowC)] :: bx, tk⟩) → go AP f_c_fits (.c (.loop b_c_fits_l1) :: k_c_fits_1) ⟨ρ, x⟩ = some (B (fitsB w all plan m), s) := by
     refine loop_up plan.length _ _ ?_ ?_
     ·rintro q ρ x hq ⟨h1, h3, h12, h16, h17, h18, h35, h36, h37, og, tk, bx, hA, rfl⟩ ih2
      obtain ⟨p, hp1⟩ := get_some hq
      have hpp := hp p (List.mem_of_getElem? hp1)
      have he3 : e2 = 3 := by rcases he2 with h | h; (rw [h] at hp1; simp at hp1); exact h
      subst he3
      have hr := ix_map (f := rowP) (o := o2) (es := 3) hp1
      have hwk := woS_ok (w := w) (hA0.ok c hc3) (hA0.cnt c hc3) (hA0.pin c hc3) (plan := plan.take q)
      have hwo : ∀ r, callL AP (.fn 88) [OW w, (woS w (plan.take q) c.1).v rowP, .agg (rowP p)] (s.push r) = some (accV 3 ((wo w p (woS w (plan.take q) c.1).l).map rowP), s.push r) := fun r => w_without (hs.push r) hw hwk.1.1 hwk.2.1 hwk.2.2 hpp
      simp only [rowP] at hwo
      simp (maxSteps := 1000000) only [go_sem, b_c_fits_l1, h3, h12, h35, h36, h37, hs, lt_dec hq, hr, hwo, wrap_succ hq (show (plan.length : Int) < _ by omega), Nat.reduceEqDiff, Nat.reduceAdd, ↓reduceIte]
      refine ih2 _ _ ?_
      refine ⟨h1, h3, ?_, h16, h17, h18, h35, h36, rfl, og, tk, _, hA, rfl⟩
      rw [woS_s hp1, ← acS_v]; rfl
     ·rintro ρ x ⟨h1, h3, h12, h16, h17, h18, h35, h36, h37, og, tk, bx, hA, rfl⟩
      rw [List.take_length] at h12
      have hwk := woS_ok (w := w) (hA0.ok c hc3) (hA0.cnt c hc3) (hA0.pin c hc3) (plan := plan)
      have hcl := Sl.close (f := rowP) hwk.1
      obtain ⟨x', og', tk', ha1, ha2, _⟩ := hA.append hs .full (ys := [rowL (woS w plan c.1)]) (by simp) (by have := hopl j; simp; omega)
      simp only [rowL, Sl.v] at ha1 h12 hcl
      simp (maxSteps := 1000000) only [go_sem, b_c_fits_l1, b_c_fits_r2, b_c_fits_r1, h12, h18, h36, h37, ge_dec, hcl, ha1, hw18, Nat.reduceEqDiff, ↓reduceIte]
      refine ih _ _ ?_
      refine ⟨h1, h3, h16, h17, rfl, og', tk', _, ?_, rfl⟩
      rw [hos, hso, if_neg (by simp), List.map_append]; exact ha2
    simp (maxSteps := 1000000) only [go_sem, b_c_fits_l0, h1, h3, h16, h17, h18, hs, lt_dec hj, hr, hpo, hrc, Nat.reduceEqDiff, Nat.reduceAdd, ↓reduceIte]
    refine kin 0 _ _ (Nat.zero_le _) ?_
    exact ⟨h1, h3, rfl, h16, h17, h18, rfl, rfl, rfl, og, tk, _, hA, rfl⟩
  ·rintro ρ x ⟨h1, h3, h16, h17, h18, og, tk, bx, hA, rfl⟩
   rw [List.take_length] at hA
   obtain ⟨o', e', hx, he'⟩ : ∃ o' e', ρ 7 = .slice o' e' ((opS w all plan (mems m)).map rowL) ∧ (opS w all plan (mems m) = [] ∨ e' = 1) := by
    cases og with
    | none => obtain ⟨h1, h2⟩ := hA; exact ⟨_, _, by rw [h2, h1], .inl (by simpa using h1)⟩
    | some g => exact ⟨_, _, hA.2.1, .inr rfl⟩
   have hrec : ∀ r, callL AP (.fn 89) [OW w, .slice o' e' ((opS w all plan (mems m)).map rowL)] (s.push r) = some (B (fitsB w all plan m), s.push r) := fun r => w_fit hw _ _ _ _ _ (hs.push r) rfl he' hLs
   simp (maxSteps := 1000000) only [go_sem, b_c_fits_l0, b_c_fits_r0, h3, h17, h18, ge_dec, hx, hrec, Nat.reduceEqDiff, Nat.reduceAdd, ↓reduceIte]
 have hmb : ∀ r, callL AP (.fn 87) [I (m : Int)] (s.push r) = some (accV 1 ((mems m).map rowI), s.push r) := fun r => s_members hm62 (hs.push r)
 rw [callL_go (show AP 59 = some c_c_fits from rfl) rfl]
 simp only [CH, OW] at kout ⊢
 simp (maxSteps := 1000000) only [go_sem, b_c_fits, hmb, Nat.reduceEqDiff, Nat.reduceAdd, ↓reduceIte]
 refine kout 0 _ _ (Nat.zero_le _) ?_
 exact ⟨rfl, rfl, rfl, rfl, rfl, none, [], [], Acc.start, rfl⟩
end
end Go.Ax.Sx.Sc
