/- A part of the proof. -/
import Derived.Test.YtolmeamlfkbafaaT11
namespace Go.Ax.Sx.Cm
open Go.Ax
set_option linter.unusedSimpArgs false
set_option linter.unusedVariables false
set_option maxRecDepth 100000
abbrev resF : AExit → St → Option (AV × Sig) := inlF [(.tmp 4), (.tmp 5)]
theorem first0 {m : Sig} {l : List Int} (hl : (l.length : Int) < 9223372036854775808) (h : ∀ x ∈ l, x = 0) : callL AP (.fn 24) [.slice .full 1 (ints l)] m = some (I 0, m) := by
 rw [command_first hl]
 have : ∀ l : List Int, (∀ x ∈ l, x = 0) → firstErr l = 0 := fun l => by
  induction l with
  | nil => intro _; rfl
  | cons a r ih =>
   intro h
   have := h a (by simp)
   subst this
   simp only [firstErr, if_true]
   exact ih fun x hx => h x (by simp [hx])
 rw [this l h]
theorem first0_3 {m : Sig} : callL AP (.fn 24) [.slice .full 1 [[I 0], [I 0], [I 0]]] m = some (I 0, m) := first0 (l := [0, 0, 0]) (by decide) (by simp)
theorem first0_5 {m : Sig} : callL AP (.fn 24) [.slice .full 1 [[I 0], [I 0], [I 0], [I 0], [I 0]]] m = some (I 0, m) := first0 (l := [0, 0, 0, 0, 0]) (by decide) (by simp)
section
variable {s : Sig} {tk : List (Option Nat)}
theorem resume_l0 {u : Upl} {x : StV} {n : Nat} {bx : List (List AV)} {L : AV} (hs : Ok s) (hx : x.Ok) (hq : StOk u x.q) (hS : bx[n + 1]? = some x.row) :
  ∀ k ρ m, k ≤ x.up.l.length → (ρ 3 = .ptr s.acts.length (n + 1) 0 ∧ ρ 7 = L ∧ ρ 8 = I 0 ∧ ρ 12 = I x.done.l.length ∧ ρ 197 = x.up.v rowUp2 ∧ ρ 198 = I x.up.l.length ∧ ρ 199 = I k ∧ ∃ T, m = s.push ⟨bx ++ T, tk⟩) →
   ∃ T, go AP resF (.c (.loop b_command_resume_l0) :: k_command_resume_0) ⟨ρ, m⟩ = some (.tuple [L, I 0], s.push ⟨bx ++ T, tk⟩) := by
 have hul := hx.ul
 refine loop_ex x.up.l.length _ (fun o => ∃ T, o = some (.tuple [L, I 0], s.push ⟨bx ++ T, tk⟩)) ?_ ?_
 ·rintro k ρ m hk ⟨g3, g7, g8, g12, g197, g198, g199, T, rfl⟩ ih
  obtain ⟨r, hr⟩ := get_some hk
  obtain ⟨r0, r1, r2⟩ := hq.up r (List.mem_of_getElem? hr)
  have hix := Sl.ix (f := rowUp2) hx.up hr
  have hwk := wrap_succ hk (show (x.up.l.length : Int) < _ by omega)
  have hb : ∀ T, (s.push ⟨bx ++ T, tk⟩).box s.acts.length (n + 1) = some x.row := fun T => by rw [box_push]; exact box_app hS
  have hwi : wi r.1 0 x.done.l.length = true := wi_iff.2 ⟨r0, r1⟩
  have ih2 : ∀ ρ' T, ρ' 3 = .ptr s.acts.length (n + 1) 0 → ρ' 7 = L → ρ' 8 = I 0 → ρ' 12 = I x.done.l.length → ρ' 197 = x.up.v rowUp2 → ρ' 198 = I x.up.l.length → ρ' 199 = I (k + 1 : Nat) → ∃ T', go AP resF (.c (.loop b_command_resume_l0) :: k_command_resume_0) ⟨ρ', s.push ⟨bx ++ T, tk⟩⟩ = some (.tuple [L, I 0], s.push ⟨bx ++ T', tk⟩) :=
   fun ρ' T a b c d e f g => ih ρ' _ ⟨a, b, c, d, e, f, g, T, rfl⟩
  simp only [StV.row, rowSt, Sl.v] at hb hix g197 ih2
  obtain ⟨rn, rh⟩ := r
  cases rh with
  | false =>
   simp (maxSteps := 1000000) only [go_sem, b_command_resume_l0, g8, g12, g197, g198, g199, hs, lt_dec hk, hix, command_within, hwi, command_unless, first0_3, hwk, Nat.reduceEqDiff, Nat.reduceAdd, ↓reduceIte]
   refine ih2 _ _ ?_ ?_ ?_ ?_ ?_ ?_ ?_
   all_goals first | exact g3 | exact g7 | rfl | exact g12 | exact g197 | exact g198
  | true =>
   obtain ⟨hh, hn⟩ := r2 rfl
   have hh : x.halted = true := hh
   have hn : decide (rn = (x.done.l.length : Int)) = true := decide_eq_true hn
   simp (maxSteps := 1000000) only [go_sem, b_command_resume_l0, g3, g8, g12, g197, g198, g199, hs, lt_dec hk, hix, hb, command_within, hwi, hh, hn, command_unless, first0_3, hwk, Nat.reduceEqDiff, Nat.reduceAdd, ↓reduceIte]
   refine ih2 _ _ ?_ ?_ ?_ ?_ ?_ ?_ ?_
   all_goals first | exact g3 | exact g7 | rfl | exact g12 | exact g197 | exact g198
 ·rintro ρ m ⟨g3, g7, g8, g12, g197, g198, g199, T, rfl⟩
  refine ⟨T, ?_⟩
  simp (maxSteps := 1000000) only [go_sem, b_command_resume_l0, b_command_resume_r0, g7, g8, g198, g199, ge_dec, inlF_r, raws_tt, Nat.reduceEqDiff, ↓reduceIte]
end
end Go.Ax.Sx.Cm

namespace Go.Ax.Sx.Cm
open Go.Ax
set_option linter.unusedSimpArgs false
set_option linter.unusedVariables false
set_option maxRecDepth 100000
section
variable {s : Sig} {tk : List (Option Nat)}
theorem command_resume_1 {u : Upl} {a : Int} {d b : Nat} (hs : Ok s) (hu : u.Ok) (hb : s.box d b = some (rowUp u)) : callL AP (.fn 44) [I a, .ptr d b 0] s = some (B (!wi a 0 (u.file.l.length - 1)), s) := by
 have hfl := hu.fl
 have hw := wrap_id (x := (u.file.l.length : Int) - 1) (by omega) (by omega)
 rw [callL_go (show AP 44 = some c_command_resume_1 from rfl) rfl]
 simp (maxSteps := 1000000) only [go_sem, b_command_resume_1, box_keep hb, hw, command_within, Nat.reduceEqDiff, reduceCtorEq, Nat.reduceAdd, ↓reduceIte]
theorem resume_r1 {u : Upl} {x : StV} {n : Nat} {bx : List (List AV)} {pa : Int} {LV : AV} {xd xn xu : AV} (hs : Ok s) (hu : u.Ok) (hx : x.Ok) (hq : StOk u x.q) (hU : bx[n]? = some (rowUp u)) (hS : bx[n + 1]? = some x.row)
  (hL : bx[n + 6]? = some (rowLk u x.q xd xn xu (.ptr s.acts.length (n + 5) 0))) (hP : bx[n + 5]? = some (rowPr u.m x.mode pa LV)) :
  ∀ ρ, (ρ 2 = .ptr s.acts.length n 0 ∧ ρ 3 = .ptr s.acts.length (n + 1) 0 ∧ ρ 7 = .ptr s.acts.length (n + 6) 0) →
   ∃ T, go AP resF [.c b_command_resume_r1] ⟨ρ, s.push ⟨bx, tk⟩⟩ = some (.tuple [.ptr s.acts.length (n + 6) 0, I 0], s.push ⟨bx.set (n + 5) (rowPr u.m x.mode x.at_ LV) ++ T, tk⟩) := by
 rintro ρ ⟨g2, g3, g7⟩
 have hul := hx.ul
 have hnl := hx.nl
 have hlP := (List.getElem?_eq_some_iff.1 hP).1
 have hb0 : ∀ q : Nat × List AV, bx[q.1]? = some q.2 → (s.push ⟨bx, tk⟩).box s.acts.length q.1 = some q.2 := fun q h => by rw [box_push]; exact h
 have bU := hb0 (_, _) hU
 have bS := hb0 (_, _) hS
 have bL := hb0 (_, _) hL
 have bP := hb0 (_, _) hP
 simp only at bU bS bL bP
 have hst : (s.push ⟨bx, tk⟩).store 1 (.ptr s.acts.length (n + 5) 4) (I x.at_) = some (s.push ⟨bx.set (n + 5) (rowPr u.m x.mode x.at_ LV), tk⟩) := by
  rw [store_ptr hs, hP]; rfl
 have hU2 : (bx.set (n + 5) (rowPr u.m x.mode x.at_ LV))[n]? = some (rowUp u) := by rw [List.getElem?_set_ne (by omega)]; exact hU
 have hS2 : (bx.set (n + 5) (rowPr u.m x.mode x.at_ LV))[n + 1]? = some x.row := by rw [List.getElem?_set_ne (by omega)]; exact hS
 have hL2 : (bx.set (n + 5) (rowPr u.m x.mode x.at_ LV))[n + 6]? = some (rowLk u x.q xd xn xu (.ptr s.acts.length (n + 5) 0)) := by rw [List.getElem?_set_ne (by omega)]; exact hL
 have hP2 : (bx.set (n + 5) (rowPr u.m x.mode x.at_ LV))[n + 5]? = some (rowPr u.m x.mode x.at_ LV) := by rw [List.getElem?_set_self hlP]
 generalize bx.set (n + 5) (rowPr u.m x.mode x.at_ LV) = by_ at *
 have hb1 : ∀ q : Nat × List AV, by_[q.1]? = some q.2 → (s.push ⟨by_, tk⟩).box s.acts.length q.1 = some q.2 := fun q h => by rw [box_push]; exact h
 have bU2 := hb1 (_, _) hU2
 have bS2 := hb1 (_, _) hS2
 have bL2 := hb1 (_, _) hL2
 have bP2 := hb1 (_, _) hP2
 simp only at bU2 bS2 bL2 bP2
 have hcf : callL AP (.fn 33) [x.down.v rowI, .fn 44 [] [.ptr s.acts.length n 0]] (s.push ⟨by_, tk⟩) = some (B false, s.push ⟨by_, tk⟩) := by
  have := z_ContainsFunc_int (s := s.push ⟨by_, tk⟩) (l := x.down.l) (o := x.down.o) (e := x.down.e) (g := 44) (caps := [.ptr s.acts.length n 0]) (p := fun a => !wi a 0 (u.file.l.length - 1)) hx.down.1 (by omega)
   (fun a ha r q => command_resume_1 (((hs.push _).push _).push _) hu (box_keep (box_keep bU2 r) q))
  have e : (x.down.l.any fun a => !wi a 0 (u.file.l.length - 1)) = false := by
   rw [List.any_eq_false]
   intro a ha
   have := hq.down a ha
   have : wi a 0 (u.file.l.length - 1) = true := wi_iff.2 ⟨this.1, by omega⟩
   simp [this]
  rw [e] at this
  exact this
 have hwb : wi x.base 0 x.done.l.length = true := wi_iff.2 ⟨hq.b0, hq.b1⟩
 have h0 := resume_l0 (tk := tk) (n := n) (bx := by_) (L := .ptr s.acts.length (n + 6) 0) hs hx hq hS2
 have hbx : ∀ (bx : List (List AV)), bx ++ [] = bx := List.append_nil
 have hE : ∀ ρ', ρ' 3 = .ptr s.acts.length (n + 1) 0 → ρ' 7 = .ptr s.acts.length (n + 6) 0 → ρ' 8 = I 0 → ρ' 12 = I x.done.l.length → ρ' 197 = x.up.v rowUp2 → ρ' 198 = I x.up.l.length → ρ' 199 = I 0 →
   ∃ T, go AP resF (.c (.loop b_command_resume_l0) :: k_command_resume_0) ⟨ρ', s.push ⟨by_, tk⟩⟩ = some (.tuple [.ptr s.acts.length (n + 6) 0, I 0], s.push ⟨by_ ++ T, tk⟩) := fun ρ' a b c d e f g =>
  h0 0 ρ' _ (Nat.zero_le _) ⟨a, b, c, d, e, f, g, [], by rw [hbx]⟩
 simp only [Sl.v] at bU bS bL bP bU2 bS2 bL2 bP2 hst hcf hE
 have hdl : decide ((x.done.l.length : Int) < (u.file.l.length : Int)) = true ∨ x.halted = false := by
  cases hh : x.halted with
  | false => exact .inr rfl
  | true => exact .inl (decide_eq_true (by have := hq.halted hh; simp only at this; omega))
 have htd : x.told = false ∨ (x.halted = true ∧ decide (x.base = (x.done.l.length : Int)) = true) := by
  cases ht : x.told with
  | false => exact .inl rfl
  | true => have := hq.told ht; exact .inr ⟨this.1, decide_eq_true this.2⟩
 have heq : decide (x.mode = x.mode) = true := decide_eq_true rfl
 cases hh : x.halted with
 | false =>
  have ht : x.told = false := by
   rcases htd with h | ⟨h, _⟩
   ·exact h
   ·rw [hh] at h; cases h
  simp (maxSteps := 1000000) only [go_sem, b_command_resume_r1, g2, g3, g7, bS, bL, bS2, bL2, bP2, hst, hcf, command_within, hwb, hh, ht, command_unless, first0_5, Nat.reduceEqDiff, Nat.reduceAdd, ↓reduceIte]
  refine hE _ ?_ ?_ ?_ ?_ ?_ ?_ ?_
  all_goals first | exact g3 | exact g7 | rfl
 | true =>
  have hdl2 : decide ((x.done.l.length : Int) < (u.file.l.length : Int)) = true := by
   rcases hdl with h | h
   ·exact h
   ·rw [hh] at h; cases h
  rcases htd with ht | ⟨_, hb⟩
  ·simp (maxSteps := 1000000) only [go_sem, b_command_resume_r1, g2, g3, g7, bS, bL, bU2, bS2, bL2, bP2, hst, hcf, command_within, hwb, hh, ht, hdl2, command_unless, first0_5, Nat.reduceEqDiff, Nat.reduceAdd, ↓reduceIte]
   refine hE _ ?_ ?_ ?_ ?_ ?_ ?_ ?_
   all_goals first | exact g3 | exact g7 | rfl
  ·cases ht : x.told with
   | false =>
    simp (maxSteps := 1000000) only [go_sem, b_command_resume_r1, g2, g3, g7, bS, bL, bU2, bS2, bL2, bP2, hst, hcf, command_within, hwb, hh, ht, hdl2, command_unless, first0_5, Nat.reduceEqDiff, Nat.reduceAdd, ↓reduceIte]
    refine hE _ ?_ ?_ ?_ ?_ ?_ ?_ ?_
    all_goals first | exact g3 | exact g7 | rfl
   | true =>
    simp (maxSteps := 1000000) only [go_sem, b_command_resume_r1, g2, g3, g7, bS, bL, bU2, bS2, bL2, bP2, hst, hcf, command_within, hwb, hh, ht, hb, hdl2, command_unless, first0_5, Nat.reduceEqDiff, Nat.reduceAdd, ↓reduceIte]
    refine hE _ ?_ ?_ ?_ ?_ ?_ ?_ ?_
    all_goals first | exact g3 | exact g7 | rfl
end
end Go.Ax.Sx.Cm

namespace Go.Ax.Sx.Cm
open Go.Ax
set_option linter.unusedSimpArgs false
set_option linter.unusedVariables false
set_option maxRecDepth 100000
section
variable {s : Sig} {tk : List (Option Nat)}
def ResR (s : Sig) (tk : List (Option Nat)) (u : Upl) (x : StV) (n : Nat) (bs : List (List AV)) (o : Option (AV × Sig)) : Prop :=
 ∃ bx, o = some (.tuple [.ptr s.acts.length (n + 6) 0, I 0], s.push ⟨bx, tk⟩) ∧ Keep n bs bx ∧ bx[n + 5]? = some (rowPr u.m x.mode x.at_ (.rsl s.acts.length (n + 4) 0 1 u.m.kinds.l.length 0)) ∧ bx[n + 4]? = some ((momQ u x.done.l).2.map I) ∧ LaOk u.m.kinds.l.length (momQ u x.done.l).2
theorem resume_l1 {u : Upl} {x : StV} {n : Nat} {bs : List (List AV)} {xd xn xu : AV} (hs : Ok s) (hu : u.Ok) (hv : UVal u) (hx : x.Ok) (hq : StOk u x.q) (hU : bs[n]? = some (rowUp u)) (hS : bs[n + 1]? = some x.row)
  (hL : bs[n + 6]? = some (rowLk u x.q xd xn xu (.ptr s.acts.length (n + 5) 0))) :
  ∀ k ρ m, k ≤ x.done.l.length → (ρ 2 = .ptr s.acts.length n 0 ∧ ρ 3 = .ptr s.acts.length (n + 1) 0 ∧ ρ 7 = .ptr s.acts.length (n + 6) 0 ∧ ρ 66 = x.done.v rowDn ∧ ρ 67 = I x.done.l.length ∧ ρ 68 = I k ∧
    ∃ bx prev pm pa last, m = s.push ⟨bx, tk⟩ ∧ Keep n bs bx ∧ bx[n + 5]? = some (rowPr u.m pm pa (.rsl s.acts.length (n + 4) 0 1 u.m.kinds.l.length 0)) ∧ bx[n + 4]? = some (last.map I) ∧ LaOk u.m.kinds.l.length last ∧
     doneOk u x.at_ k prev pm last (x.done.l.drop k) ∧ momF u k pm last (x.done.l.drop k) = momQ u x.done.l ∧ (k ≠ 0 → ∃ d, x.done.l[k - 1]? = some d ∧ prev = d.2)) →
   ResR s tk u x n bs (go AP resF (.c (.loop b_command_resume_l1) :: k_command_resume_1) ⟨ρ, m⟩) := by
 have hdl := hx.dl
 have hsl := (List.getElem?_eq_some_iff.1 hL).1
 refine loop_ex x.done.l.length _ _ ?_ ?_
 ·rintro k ρ m hk ⟨g2, g3, g7, g66, g67, g68, bx, prev, pm, pa, last, rfl, hkp, hP, hK, hla, hdo, hmo, hpr⟩ ih
  obtain ⟨dd, hd⟩ := get_some hk
  rw [drop_get hd] at hdo hmo
  obtain ⟨e1, e2, e3, a, ha, hac, hdo'⟩ := hdo
  simp only [momF, ha] at hmo
  obtain ⟨⟨ak0, ak1⟩, al0, ah1⟩ := hv.acts a (List.mem_of_getElem? ha)
  have hwi : wi dd.2 a.lo a.hi = true := by unfold accB at hac; simp only [Bool.and_eq_true] at hac; exact hac.1
  obtain ⟨w0, w1⟩ := wi_iff.1 hwi
  obtain ⟨ki, hki⟩ : ∃ ki : Nat, a.kind = ki := ⟨a.kind.toNat, by omega⟩
  obtain ⟨kd, hkd⟩ := get_some (l := u.m.kinds.l) (k := ki) (by omega)
  have hix := Sl.ix (f := rowDn) hx.done hd
  have hia := Sl.ix (f := rowAc) hu.file ha
  have hwk := wrap_succ hk (show (x.done.l.length : Int) < _ by omega)
  have hlen := hkp.len
  have hlP := (List.getElem?_eq_some_iff.1 hP).1
  have hlK := (List.getElem?_eq_some_iff.1 hK).1
  have cU : bx[n]? = some (rowUp u) := by rw [hkp.at_ n (by omega) (by omega) (by omega)]; exact hU
  have cS : bx[n + 1]? = some x.row := by rw [hkp.at_ (n + 1) (by omega) (by omega) (by omega)]; exact hS
  have cL : bx[n + 6]? = some (rowLk u x.q xd xn xu (.ptr s.acts.length (n + 5) 0)) := by rw [hkp.at_ (n + 6) (by omega) (by omega) (by omega)]; exact hL
  have bS : ∀ r, (s.push ⟨bx ++ r, tk⟩).box s.acts.length (n + 1) = some x.row := fun r => by rw [box_push]; exact box_app cS
  have bL : ∀ r, (s.push ⟨bx ++ r, tk⟩).box s.acts.length (n + 6) = some (rowLk u x.q xd xn xu (.ptr s.acts.length (n + 5) 0)) := fun r => by rw [box_push]; exact box_app cL
  have hst : ∀ r, (s.push ⟨bx ++ r, tk⟩).store 1 (.ptr s.acts.length (n + 5) 4) (I dd.2) = some (s.push ⟨bx.set (n + 5) (rowPr u.m pm dd.2 (.rsl s.acts.length (n + 4) 0 1 u.m.kinds.l.length 0)) ++ r, tk⟩) := fun r => by
   rw [store_ptr hs, show (bx ++ r)[n + 5]? = some (rowPr u.m pm pa (.rsl s.acts.length (n + 4) 0 1 u.m.kinds.l.length 0)) from box_app hP]
   show some (s.push ⟨(bx ++ r).set (n + 5) _, tk⟩) = _
   rw [List.set_append_left _ _ hlP]
  obtain ⟨by_, hby⟩ : ∃ by_, by_ = bx.set (n + 5) (rowPr u.m pm dd.2 (.rsl s.acts.length (n + 4) 0 1 u.m.kinds.l.length 0)) := ⟨_, rfl⟩
  have hylen : by_.length = bx.length := by rw [hby]; simp
  rw [← hby] at hst
  have yP : by_[n + 5]? = some (rowPr u.m pm dd.2 (.rsl s.acts.length (n + 4) 0 1 u.m.kinds.l.length 0)) := by rw [hby, List.getElem?_set_self hlP]
  have yK : by_[n + 4]? = some (last.map I) := by rw [hby, List.getElem?_set_ne (by omega)]; exact hK
  have yU : by_[n]? = some (rowUp u) := by rw [hby, List.getElem?_set_ne (by omega)]; exact cU
  have yL : by_[n + 6]? = some (rowLk u x.q xd xn xu (.ptr s.acts.length (n + 5) 0)) := by rw [hby, List.getElem?_set_ne (by omega)]; exact cL
  have bU2 : ∀ r, (s.push ⟨by_ ++ r, tk⟩).box s.acts.length n = some (rowUp u) := fun r => by rw [box_push]; exact box_app yU
  have bL2 : ∀ r, (s.push ⟨by_ ++ r, tk⟩).box s.acts.length (n + 6) = some (rowLk u x.q xd xn xu (.ptr s.acts.length (n + 5) 0)) := fun r => by rw [box_push]; exact box_app yL
  have hpo : PrOk u.m dd.2 last := ⟨fun r hr => by have := hv.after r hr; have := hla.l; omega, hla.v, by omega, by have := hq.a1; simp only at this; omega⟩
  have hacc : ∀ r, callL AP (.fn 43) [.ptr s.acts.length (n + 5) 0, .agg (rowAc a)] (s.push ⟨by_ ++ r, tk⟩) = some (B true, s.push ⟨by_ ++ r, tk⟩) := fun r => by
   have := command_probe_accepts' (s := s.push ⟨by_ ++ r, tk⟩) (m := u.m) (mode := pm) (at_ := dd.2) (last := last) (d := s.acts.length) (b := n + 5) (a := a) (hs.push _) hu.m (by rw [box_push]; exact box_app yP) (lastOk_rsl (by rw [box_push]; exact box_app yK) hla.l) (fun _ => hpo)
   rw [hac] at this
   exact this
  have hexe : ∀ r, callL AP (.fn 38) [.ptr s.acts.length (n + 5) 0, .agg (rowAc a)] (s.push ⟨by_ ++ r, tk⟩) = some (.tuple [], s.push ⟨((by_ ++ r).set (n + 4) ((stepL last a dd.2).map I)).set (n + 5) (rowPr u.m (stepM u.m pm a) dd.2 (.rsl s.acts.length (n + 4) 0 1 u.m.kinds.l.length 0)), tk⟩) := fun r => by
   have := command_probe_execute (X := fun r => s.push r) (d := s.acts.length) (bx := by_ ++ r) (tk := tk) (m := u.m) (pm := pm) (pa := dd.2) (last := last) (P := n + 5) (K := n + 4) (a := a) (i := ki) (k := kd) (mid_here hs) (fun r => hs.push r) (by rw [hla.l]; exact box_app yP) (box_app yK) hu.m.kinds (by omega) hki hkd (by have := hla.l; omega)
   rw [hla.l] at this
   have e4 : stepM u.m pm a = if kd.to = -1 then pm else kd.to := by unfold stepM; rw [hki, Int.toNat_natCast, hkd]
   have e5 : stepL last a dd.2 = last.set ki dd.2 := by unfold stepL; rw [hki, Int.toNat_natCast]
   rw [e4, e5]
   exact this
  have ih2 : ∀ ρ' r, ρ' 2 = .ptr s.acts.length n 0 → ρ' 3 = .ptr s.acts.length (n + 1) 0 → ρ' 7 = .ptr s.acts.length (n + 6) 0 → ρ' 66 = x.done.v rowDn → ρ' 67 = I x.done.l.length → ρ' 68 = I (k + 1 : Nat) →
    ResR s tk u x n bs (go AP resF (.c (.loop b_command_resume_l1) :: k_command_resume_1) ⟨ρ', s.push ⟨((by_ ++ r).set (n + 4) ((stepL last a dd.2).map I)).set (n + 5) (rowPr u.m (stepM u.m pm a) dd.2 (.rsl s.acts.length (n + 4) 0 1 u.m.kinds.l.length 0)), tk⟩⟩) := fun ρ' r q2 q3 q7 q66 q67 q68 => by
   refine ih ρ' _ ⟨q2, q3, q7, q66, q67, q68, _, dd.2, stepM u.m pm a, dd.2, stepL last a dd.2, rfl, ⟨?_, ?_⟩, ?_, ?_, hla.step (by omega) (by have := hq.a1; simp only at this; omega), hdo', hmo, fun _ => ⟨dd, by simpa using hd, rfl⟩⟩
   ·simp; omega
   ·intro j hj n4 n5
    rw [List.getElem?_set_ne (by omega), List.getElem?_set_ne (by omega), List.getElem?_append_left (by omega), hby, List.getElem?_set_ne (by omega)]
    exact hkp.at_ j hj n4 n5
   ·rw [List.getElem?_set_self (by simp; omega)]
   ·rw [List.getElem?_set_ne (by omega), List.getElem?_set_self (by simp; omega)]
  have hle : decide (dd.2 ≤ x.at_) = true := decide_eq_true e2
  have hact : decide (dd.1 = (k : Int)) = true := decide_eq_true e1
  generalize stepM u.m pm a = pm' at *
  generalize stepL last a dd.2 = last' at *
  simp only [StV.row, rowSt, rowUp, rowLk, rowPr, Sl.v, rowAc, rowDn] at bS bL hst bU2 bL2 hacc hexe hix hia ih2 g66
  by_cases hk0 : k = 0
  ·have hz : decide ((k : Int) = 0) = true := decide_eq_true (by omega)
   simp (maxSteps := 1000000) only [go_sem, b_command_resume_l1, g2, g3, g7, g66, g67, g68, hs, lt_dec hk, hix, hact, hle, hz, bS, bL, hst, bU2, bL2, hia, hacc, hexe, hwk, Nat.reduceEqDiff, Nat.reduceAdd, ↓reduceIte]
   refine ih2 _ _ ?_ ?_ ?_ ?_ ?_ ?_
   all_goals first | exact g2 | exact g3 | exact g7 | exact g66 | exact g67 | rfl
  ·obtain ⟨d0, hd0, hp0⟩ := hpr hk0
   have hz : decide ((k : Int) = 0) = false := decide_eq_false (by omega)
   have hwm : IntKind.i64.wrap ((k : Int) - 1) = ((k - 1 : Nat) : Int) := by rw [wrap_id (by omega) (by omega)]; omega
   have hix0 := Sl.ix (f := rowDn) hx.done hd0
   have hge : decide (d0.2 ≤ dd.2) = true := decide_eq_true (by rcases e3 with h | h; (exact absurd h hk0); (rw [← hp0]; exact h))
   simp only [Sl.v, rowDn] at hix0
   simp (maxSteps := 1000000) only [go_sem, b_command_resume_l1, g2, g3, g7, g66, g67, g68, hs, lt_dec hk, hix, hact, hle, hz, hwm, hix0, hge, bS, bL, hst, bU2, bL2, hia, hacc, hexe, hwk, Nat.reduceEqDiff, Nat.reduceAdd, ↓reduceIte]
   refine ih2 _ _ ?_ ?_ ?_ ?_ ?_ ?_
   all_goals first | exact g2 | exact g3 | exact g7 | exact g66 | exact g67 | rfl
 ·rintro ρ m ⟨g2, g3, g7, g66, g67, g68, bx, prev, pm, pa, last, rfl, hkp, hP, hK, hla, hdo, hmo, hpr⟩
  have hlen := hkp.len
  have hlP := (List.getElem?_eq_some_iff.1 hP).1
  rw [List.drop_length] at hmo
  simp only [momF] at hmo
  have hm1 : x.mode = pm := by have := hq.mode; rw [← hmo] at this; exact this
  have cU : bx[n]? = some (rowUp u) := by rw [hkp.at_ n (by omega) (by omega) (by omega)]; exact hU
  have cS : bx[n + 1]? = some x.row := by rw [hkp.at_ (n + 1) (by omega) (by omega) (by omega)]; exact hS
  have cL : bx[n + 6]? = some (rowLk u x.q xd xn xu (.ptr s.acts.length (n + 5) 0)) := by rw [hkp.at_ (n + 6) (by omega) (by omega) (by omega)]; exact hL
  have h1 := resume_r1 (tk := tk) hs hu hx hq cU cS cL (by rw [hm1]; exact hP)
  have h2 : ∀ ρ', ρ' 2 = .ptr s.acts.length n 0 → ρ' 3 = .ptr s.acts.length (n + 1) 0 → ρ' 7 = .ptr s.acts.length (n + 6) 0 → ResR s tk u x n bs (go AP resF [.c b_command_resume_r1] ⟨ρ', s.push ⟨bx, tk⟩⟩) := fun ρ' q2 q3 q7 => by
   obtain ⟨T, hT⟩ := h1 ρ' ⟨q2, q3, q7⟩
   refine ⟨_, hT, ⟨by simp; omega, fun j hj n4 n5 => ?_⟩, ?_, ?_, ?_⟩
   ·rw [List.getElem?_append_left (by simp; omega), List.getElem?_set_ne (by omega)]; exact hkp.at_ j hj n4 n5
   ·rw [List.getElem?_append_left (by simp; omega), List.getElem?_set_self hlP]
   ·rw [← hmo, List.getElem?_append_left (by have := (List.getElem?_eq_some_iff.1 hK).1; simp; omega), List.getElem?_set_ne (by omega)]; exact hK
   ·rw [← hmo]; exact hla
  have h3 : go AP resF (.c b_command_resume_l1 :: .lp b_command_resume_l1 :: k_command_resume_1) ⟨ρ, s.push ⟨bx, tk⟩⟩ = go AP resF [.c b_command_resume_r1] ⟨put 69 (B false) ρ, s.push ⟨bx, tk⟩⟩ := by
   simp (maxSteps := 1000000) only [go_sem, b_command_resume_l1, g67, g68, ge_dec, ↓reduceIte]
  rw [h3]
  exact h2 _ g2 g3 g7
end
end Go.Ax.Sx.Cm

namespace Go.Ax.Sx.Cm
open Go.Ax
set_option linter.unusedSimpArgs false
set_option linter.unusedVariables false
set_option maxRecDepth 100000
theorem first0_2 {m : Sig} : callL AP (.fn 24) [.slice .full 1 [[I 0], [I 0]]] m = some (I 0, m) := first0 (l := [0, 0]) (by decide) (by simp)
theorem raws_t {ρ : Nat → AV} {m : Sig} {a : Nat} : rawsOf ⟨ρ, m⟩ [.tmp a] = some [ρ a] := rfl
section
variable {s : Sig} {tk : List (Option Nat)}
structure ResM (s : Sig) (u : Upl) (x : StV) (bx bx' : List (List AV)) : Prop where
 old : ∀ j, j < bx.length → bx'[j]? = bx[j]?
 lk : bx'[bx.length + 6]? = some (rowLk u x.q (xD s.acts.length (bx.length + 10) x) (xN s.acts.length (bx.length + 10) x) (xU s.acts.length (bx.length + 10) x) (.ptr s.acts.length (bx.length + 5) 0))
 pr : bx'[bx.length + 5]? = some (rowPr u.m x.mode x.at_ (.rsl s.acts.length (bx.length + 4) 0 1 u.m.kinds.l.length 0))
 la : bx'[bx.length + 4]? = some ((momQ u x.done.l).2.map I)
 clo : ∀ j c, (cloS x)[j]? = some c → bx'[bx.length + 10 + j]? = some c
 ok : LaOk u.m.kinds.l.length (momQ u x.done.l).2
theorem command_resume {u : Upl} {x : StV} {bx : List (List AV)} (hs : Ok s) (hu : u.Ok) (hv : UVal u) (hx : x.Ok) (hq : StOk u x.q) :
  ∃ bx', callL AP (.inl 23) [u.v, x.v] (s.push ⟨bx, tk⟩) = some (.tuple [.ptr s.acts.length (bx.length + 6) 0, I 0], s.push ⟨bx', tk⟩) ∧ ResM s u x bx bx' := by
 have hro : ∀ bx, (s.push ⟨bx, tk⟩).ro < (s.push ⟨bx, tk⟩).acts.length := fun bx => by
  have := hs.ro; simp [Sig.push]; omega
 have hcu : ∀ q, callL AP (.fn 21) [u.v] (s.push q) = some (I 0, s.push q) := fun q => by rw [command_CheckUplink (hs.push q) hu, hv.e]
 have hbg := command_begin (bx := bx ++ [rowUp u, x.row]) (tk := tk) hs hu hv.k0
 have e0 : bx.length + 2 + 4 = bx.length + 6 := rfl
 have hbg' : callL AP (.inl 41) [u.v] (s.push ⟨bx ++ [rowUp u, x.row], tk⟩) = some (.ptr s.acts.length (bx.length + 6) 0, s.push ⟨bx ++ [rowUp u, x.row, rowUp u, rowMo u.m, (last0 u.m.kinds.l.length).map I, rowPr u.m 0 0 (.rsl s.acts.length (bx.length + 4) 0 1 u.m.kinds.l.length 0), rowLk u cs0 nilV nilV nilV (.ptr s.acts.length (bx.length + 5) 0)], tk⟩) := by
  simpa using hbg
 have hL0 : ∀ (a b c d e f g : List AV), (bx ++ [a, b, c, d, e, f, g])[bx.length + 6]? = some g := fun a b c d e f g => by
  rw [List.getElem?_append_right (by omega)]; simp
 have hset : ∀ (a b c d e f g g' : List AV), (bx ++ [a, b, c, d, e, f, g]).set (bx.length + 6) g' = bx ++ [a, b, c, d, e, f, g'] := fun a b c d e f g g' => by
  rw [List.set_append_right _ _ (by omega)]; simp
 have hst1 : ∀ (a b c d e f : List AV) pp, (s.push ⟨bx ++ [a, b, c, d, e, f, rowLk u cs0 nilV nilV nilV pp], tk⟩).store 8 (.ptr s.acts.length (bx.length + 6) 6) (.agg x.row) = some (s.push ⟨bx ++ [a, b, c, d, e, f, rowLk u x.q (x.done.v rowDn) (x.down.v rowI) (x.up.v rowUp2) pp], tk⟩) := fun a b c d e f pp => by
  rw [store_ptr hs]
  simp only [hL0, Option.bind_some]
  show some (s.push ⟨(bx ++ [a, b, c, d, e, f, _]).set (bx.length + 6) _, tk⟩) = _
  rw [hset]
 have hls := command_link_state (bx := bx ++ [rowUp u, x.row, rowUp u, rowMo u.m, (last0 u.m.kinds.l.length).map I, rowPr u.m 0 0 (.rsl s.acts.length (bx.length + 4) 0 1 u.m.kinds.l.length 0), rowLk u x.q (x.done.v rowDn) (x.down.v rowI) (x.up.v rowUp2) (.ptr s.acts.length (bx.length + 5) 0)]) (tk := tk) (L := bx.length + 6) hs hx (hL0 ..)
 rw [show (bx ++ [rowUp u, x.row, rowUp u, rowMo u.m, (last0 u.m.kinds.l.length).map I, rowPr u.m 0 0 (.rsl s.acts.length (bx.length + 4) 0 1 u.m.kinds.l.length 0), rowLk u x.q (x.done.v rowDn) (x.down.v rowI) (x.up.v rowUp2) (.ptr s.acts.length (bx.length + 5) 0)]).length + 3 = bx.length + 10 by simp] at hls
 have k1 : (xD s.acts.length (bx.length + 10) x).isCell = true := cloV_cell
 have k2 : (xN s.acts.length (bx.length + 10) x).isCell = true := cloV_cell
 have k3 : (xU s.acts.length (bx.length + 10) x).isCell = true := cloV_cell
 have hst2 : ∀ (a b c d e f : List AV) pp T, (s.push ⟨bx ++ [a, b, c, d, e, f, rowLk u x.q (x.done.v rowDn) (x.down.v rowI) (x.up.v rowUp2) pp] ++ T, tk⟩).store 8 (.ptr s.acts.length (bx.length + 6) 6) (.agg (rowSt x.q (xD s.acts.length (bx.length + 10) x) (xN s.acts.length (bx.length + 10) x) (xU s.acts.length (bx.length + 10) x))) = some (s.push ⟨bx ++ [a, b, c, d, e, f, rowLk u x.q (xD s.acts.length (bx.length + 10) x) (xN s.acts.length (bx.length + 10) x) (xU s.acts.length (bx.length + 10) x) pp] ++ T, tk⟩) := fun a b c d e f pp T => by
  rw [store_ptr hs]
  have hg : (bx ++ [a, b, c, d, e, f, rowLk u x.q (x.done.v rowDn) (x.down.v rowI) (x.up.v rowUp2) pp] ++ T)[bx.length + 6]? = some (rowLk u x.q (x.done.v rowDn) (x.down.v rowI) (x.up.v rowUp2) pp) := box_app (hL0 ..)
  have hf : fitN 8 (AV.agg (rowSt x.q (xD s.acts.length (bx.length + 10) x) (xN s.acts.length (bx.length + 10) x) (xU s.acts.length (bx.length + 10) x))).cells = true := by
   rw [fitN_iff]
   refine ⟨rfl, ?_⟩
   simp only [AV.cells, rowSt, List.all_cons, List.all_nil, k1, k2, k3]; rfl
  simp only [hg, hf, cond_true, Option.bind_some]
  show some (s.push ⟨(bx ++ [a, b, c, d, e, f, _] ++ T).set (bx.length + 6) _, tk⟩) = _
  rw [List.set_append_left _ _ (by simp), hset]
 obtain ⟨bs, hbs⟩ : ∃ bs, bs = bx ++ [rowUp u, x.row, rowUp u, rowMo u.m, (last0 u.m.kinds.l.length).map I, rowPr u.m 0 0 (.rsl s.acts.length (bx.length + 4) 0 1 u.m.kinds.l.length 0), rowLk u x.q (xD s.acts.length (bx.length + 10) x) (xN s.acts.length (bx.length + 10) x) (xU s.acts.length (bx.length + 10) x) (.ptr s.acts.length (bx.length + 5) 0)] ++
   (rowSt x.q (xD s.acts.length (bx.length + 10) x) (xN s.acts.length (bx.length + 10) x) (xU s.acts.length (bx.length + 10) x) :: rowSt x.q (xD s.acts.length (bx.length + 10) x) (xN s.acts.length (bx.length + 10) x) (xU s.acts.length (bx.length + 10) x) :: [] :: cloS x) := ⟨_, rfl⟩
 have hst3 := hst2 (rowUp u) x.row (rowUp u) (rowMo u.m) ((last0 u.m.kinds.l.length).map I) (rowPr u.m 0 0 (.rsl s.acts.length (bx.length + 4) 0 1 u.m.kinds.l.length 0)) (.ptr s.acts.length (bx.length + 5) 0) (rowSt x.q (xD s.acts.length (bx.length + 10) x) (xN s.acts.length (bx.length + 10) x) (xU s.acts.length (bx.length + 10) x) :: rowSt x.q (xD s.acts.length (bx.length + 10) x) (xN s.acts.length (bx.length + 10) x) (xU s.acts.length (bx.length + 10) x) :: [] :: cloS x)
 rw [← hbs] at hst3
 have hge : ∀ j c, [rowUp u, x.row, rowUp u, rowMo u.m, (last0 u.m.kinds.l.length).map I, rowPr u.m 0 0 (.rsl s.acts.length (bx.length + 4) 0 1 u.m.kinds.l.length 0), rowLk u x.q (xD s.acts.length (bx.length + 10) x) (xN s.acts.length (bx.length + 10) x) (xU s.acts.length (bx.length + 10) x) (.ptr s.acts.length (bx.length + 5) 0)][j]? = some c → bs[bx.length + j]? = some c := fun j c h => by
  rw [hbs]
  refine box_app ?_
  rw [List.getElem?_append_right (by omega), Nat.add_sub_cancel_left]; exact h
 have bU := hge 0 _ rfl
 have bS := hge 1 _ rfl
 have bK := hge 4 _ rfl
 have bP := hge 5 _ rfl
 have bL := hge 6 _ rfl
 have hkey := resume_l1 (tk := tk) hs hu hv hx hq bU bS bL
 have hfin : ∀ ρ', ρ' 2 = .ptr s.acts.length bx.length 0 → ρ' 3 = .ptr s.acts.length (bx.length + 1) 0 → ρ' 7 = .ptr s.acts.length (bx.length + 6) 0 → ρ' 66 = x.done.v rowDn → ρ' 67 = I x.done.l.length → ρ' 68 = I 0 →
   ResR s tk u x bx.length bs (go AP resF (.c (.loop b_command_resume_l1) :: k_command_resume_1) ⟨ρ', s.push ⟨bs, tk⟩⟩) := fun ρ' q2 q3 q7 q66 q67 q68 => by
  refine hkey 0 ρ' _ (Nat.zero_le _) ⟨q2, q3, q7, q66, q67, q68, bs, 0, 0, 0, last0 u.m.kinds.l.length, rfl, ⟨Nat.le_refl _, fun _ _ _ _ => rfl⟩, bP, bK, LaOk.zero, hq.done, rfl, fun h => absurd rfl h⟩
 suffices h : ResR s tk u x bx.length bs (callL AP (.inl 23) [u.v, x.v] (s.push ⟨bx, tk⟩)) by
  obtain ⟨bx', h1, h2, h3, h4, h5⟩ := h
  have hlen : bx.length + 10 ≤ bs.length := by rw [hbs]; simp
  refine ⟨bx', h1, ⟨fun j hj => ?_, ?_, h3, h4, fun j c hj => ?_, h5⟩⟩
  ·rw [h2.at_ j (by omega) (by omega) (by omega), hbs, List.append_assoc, List.getElem?_append_left hj]
  ·rw [h2.at_ _ (by omega) (by omega) (by omega)]; exact bL
  ·have hjl := (List.getElem?_eq_some_iff.1 hj).1
   have hbl : bs.length = bx.length + 10 + (cloS x).length := by rw [hbs]; simp; omega
   rw [h2.at_ _ (by omega) (by omega) (by omega), hbs, List.append_assoc, List.getElem?_append_right (by omega)]
   rw [show bx.length + 10 + j - bx.length = j + 10 by omega]
   simpa using hj
 have bU' : (s.push ⟨bs, tk⟩).box s.acts.length bx.length = some (rowUp u) := by rw [box_push]; exact bU
 have bS' : (s.push ⟨bs, tk⟩).box s.acts.length (bx.length + 1) = some x.row := by rw [box_push]; exact bS
 have t1 : wi x.at_ 0 1000000000000 = true := wi_iff.2 ⟨hq.a0, hq.a1⟩
 have t2 : decide ((x.done.l.length : Int) ≤ (u.file.l.length : Int)) = true := decide_eq_true (by have := hq.dl; simp only at this; omega)
 have t3 : decide ((x.down.l.length : Int) ≤ u.fl) = true := decide_eq_true (by have := hq.nl; simp only at this; omega)
 have t4 : decide ((x.up.l.length : Int) ≤ u.fl) = true := decide_eq_true (by have := hq.ul; simp only at this; omega)
 simp only [List.append_assoc, List.cons_append, List.nil_append] at hls hst3 hbs
 generalize xD s.acts.length (bx.length + 10) x = X1 at *
 generalize xN s.acts.length (bx.length + 10) x = X2 at *
 generalize xU s.acts.length (bx.length + 10) x = X3 at *
 clear hkey hge hst2 bU bS bK bP bL hbg
 simp only [rowUp, StV.row, rowSt, rowLk, rowPr, rowMo, Sl.v] at hls hst3 hst1 hbg' bU' bS' hcu hfin
 rw [callL_inlF (show AP 23 = some c_command_resume from rfl) rfl (hro _)]
 simp (maxSteps := 1000000) only [go_sem, b_command_resume, hcu, hbg', hst1, hls, hst3, bU', bS', command_isTick, command_unless, first0_2, t1, t2, t3, t4, Nat.reduceEqDiff, Nat.reduceAdd, ↓reduceIte, ne_eq, not_true]
 refine hfin _ ?_ ?_ ?_ ?_ ?_ ?_ <;> rfl
end
end Go.Ax.Sx.Cm

namespace Go.Ax.Sx.Cm
open Go.Ax
set_option linter.unusedSimpArgs false
set_option linter.unusedVariables false
set_option maxRecDepth 100000
abbrev kindC (w : ByteArray) (lo hi : Int) (f : FuncId) : List AV := [S w, I lo, I hi, .fn f [] []]
abbrev kindsL : List AV := kindC ⟨#[112, 97, 115, 115]⟩ 1 1000000000000 56 ++ kindC ⟨#[115, 101, 110, 100]⟩ 0 11 57 ++ kindC ⟨#[97, 114, 114, 105, 118, 101]⟩ 0 5 58 ++ kindC ⟨#[104, 101, 97, 114]⟩ 0 5 59 ++ kindC ⟨#[108, 111, 115, 101]⟩ 0 5 60 ++
 kindC ⟨#[100, 114, 111, 112]⟩ 0 5 61 ++ kindC ⟨#[114, 101, 112, 101, 97, 116]⟩ 0 5 62 ++ kindC ⟨#[114, 101, 115, 116, 97, 114, 116]⟩ 0 0 63 ++ kindC ⟨#[114, 101, 98, 111, 111, 116]⟩ 0 0 64
def evLo (k : Nat) : Int := if k = 0 then 1 else 0
def evHi (k : Nat) : Int := if k = 0 then 1000000000000 else if k = 1 then 11 else if k ≤ 6 then 5 else 0
def evFn (k : Nat) : FuncId := [56, 57, 58, 59, 60, 61, 62, 63, 64].getD k 0
def evE (k n : Int) : Int := if wi k 0 8 = true then (if evHi k.toNat = 0 then cond (decide (n = 0)) 0 3 else cond (wi n (evLo k.toNat) (evHi k.toNat)) 0 2) else 15
section
variable {s : Sig}
theorem command_kinds (hs0 : Ok s) : callL AP (.fn 45) [] s = some (.agg kindsL, s) := by
 have hs : ∀ (r : Rec) f, leaveCell (s.push r) (.fn f [] []) = some (.fn f [] []) := fun _ _ => rfl
 rw [callL_go (show AP 45 = some c_command_kinds from rfl) rfl]
 simp (maxSteps := 1000000) only [go_sem, b_command_kinds, hs, hs0, Nat.reduceEqDiff, reduceCtorEq, ↓reduceIte]
theorem setCells_all : ∀ {z c : List AV}, z.length = c.length → setCells z 0 c = c
 | [], [], _ => rfl
 | x :: z, y :: c, h => by
  simp only [setCells, List.set_cons_zero, Nat.zero_add]
  rw [setCells_cons, setCells_all (by simpa using h)]
theorem kindsL_len : kindsL.length = 36 := rfl
theorem kinds_part : ∀ (k : Nat), k < 9 → ∃ w, cutN (k * 4) 4 kindsL = some [S w, I (evLo k), I (evHi k), .fn (evFn k) [] []]
 | 0, _ => ⟨_, rfl⟩ | 1, _ => ⟨_, rfl⟩ | 2, _ => ⟨_, rfl⟩ | 3, _ => ⟨_, rfl⟩ | 4, _ => ⟨_, rfl⟩ | 5, _ => ⟨_, rfl⟩ | 6, _ => ⟨_, rfl⟩ | 7, _ => ⟨_, rfl⟩ | 8, _ => ⟨_, rfl⟩
 | n + 9, h => absurd h (by omega)
theorem command_CheckEvent {k n : Int} (hs : Ok s) : callL AP (.fn 25) [.agg [I k, I n]] s = some (I (evE k n), s) := by
 have hk : ∀ r, callL AP (.fn 45) [] (s.push r) = some (.agg kindsL, s.push r) := fun r => command_kinds (hs.push r)
 have hst : ∀ (a : List AV) z, z.length = 36 → (s.push ⟨[a, z], []⟩).store 36 (.ptr s.acts.length 1 0) (.agg kindsL) = some (s.push ⟨[a, kindsL], []⟩) := fun a z hz => by
  rw [store_ptr hs]
  have h1 : fitN 36 (AV.agg kindsL).cells = true := rfl
  simp only [h1, cond_true, List.getElem?_cons_succ, List.getElem?_cons_zero, Option.bind_some]
  rw [overN_eq, if_pos (by rw [hz]; decide)]
  rw [show setCells z 0 (AV.agg kindsL).cells = kindsL from setCells_all (by rw [hz]; rfl)]; rfl
 unfold evE
 cases h1 : wi k 0 8 with
 | false =>
  simp only [Bool.false_eq_true, if_false]
  generalize hK : kindsL = KL at *
  rw [callL_go (show AP 25 = some c_command_CheckEvent from rfl) rfl]
  simp (maxSteps := 1000000) only [go_sem, b_command_CheckEvent, hk, hst, command_within, h1, Nat.reduceEqDiff, Nat.reduceAdd, ↓reduceIte]
 | true =>
  obtain ⟨k0, k8⟩ := wi_iff.1 h1
  obtain ⟨i, rfl⟩ : ∃ i : Nat, k = i := ⟨k.toNat, by omega⟩
  obtain ⟨w, hp⟩ := kinds_part i (by omega)
  have hia : ∀ (d b : Nat), indexAddrOp (some 9) 4 (.ptr d b 0) (I (i : Int)) = some (.ptr d b (0 + i * 4)) := fun d b => by
   have : (0 : Int) ≤ (i : Int) ∧ (i : Int) < ((9 : Nat) : Int) := by omega
   simp only [indexAddrOp, idx, this, and_self, if_true, Option.map_some, Int.toNat_natCast]
  simp only [Int.toNat_natCast, if_true]
  have hld : ∀ (a : List AV) T, (s.push ⟨a :: kindsL :: T, []⟩).load true 4 (.ptr s.acts.length 1 (0 + i * 4)) = some (.agg [S w, I (evLo i), I (evHi i), .fn (evFn i) [] []]) := fun a T => by
   rw [load_any, box_push]
   simp only [List.getElem?_cons_succ, List.getElem?_cons_zero, Option.bind_some, Nat.zero_add]
   rw [part_t, hp]; rfl
  generalize hK : kindsL = KL at *
  generalize evLo i = lo at *
  generalize evHi i = hi at *
  by_cases h2 : hi = 0
  ·have h2' : decide (hi = 0) = true := decide_eq_true h2
   simp only [h2, if_true]
   rw [callL_go (show AP 25 = some c_command_CheckEvent from rfl) rfl]
   simp (maxSteps := 1000000) only [go_sem, b_command_CheckEvent, hs, hk, hst, command_within, h1, hia, hld, h2, command_unless, Nat.reduceEqDiff, Nat.reduceAdd, ↓reduceIte]
  ·have h2' : decide (hi = 0) = false := decide_eq_false h2
   simp only [h2, if_false]
   rw [callL_go (show AP 25 = some c_command_CheckEvent from rfl) rfl]
   simp (maxSteps := 1000000) only [go_sem, b_command_CheckEvent, hs, hk, hst, command_within, h1, hia, hld, h2, command_unless, Nat.reduceEqDiff, Nat.reduceAdd, ↓reduceIte]
end
end Go.Ax.Sx.Cm

namespace Go.Ax.Sx
section
variable {X : Rec → Sig} {d : Nat} {r r0 : Rec}
theorem Mid.store' (h : Mid X d) {b off n : Nat} {y : AV} (hf : ∀ m : Sig, m.fitAll d y.cells = some (y.cells, m)) (hn : fitN n y.cells = true) {row row' : List AV} (hb : r.boxes[b]? = some row) (ho : overN row off y.cells = some row') :
  ((X r).push r0).store n (.ptr d b off) y = some ((X ⟨r.boxes.set b row', r.toks⟩).push r0) := by
 have hlt := h.lt r
 have hcur : ((X r).push r0).cur = (X r).acts.length := cur_push _ _
 have hro : ((X r).push r0).ro ≤ d := h.ro r
 obtain ⟨h1, h2⟩ := fitN_iff.1 hn
 have hne : ¬ d = (X r).acts.length := by omega
 rw [overN_eq] at ho
 by_cases hl : off + y.cells.length ≤ row.length
 ·rw [if_pos hl] at ho
  injection ho with ho
  subst ho
  have hle : off + n ≤ row.length := by omega
  simp only [Sig.store, hro, h1, h2, and_self, if_true, hcur, hne, if_false, hf, h.box, hb, hle, h.setBox]
 ·rw [if_neg hl] at ho; cases ho
theorem fit_rsl {d b off es n cap : Nat} (m : Sig) : m.fitAll d (AV.rsl d b off es n cap).cells = some ((AV.rsl d b off es n cap).cells, m) := by
 simp [AV.cells, Sig.fitAll, Sig.fit]
theorem setCells_eq : ∀ {ys cs : List AV} {off : Nat}, off + ys.length ≤ cs.length → setCells cs off ys = cs.take off ++ ys ++ cs.drop (off + ys.length)
 | [], cs, off, _ => by simp [setCells]
 | y :: ys, cs, off, h => by
  simp only [List.length_cons] at h
  simp only [setCells]
  rw [setCells_eq (by simp; omega)]
  have h1 : off < cs.length := by omega
  rw [List.take_add_one, List.take_set, List.drop_set_of_lt (by omega)]
  rw [List.getElem?_set_self h1, List.set_eq_of_length_le (by simp; omega)]
  simp [show off + 1 + ys.length = off + (ys.length + 1) by omega]
def Lst (d es : Nat) (bx : List (List AV)) (rows : List (List AV)) (z : AV) (b : Option Nat) (fresh : Bool) (x : AV) : Prop :=
 (∀ r ∈ rows, r.length = es) ∧ (∀ r ∈ rows, closeAll r = some r ∧ r.all AV.isClosed1 = true ∧ r.all AV.isCell = true) ∧ 0 < es ∧
 match b with
 | none => rows = [] ∧ x = z ∧ (z = .slice .nilS 0 [] ∨ z = .slice .full es [])
 | some b => ∃ cs cap, bx[b]? = some cs ∧ x = .rsl d b 0 es rows.length cap ∧ cs.length = max rows.length cap * es ∧ cs.take (rows.length * es) = rows.flatten ∧ closeAll cs = some cs ∧ (fresh = true → cap = 0 ∧ 0 < rows.length)
theorem flen {es : Nat} : ∀ {rows : List (List AV)}, (∀ r ∈ rows, r.length = es) → rows.flatten.length = rows.length * es
 | [], _ => by simp
 | a :: t, h => by
  rw [List.flatten_cons, List.length_append, flen fun q hq => h q (List.mem_cons_of_mem _ hq), h a (by simp), List.length_cons, Nat.succ_mul]; omega
theorem closeAll_app2 : ∀ {a b x y : List AV}, closeAll a = some x → closeAll b = some y → closeAll (a ++ b) = some (x ++ y)
 | [], b, x, y, h1, h2 => by
  simp only [closeAll] at h1
  injection h1 with h1
  subst h1
  exact h2
 | c :: a, b, x, y, h1, h2 => by
  simp only [closeAll] at h1
  split at h1
  ·rename_i z t e1 e2
   injection h1 with h1
   subst h1
   simp only [List.cons_append, closeAll, e1, closeAll_app2 e2 h2]
  ·cases h1
theorem Mid.appendL (h : Mid X d) {es : Nat} {rows : List (List AV)} {z x : AV} {b : Option Nat} {r2 : List AV} (hl : Lst d es r.boxes rows z b true x) (h2 : r2.length = es) (hcl : r2.all AV.isClosed1 = true) (hcc : r2.all AV.isCell = true) (hc : closeAll r2 = some r2) (hm : rows.length + 1 ≤ 4294967296) :
  ∃ bs' tk', (∀ r0 b0 r' p q c, r0.boxes[b0]? = some r2 → appendhOp ((X r).push r0) es x (.rsl (X r').acts.length b0 0 es 1 c) (.ptr d p q) = some (.rsl d r.boxes.length 0 es (rows.length + 1) 0, (X ⟨bs', tk'⟩).push r0)) ∧ Lst d es bs' (rows ++ [r2]) z (some r.boxes.length) true (.rsl d r.boxes.length 0 es (rows.length + 1) 0) ∧ bs'.length = r.boxes.length + 1 ∧
   ∀ j, j < r.boxes.length → b ≠ some j → bs'[j]? = r.boxes[j]? := by
 obtain ⟨hr1, hr2, hes, hl⟩ := hl
 have hlt := h.lt r
 have hcur : ∀ r0, ((X r).push r0).cur = (X r).acts.length := fun r0 => cur_push _ _
 have hro : ∀ r0, ((X r).push r0).ro ≤ d := fun r0 => h.ro r
 have hle : d ≤ (X r).acts.length := by omega
 have hnb : ∀ r0, ((X r).push r0).nbox d = r.boxes.length := fun r0 => by
  simp only [Sig.nbox, Sig.push]
  rw [List.getElem?_append_left hlt, h.get r]
 have hsrc : ∀ (r0 : Rec) b0 r' c, r0.boxes[b0]? = some r2 → ((X r).push r0).srcRows es (.rsl (X r').acts.length b0 0 es 1 c) = some (r2, 1) := fun r0 b0 r' c hb0 => by
  rw [h.len r' r]
  simp only [Sig.srcRows, if_true, box_push, hb0, Option.bind_some, Nat.zero_add, Nat.one_mul, h2, Nat.le_refl, List.drop_zero]
  rw [List.take_of_length_le (by omega)]
 have hR1 : ∀ q ∈ rows ++ [r2], q.length = es := fun q hq => by
  rcases List.mem_append.1 hq with hq | hq
  ·exact hr1 q hq
  ·rw [List.mem_singleton.1 hq]; exact h2
 have hR2 : ∀ q ∈ rows ++ [r2], closeAll q = some q ∧ q.all AV.isClosed1 = true ∧ q.all AV.isCell = true := fun q hq => by
  rcases List.mem_append.1 hq with hq | hq
  ·exact hr2 q hq
  ·rw [List.mem_singleton.1 hq]; exact ⟨hc, hcl, hcc⟩
 cases b with
 | none =>
  obtain ⟨rfl, rfl, hz⟩ := hl
  have hab : ∀ r0, ((X r).push r0).addBox d r2 = (X ⟨r.boxes ++ [r2], r.toks⟩).push r0 := fun r0 => h.onPush _
  refine ⟨r.boxes ++ [r2], r.toks, fun r0 b0 r' p q c hb0 => ?_, ⟨hR1, hR2, hes, r2, 0, by simp, by simp, by simp [h2], by simp; exact List.take_of_length_le (by omega), hc, fun _ => ⟨rfl, by simp⟩⟩, by simp, fun j hj _ => List.getElem?_append_left hj⟩
  have hmo : (1 : Nat) ≤ most := by decide
  have hsr := hsrc r0 b0 r' c hb0
  rcases hz with rfl | rfl
  ·simp only [appendhOp, hsr, Option.bind_some, Nat.one_ne_zero, if_false, hro, hcur, hle, hcl, or_true, and_self, if_true, List.isEmpty_nil, Own.isNil, true_or, hmo, hnb, hab, List.length_nil, Nat.zero_add]
  ·simp only [appendhOp, hsr, Option.bind_some, Nat.one_ne_zero, if_false, hro, hcur, hle, hcl, or_true, and_self, if_true, List.isEmpty_nil, Own.isNil, Own.isFull, Bool.false_eq_true, hmo, hnb, hab, List.length_nil, Nat.zero_add]
 | some b =>
  obtain ⟨cs, cap, hb1, rfl, hcs, htk, hclo, hfr⟩ := hl
  obtain ⟨rfl, hn⟩ := hfr rfl
  have hcs' : cs.length = rows.length * es := by simpa using hcs
  have hcse : cs = rows.flatten := by rw [← htk, List.take_of_length_le (by omega)]
  have hmo : rows.length + 1 ≤ most := hm
  have hbx : ∀ r0, ((X r).push r0).box d b = some cs := fun r0 => by rw [h.box, hb1]
  have hrg : ∀ r0, ((X r).push r0).regrowAt d b (cs ++ r2) = (X ⟨r.boxes.set b [] ++ [cs ++ r2], r.toks ++ [none]⟩).push r0 := fun r0 => h.onPush _
  refine ⟨r.boxes.set b [] ++ [cs ++ r2], r.toks ++ [none], fun r0 b0 r' p q c hb0 => ?_, ⟨hR1, hR2, hes, cs ++ r2, 0, ?_, by simp, ?_, ?_, closeAll_app2 hclo hc, fun _ => ⟨rfl, by simp⟩⟩, by simp, fun j hj hne => ?_⟩
  ·have hsr := hsrc r0 b0 r' c hb0
   simp only [appendhOp, hsr, Option.bind_some, Nat.one_ne_zero, if_false, hro, hcur, hle, hcl, or_true, and_self, if_true, hn, hmo, hbx, hcs', hnb, hrg]
  ·rw [List.getElem?_append_right (by simp)]; simp
  ·simp [hcs', h2, Nat.succ_mul]
  ·rw [List.take_of_length_le (by simp [hcs', h2, Nat.succ_mul]), hcse]; simp
  ·rw [List.getElem?_append_left (by simpa using hj), List.getElem?_set_ne (fun e => hne (by rw [e]))]
theorem Lst.same {es : Nat} {bx bx' : List (List AV)} {rows : List (List AV)} {z x : AV} {b : Option Nat} {f : Bool} (h : Lst d es bx rows z b f x) (hb : ∀ j, b = some j → bx'[j]? = bx[j]?) : Lst d es bx' rows z b f x := by
 obtain ⟨h1, h2, h3, h⟩ := h
 refine ⟨h1, h2, h3, ?_⟩
 cases b with
 | none => exact h
 | some b =>
  obtain ⟨cs, cap, hc, hr⟩ := h
  exact ⟨cs, cap, by rw [hb b rfl]; exact hc, hr⟩
theorem Lst.lenV {es : Nat} {bx : List (List AV)} {rows : List (List AV)} {z x : AV} {b : Option Nat} {f : Bool} (h : Lst d es bx rows z b f x) : lenOp false x = some (I (rows.length : Int)) := by
 obtain ⟨h1, h2, h3, h⟩ := h
 cases b with
 | none => obtain ⟨rfl, rfl, rfl | rfl⟩ := h <;> rfl
 | some b => obtain ⟨cs, cap, hc, rfl, hr⟩ := h; rfl
end
end Go.Ax.Sx

namespace Go.Ax.Sx
theorem closeAll_iff {l : List AV} : closeAll l = some l ↔ ∀ a ∈ l, a.close = some a := by
 induction l with
 | nil => exact ⟨fun _ a h => (by cases h), fun _ => rfl⟩
 | cons x r ih =>
  simp only [closeAll]
  constructor
  ·intro h
   split at h
   ·rename_i y t e1 e2
    injection h with h
    injection h with h1 h2
    subst h1 h2
    intro a ha
    rcases List.mem_cons.1 ha with rfl | ha
    ·exact e1
    ·exact (ih.1 e2) a ha
   ·cases h
  ·intro h
   rw [h x (by simp), ih.2 fun a ha => h a (List.mem_cons_of_mem _ ha)]
theorem asNat_n {n m : Nat} (h : n ≤ m) : asNat (I (n : Int)) m = some n := by
 have : (0 : Int) ≤ (n : Int) ∧ (n : Int) ≤ (m : Int) := by omega
 simp only [asNat, this, and_self, if_true, Int.toNat_natCast]
theorem del_cells {es n m0 i : Nat} {rows : List (List AV)} {cs zs : List AV} (hr : ∀ r ∈ rows, r.length = es) (hn : rows.length = n) (hi : i < n) (hm : n ≤ m0) (hcs : cs.length = m0 * es) (htk : cs.take (n * es) = rows.flatten) (hz : zs.length = es)
  (hc : closeAll cs = some cs) (hcz : closeAll zs = some zs) :
  ∃ cs1 cs2, overN cs (i * es) ((cs.drop ((i + 1) * es)).take ((n - (i + 1)) * es)) = some cs1 ∧ cs1.length = cs.length ∧ overN cs1 ((n - 1) * es) zs = some cs2 ∧ cs2.length = cs.length ∧ cs2.take ((n - 1) * es) = (rows.eraseIdx i).flatten ∧ closeAll cs2 = some cs2 ∧ (n = i + 1 → cs1 = cs) ∧
   ((cs.drop ((i + 1) * es)).take ((n - (i + 1)) * es)).length = (n - (i + 1)) * es := by
 obtain ⟨rA, r, rB, rfl, rfl⟩ : ∃ rA r rB, rows = rA ++ r :: rB ∧ rA.length = i := by
  refine ⟨rows.take i, rows[i]'(by omega), rows.drop (i + 1), ?_, by simp; omega⟩
  rw [← List.drop_eq_getElem_cons, List.take_append_drop]
 have hA : rA.flatten.length = rA.length * es := flen fun q hq => hr q (by simp [hq])
 have hB : rB.flatten.length = rB.length * es := flen fun q hq => hr q (by simp [hq])
 have hR : r.length = es := hr r (by simp)
 have hn' : n = rA.length + 1 + rB.length := by simp at hn; omega
 subst hn'
 have e1 : rA.length + 1 + rB.length - (rA.length + 1) = rB.length := by omega
 have e2 : rA.length + 1 + rB.length - 1 = rA.length + rB.length := by omega
 have m1 : (rA.length + 1) * es = rA.length * es + es := Nat.succ_mul _ _
 have m2 : (rA.length + 1 + rB.length) * es = rA.length * es + es + rB.length * es := by rw [Nat.add_mul, Nat.succ_mul]
 have m3 : (rA.length + rB.length) * es = rA.length * es + rB.length * es := Nat.add_mul _ _ _
 have hle : (rA.length + 1 + rB.length) * es ≤ m0 * es := Nat.mul_le_mul_right _ hm
 have hcs2 : cs = rA.flatten ++ (r ++ (rB.flatten ++ cs.drop ((rA.length + 1 + rB.length) * es))) := by
  have h1 := List.take_append_drop ((rA.length + 1 + rB.length) * es) cs
  rw [htk] at h1
  rw [List.flatten_append, List.flatten_cons] at h1
  conv => lhs; rw [← h1]
  simp
 generalize hpad : cs.drop ((rA.length + 1 + rB.length) * es) = pad at hcs2
 have hmv : (cs.drop ((rA.length + 1) * es)).take ((rA.length + 1 + rB.length - (rA.length + 1)) * es) = rB.flatten := by
  rw [e1, hcs2, m1, ← hA, ← hR, List.drop_append, List.drop_of_length_le (by omega), List.nil_append, Nat.add_sub_cancel_left, List.drop_append, List.drop_of_length_le (by omega), List.nil_append, Nat.sub_self, List.drop_zero, hR, ← hB, List.take_left']
  rfl
 have hl1 : rA.length * es + rB.length * es ≤ cs.length := by omega
 have ho1 : overN cs (rA.length * es) rB.flatten = some (rA.flatten ++ rB.flatten ++ cs.drop (rA.length * es + rB.length * es)) := by
  rw [overN_eq, if_pos (by rw [hB]; omega), setCells_eq (by rw [hB]; omega), hB]
  congr 3
  rw [hcs2, List.take_left' hA]
 have hlc : (rA.flatten ++ rB.flatten ++ cs.drop (rA.length * es + rB.length * es)).length = cs.length := by
  simp only [List.length_append, List.length_drop, hA, hB]; omega
 have ho2 : overN (rA.flatten ++ rB.flatten ++ cs.drop (rA.length * es + rB.length * es)) ((rA.length + rB.length) * es) zs = some (rA.flatten ++ rB.flatten ++ zs ++ (rA.flatten ++ rB.flatten ++ cs.drop (rA.length * es + rB.length * es)).drop ((rA.length + rB.length) * es + zs.length)) := by
  rw [overN_eq, if_pos (by rw [hlc, hz]; omega), setCells_eq (by rw [hlc, hz]; omega)]
  congr 3
  rw [m3, List.take_left' (by simp [hA, hB])]
 have hca := closeAll_iff.1 hc
 have hfl : ∀ a ∈ rA.flatten ++ rB.flatten, a.close = some a := fun a ha => by
  apply hca a
  rw [hcs2]
  simp only [List.mem_append] at ha ⊢
  rcases ha with ha | ha
  ·exact .inl ha
  ·exact .inr (.inr (.inl ha))
 have hdr : ∀ {k : Nat}, ∀ a ∈ cs.drop k, a.close = some a := fun a ha => hca a (List.mem_of_mem_drop ha)
 refine ⟨_, _, by rw [hmv]; exact ho1, hlc, by rw [e2]; exact ho2, ?_, ?_, ?_, fun hn => ?_, by rw [hmv, hB, e1]⟩
 ·simp only [List.length_append, List.length_drop, hA, hB, hz]; omega
 ·rw [e2, m3, List.append_assoc, List.take_left' (by simp [hA, hB]), List.eraseIdx_append_of_length_le (Nat.le_refl _), Nat.sub_self]
  simp
 ·rw [closeAll_iff]
  intro a ha
  rcases List.mem_append.1 ha with ha | ha
  ·rcases List.mem_append.1 ha with ha | ha
   ·exact hfl a ha
   ·exact closeAll_iff.1 hcz a ha
  ·have ha := List.mem_of_mem_drop ha
   rcases List.mem_append.1 ha with ha | ha
   ·exact hfl a ha
   ·exact hdr a ha
 ·have : rB = [] := List.eq_nil_of_length_eq_zero (by omega)
  subst this
  simp only [List.flatten_nil, List.append_nil, List.length_nil, Nat.zero_mul, Nat.add_zero]
  conv => rhs; rw [← List.take_append_drop (rA.length * es) cs]
  congr 1
  rw [hcs2, List.take_left' hA]
theorem fit_close {d : Nat} {cs : List AV} (h : closeAll cs = some cs) : ∀ m : Sig, m.fitAll d cs = some (cs, m) := by
 intro m
 induction cs with
 | nil => rfl
 | cons x r ih =>
  have hx := (closeAll_iff.1 h) x (by simp)
  have hr : closeAll r = some r := closeAll_iff.2 fun a ha => (closeAll_iff.1 h) a (List.mem_cons_of_mem _ ha)
  have hf : m.fit d x = some (x, m) := by
   cases x with
   | slice o es xs =>
    cases o with
    | tok => simp [AV.close] at hx
    | _ => simp [Sig.fit, AV.close, AV.isClosed, AV.isClosed1]
   | ptr => simp [AV.close, AV.isClosed, AV.isClosed1] at hx
   | rsl => simp [AV.close, AV.isClosed, AV.isClosed1] at hx
   | _ => simp only [Sig.fit]; rw [hx]; rfl
  simp only [Sig.fitAll, hf, ih hr]
theorem cell_close {x : AV} (h : x.close = some x) : x.isCell = true := by
 cases x with
 | v y => cases y <;> first | rfl | (simp [AV.close, AV.isClosed, AV.isClosed1] at h; done)
 | agg c => simp [AV.close, AV.isClosed, AV.isClosed1] at h
 | tuple c => simp [AV.close, AV.isClosed, AV.isClosed1] at h
 | _ => rfl
theorem cells_close {cs : List AV} (h : closeAll cs = some cs) : cs.all AV.isCell = true := by
 rw [List.all_eq_true]
 exact fun a ha => cell_close (closeAll_iff.1 h a ha)
end Go.Ax.Sx

namespace Go.Ax.Sx.Cm
open Go.Ax
set_option linter.unusedSimpArgs false
set_option linter.unusedVariables false
set_option maxRecDepth 100000
section
variable {X : Rec → Sig} {d : Nat} {bx : List (List AV)} {tk : List (Option Nat)} {rows : List (List AV)} {z x : AV} {b : Nat} {f : Bool} {i : Nat}
theorem eq_succ {i : Nat} : decide ((i : Int) = ((i + 1 : Nat) : Int)) = false := by simp; omega
theorem z_Delete_int (hX : Mid X d) (hs : ∀ r, Ok (X r)) (hl : Lst d 1 bx rows z (some b) f x) (hi : i < rows.length) (hm : rows.length ≤ 1000000) :
  ∃ bs' x', callL AP (.fn 84) [x, I i, I ((i + 1 : Nat))] (X ⟨bx, tk⟩) = some (x', X ⟨bs', tk⟩) ∧ Lst d 1 bs' (rows.eraseIdx i) z (some b) false x' ∧ bs'.length = bx.length ∧ (∀ j, j ≠ b → bs'[j]? = bx[j]?) ∧ ∃ n c, x' = .rsl d b 0 1 n c := by
 obtain ⟨hr1, hr2, hes, cs, cap, hb, rfl, hcs, htk, hclo, -⟩ := hl
 have hs1 : ∀ bx, Ok (X ⟨bx, tk⟩) := fun bx => hs _
 obtain ⟨cs1, cs2, o1, l1, o2, l2, t2, c2, hsame, hmvl⟩ := del_cells (zs := [I 0]) (m0 := max rows.length cap) hr1 rfl hi (by omega) hcs htk rfl hclo rfl
 have hmx : rows.length ≤ max rows.length cap := by omega
 have hcur : ∀ r r0, ((X r).push r0).cur = (X ⟨bx, tk⟩).acts.length := fun r r0 => by rw [cur_push]; exact hX.len _ _
 have hlt : d < (X ⟨bx, tk⟩).acts.length := hX.lt _
 have hdn : ¬ d = (X ⟨bx, tk⟩).acts.length := by omega
 generalize hM : max rows.length cap = M at *
 generalize hN : rows.length = N at *
 have s1 : sliceOp (.sl 1) (.rsl d b 0 1 N cap) (some (I (i : Int))) (some (I ((i + 1 : Nat) : Int))) (some (I (N : Int))) = some (if N = i then .slice .full 1 [] else .rsl d b (if N = i then 0 else 0 + i * 1) 1 (i + 1 - i) (N - i)) := by
  simp only [sliceOp, if_true, hM, mxOf, asNat_n hmx, Option.bind_some, Option.isSome_some, hiOf, asNat_n (show i + 1 ≤ N by omega), loOf, asNat_n (show i ≤ i + 1 by omega), Option.map_some, true_and]
 have s2 : sliceOp (.sl 1) (.rsl d b 0 1 N cap) none (some (I (i : Int))) none = some (.rsl d b 0 1 i M) := by
  simp only [sliceOp, if_true, hM, mxOf, Option.bind_some, Option.isSome_none, hiOf, asNat_n (show i ≤ M by omega), loOf, Option.map_some, Bool.false_eq_true, false_and, if_false, Nat.sub_zero]
  rw [if_neg (by omega)]
 have s3 : sliceOp (.sl 1) (.rsl d b 0 1 N cap) (some (I ((i + 1 : Nat) : Int))) none none = some (.rsl d b (if M = i + 1 then 0 else (i + 1) * 1) 1 (N - (i + 1)) (M - (i + 1))) := by
  simp only [sliceOp, if_true, hM, mxOf, Option.bind_some, Option.isSome_none, hiOf, asNat_n (show i + 1 ≤ N by omega), loOf, Option.map_some, Bool.false_eq_true, false_and, if_false, Nat.zero_add]
 have s4 : sliceOp (.sl 1) (.rsl d b 0 1 (N - 1) M) (some (I ((N - 1 : Nat) : Int))) (some (I (N : Int))) none = some (.rsl d b ((N - 1) * 1) 1 1 (M - (N - 1))) := by
  have hM2 : max (N - 1) M = M := by omega
  simp only [sliceOp, if_true, hM2, mxOf, Option.bind_some, Option.isSome_none, hiOf, asNat_n (show N ≤ M by omega), loOf, asNat_n (show N - 1 ≤ N by omega), Option.map_some, Bool.false_eq_true, false_and, if_false, Nat.zero_add]
  rw [if_neg (by omega), show N - (N - 1) = 1 by omega]
 have hlb := (List.getElem?_eq_some_iff.1 hb).1
 have a1 : ∀ r0, appendiOp ((X ⟨bx, tk⟩).push r0) 1 (.rsl d b 0 1 i M) (.rsl d b (if M = i + 1 then 0 else (i + 1) * 1) 1 (N - (i + 1)) (M - (i + 1))) = some (.rsl d b 0 1 (N - 1) M, (X ⟨bx.set b cs1, tk⟩).push r0) := fun r0 => by
  have hbx : ((X ⟨bx, tk⟩).push r0).box d b = some cs := by rw [hX.box]; exact hb
  by_cases hlast : N = i + 1
  ·have hcs1 : cs1 = cs := hsame hlast
   have hself : bx.set b cs1 = bx := by rw [hcs1]; exact set_self hb
   have hsrc : ((X ⟨bx, tk⟩).push r0).srcRows 1 (.rsl d b (if M = i + 1 then 0 else (i + 1) * 1) 1 (N - (i + 1)) (M - (i + 1))) = some ([], 0) := by
    have h0 : N - (i + 1) = 0 := by omega
    have h1 : (i + 1) * 1 ≤ cs.length := by rw [hcs]; exact Nat.mul_le_mul_right _ (by omega)
    have h2 : (if M = i + 1 then 0 else (i + 1) * 1) + 0 * 1 ≤ cs.length := by split <;> omega
    simp only [Sig.srcRows, if_true, hbx, Option.bind_some, h0, if_pos h2, Nat.zero_mul, List.take_zero]
   simp only [appendiOp, hsrc, Option.bind_some, if_true, hself]
   rw [show N - 1 = i by omega]
  ·have hMi : ¬ M = i + 1 := by omega
   simp only [hMi, if_false]
   have hle : (i + 1) * 1 + (N - (i + 1)) * 1 ≤ cs.length := by
    rw [hcs, ← Nat.add_mul]; exact Nat.mul_le_mul_right _ (by omega)
   have hsrc : ((X ⟨bx, tk⟩).push r0).srcRows 1 (.rsl d b ((i + 1) * 1) 1 (N - (i + 1)) (M - (i + 1))) = some ((cs.drop ((i + 1) * 1)).take ((N - (i + 1)) * 1), N - (i + 1)) := by
    simp only [Sig.srcRows, if_true, hbx, Option.bind_some, if_pos hle]
   have hmc : closeAll ((cs.drop ((i + 1) * 1)).take ((N - (i + 1)) * 1)) = some ((cs.drop ((i + 1) * 1)).take ((N - (i + 1)) * 1)) := closeAll_iff.2 fun a ha => closeAll_iff.1 hclo a (List.mem_of_mem_drop (List.mem_of_mem_take ha))
   have hst : ((X ⟨bx, tk⟩).push r0).store ((N - (i + 1)) * 1) (.ptr d b (i * 1)) (.agg ((cs.drop ((i + 1) * 1)).take ((N - (i + 1)) * 1))) = some ((X ⟨bx.set b cs1, tk⟩).push r0) :=
    hX.store' (r := ⟨bx, tk⟩) (y := .agg ((cs.drop ((i + 1) * 1)).take ((N - (i + 1)) * 1))) (fun m => fit_close hmc m) (fitN_iff.2 ⟨hmvl, cells_close hmc⟩) hb o1
   have h0 : ¬ N - (i + 1) = 0 := by omega
   have h1 : i + (N - (i + 1)) ≤ M := by omega
   simp only [appendiOp, hsrc, Option.bind_some, h0, if_false, h1, and_self, if_true, hst, Option.map_some]
   rw [show i + (N - (i + 1)) = N - 1 by omega]
 have hb1 : (bx.set b cs1)[b]? = some cs1 := by rw [List.getElem?_set_self hlb]
 have a2 : ∀ r0, clearOp ((X ⟨bx.set b cs1, tk⟩).push r0) [I 0] (.rsl d b ((N - 1) * 1) 1 1 (M - (N - 1))) = some (.tuple [], (X ⟨bx.set b cs2, tk⟩).push r0) := fun r0 => by
  have hst : ((X ⟨bx.set b cs1, tk⟩).push r0).store (1 * 1) (.ptr d b ((N - 1) * 1)) (.agg (List.replicate 1 [I 0]).flatten) = some ((X ⟨(bx.set b cs1).set b cs2, tk⟩).push r0) :=
   hX.store' (r := ⟨bx.set b cs1, tk⟩) (fun m => rfl) rfl hb1 o2
  rw [List.set_set] at hst
  simp only [clearOp, Nat.one_ne_zero, if_false, List.length_cons, List.length_nil, Nat.zero_add, if_true, hst, Option.map_some]
 have a3 : ∀ r r0, leaveVal ((X r).push r0) (.rsl d b 0 1 (N - 1) M) = some (.rsl d b 0 1 (N - 1) M) := fun r r0 => by
  show leaveCell ((X r).push r0) (.rsl d b 0 1 (N - 1) M) = _
  rw [leaveCell, if_neg (by rw [hcur]; exact hdn)]
 have ln : ∀ k c, lenOp false (.rsl d b 0 1 k c) = some (I (k : Int)) := fun _ _ => rfl
 refine ⟨bx.set b cs2, .rsl d b 0 1 (N - 1) M, ?_, ⟨fun r hr => hr1 r (List.mem_of_mem_eraseIdx hr), fun r hr => hr2 r (List.mem_of_mem_eraseIdx hr), hes, cs2, M, by rw [List.getElem?_set_self hlb], ?_, ?_, ?_, c2, fun h => by cases h⟩, by simp, fun j hj => by rw [List.getElem?_set_ne (fun e => hj e.symm)], _, _, rfl⟩
 ·generalize (if M = i + 1 then 0 else (i + 1) * 1) = off1 at *
  generalize (if N = i then AV.slice .full 1 [] else .rsl d b (if N = i then 0 else 0 + i * 1) 1 (i + 1 - i) (N - i)) = V1 at *
  have hes := @eq_succ i
  generalize ((i + 1 : Nat) : Int) = i1 at *
  rw [callL_go (show AP 84 = some c_z_Delete_int from rfl) rfl]
  simp (maxSteps := 1000000) only [go_sem, b_z_Delete_int, ln, s1, s2, s3, s4, a1, a2, a3, hes, Nat.reduceEqDiff, reduceCtorEq, ↓reduceIte]
 ·rw [List.length_eraseIdx_of_lt (by omega), hN]
 ·rw [l2, hcs, List.length_eraseIdx_of_lt (by omega), hN, show max (N - 1) M = M by omega]
 ·rw [List.length_eraseIdx_of_lt (by omega), hN]; exact t2
theorem z_Delete_CommandReport (hX : Mid X d) (hs : ∀ r, Ok (X r)) (hl : Lst d 2 bx rows z (some b) f x) (hi : i < rows.length) (hm : rows.length ≤ 1000000) :
  ∃ bs' x', callL AP (.fn 85) [x, I i, I ((i + 1 : Nat))] (X ⟨bx, tk⟩) = some (x', X ⟨bs', tk⟩) ∧ Lst d 2 bs' (rows.eraseIdx i) z (some b) false x' ∧ bs'.length = bx.length ∧ (∀ j, j ≠ b → bs'[j]? = bx[j]?) ∧ ∃ n c, x' = .rsl d b 0 2 n c := by
 obtain ⟨hr1, hr2, hes, cs, cap, hb, rfl, hcs, htk, hclo, -⟩ := hl
 have hs1 : ∀ bx, Ok (X ⟨bx, tk⟩) := fun bx => hs _
 obtain ⟨cs1, cs2, o1, l1, o2, l2, t2, c2, hsame, hmvl⟩ := del_cells (zs := [I 0, B false]) (m0 := max rows.length cap) hr1 rfl hi (by omega) hcs htk rfl hclo rfl
 have hmx : rows.length ≤ max rows.length cap := by omega
 have hcur : ∀ r r0, ((X r).push r0).cur = (X ⟨bx, tk⟩).acts.length := fun r r0 => by rw [cur_push]; exact hX.len _ _
 have hlt : d < (X ⟨bx, tk⟩).acts.length := hX.lt _
 have hdn : ¬ d = (X ⟨bx, tk⟩).acts.length := by omega
 generalize hM : max rows.length cap = M at *
 generalize hN : rows.length = N at *
 have s1 : sliceOp (.sl 2) (.rsl d b 0 2 N cap) (some (I (i : Int))) (some (I ((i + 1 : Nat) : Int))) (some (I (N : Int))) = some (if N = i then .slice .full 2 [] else .rsl d b (if N = i then 0 else 0 + i * 2) 2 (i + 1 - i) (N - i)) := by
  simp only [sliceOp, if_true, hM, mxOf, asNat_n hmx, Option.bind_some, Option.isSome_some, hiOf, asNat_n (show i + 1 ≤ N by omega), loOf, asNat_n (show i ≤ i + 1 by omega), Option.map_some, true_and]
 have s2 : sliceOp (.sl 2) (.rsl d b 0 2 N cap) none (some (I (i : Int))) none = some (.rsl d b 0 2 i M) := by
  simp only [sliceOp, if_true, hM, mxOf, Option.bind_some, Option.isSome_none, hiOf, asNat_n (show i ≤ M by omega), loOf, Option.map_some, Bool.false_eq_true, false_and, if_false, Nat.sub_zero]
  rw [if_neg (by omega)]
 have s3 : sliceOp (.sl 2) (.rsl d b 0 2 N cap) (some (I ((i + 1 : Nat) : Int))) none none = some (.rsl d b (if M = i + 1 then 0 else (i + 1) * 2) 2 (N - (i + 1)) (M - (i + 1))) := by
  simp only [sliceOp, if_true, hM, mxOf, Option.bind_some, Option.isSome_none, hiOf, asNat_n (show i + 1 ≤ N by omega), loOf, Option.map_some, Bool.false_eq_true, false_and, if_false, Nat.zero_add]
 have s4 : sliceOp (.sl 2) (.rsl d b 0 2 (N - 1) M) (some (I ((N - 1 : Nat) : Int))) (some (I (N : Int))) none = some (.rsl d b ((N - 1) * 2) 2 1 (M - (N - 1))) := by
  have hM2 : max (N - 1) M = M := by omega
  simp only [sliceOp, if_true, hM2, mxOf, Option.bind_some, Option.isSome_none, hiOf, asNat_n (show N ≤ M by omega), loOf, asNat_n (show N - 1 ≤ N by omega), Option.map_some, Bool.false_eq_true, false_and, if_false, Nat.zero_add]
  rw [if_neg (by omega), show N - (N - 1) = 1 by omega]
 have hlb := (List.getElem?_eq_some_iff.1 hb).1
 have a1 : ∀ r0, appendiOp ((X ⟨bx, tk⟩).push r0) 2 (.rsl d b 0 2 i M) (.rsl d b (if M = i + 1 then 0 else (i + 1) * 2) 2 (N - (i + 1)) (M - (i + 1))) = some (.rsl d b 0 2 (N - 1) M, (X ⟨bx.set b cs1, tk⟩).push r0) := fun r0 => by
  have hbx : ((X ⟨bx, tk⟩).push r0).box d b = some cs := by rw [hX.box]; exact hb
  by_cases hlast : N = i + 1
  ·have hcs1 : cs1 = cs := hsame hlast
   have hself : bx.set b cs1 = bx := by rw [hcs1]; exact set_self hb
   have hsrc : ((X ⟨bx, tk⟩).push r0).srcRows 2 (.rsl d b (if M = i + 1 then 0 else (i + 1) * 2) 2 (N - (i + 1)) (M - (i + 1))) = some ([], 0) := by
    have h0 : N - (i + 1) = 0 := by omega
    have h1 : (i + 1) * 2 ≤ cs.length := by rw [hcs]; exact Nat.mul_le_mul_right _ (by omega)
    have h2 : (if M = i + 1 then 0 else (i + 1) * 2) + 0 * 2 ≤ cs.length := by split <;> omega
    simp only [Sig.srcRows, if_true, hbx, Option.bind_some, h0, if_pos h2, Nat.zero_mul, List.take_zero]
   simp only [appendiOp, hsrc, Option.bind_some, if_true, hself]
   rw [show N - 1 = i by omega]
  ·have hMi : ¬ M = i + 1 := by omega
   simp only [hMi, if_false]
   have hle : (i + 1) * 2 + (N - (i + 1)) * 2 ≤ cs.length := by
    rw [hcs, ← Nat.add_mul]; exact Nat.mul_le_mul_right _ (by omega)
   have hsrc : ((X ⟨bx, tk⟩).push r0).srcRows 2 (.rsl d b ((i + 1) * 2) 2 (N - (i + 1)) (M - (i + 1))) = some ((cs.drop ((i + 1) * 2)).take ((N - (i + 1)) * 2), N - (i + 1)) := by
    simp only [Sig.srcRows, if_true, hbx, Option.bind_some, if_pos hle]
   have hmc : closeAll ((cs.drop ((i + 1) * 2)).take ((N - (i + 1)) * 2)) = some ((cs.drop ((i + 1) * 2)).take ((N - (i + 1)) * 2)) := closeAll_iff.2 fun a ha => closeAll_iff.1 hclo a (List.mem_of_mem_drop (List.mem_of_mem_take ha))
   have hst : ((X ⟨bx, tk⟩).push r0).store ((N - (i + 1)) * 2) (.ptr d b (i * 2)) (.agg ((cs.drop ((i + 1) * 2)).take ((N - (i + 1)) * 2))) = some ((X ⟨bx.set b cs1, tk⟩).push r0) :=
    hX.store' (r := ⟨bx, tk⟩) (y := .agg ((cs.drop ((i + 1) * 2)).take ((N - (i + 1)) * 2))) (fun m => fit_close hmc m) (fitN_iff.2 ⟨hmvl, cells_close hmc⟩) hb o1
   have h0 : ¬ N - (i + 1) = 0 := by omega
   have h1 : i + (N - (i + 1)) ≤ M := by omega
   simp only [appendiOp, hsrc, Option.bind_some, h0, if_false, h1, and_self, if_true, hst, Option.map_some]
   rw [show i + (N - (i + 1)) = N - 1 by omega]
 have hb1 : (bx.set b cs1)[b]? = some cs1 := by rw [List.getElem?_set_self hlb]
 have a2 : ∀ r0, clearOp ((X ⟨bx.set b cs1, tk⟩).push r0) [I 0, B false] (.rsl d b ((N - 1) * 2) 2 1 (M - (N - 1))) = some (.tuple [], (X ⟨bx.set b cs2, tk⟩).push r0) := fun r0 => by
  have hst : ((X ⟨bx.set b cs1, tk⟩).push r0).store (1 * 2) (.ptr d b ((N - 1) * 2)) (.agg (List.replicate 1 [I 0, B false]).flatten) = some ((X ⟨(bx.set b cs1).set b cs2, tk⟩).push r0) :=
   hX.store' (r := ⟨bx.set b cs1, tk⟩) (fun m => rfl) rfl hb1 o2
  rw [List.set_set] at hst
  simp only [clearOp, Nat.one_ne_zero, if_false, List.length_cons, List.length_nil, Nat.zero_add, Nat.reduceAdd, if_true, hst, Option.map_some]
 have a3 : ∀ r r0, leaveVal ((X r).push r0) (.rsl d b 0 2 (N - 1) M) = some (.rsl d b 0 2 (N - 1) M) := fun r r0 => by
  show leaveCell ((X r).push r0) (.rsl d b 0 2 (N - 1) M) = _
  rw [leaveCell, if_neg (by rw [hcur]; exact hdn)]
 have ln : ∀ k c, lenOp false (.rsl d b 0 2 k c) = some (I (k : Int)) := fun _ _ => rfl
 refine ⟨bx.set b cs2, .rsl d b 0 2 (N - 1) M, ?_, ⟨fun r hr => hr1 r (List.mem_of_mem_eraseIdx hr), fun r hr => hr2 r (List.mem_of_mem_eraseIdx hr), hes, cs2, M, by rw [List.getElem?_set_self hlb], ?_, ?_, ?_, c2, fun h => by cases h⟩, by simp, fun j hj => by rw [List.getElem?_set_ne (fun e => hj e.symm)], _, _, rfl⟩
 ·generalize (if M = i + 1 then 0 else (i + 1) * 2) = off1 at *
  generalize (if N = i then AV.slice .full 2 [] else .rsl d b (if N = i then 0 else 0 + i * 2) 2 (i + 1 - i) (N - i)) = V1 at *
  have hes := @eq_succ i
  generalize ((i + 1 : Nat) : Int) = i1 at *
  rw [callL_go (show AP 85 = some c_z_Delete_CommandReport from rfl) rfl]
  simp (maxSteps := 1000000) only [go_sem, b_z_Delete_CommandReport, ln, s1, s2, s3, s4, a1, a2, a3, hes, Nat.reduceEqDiff, reduceCtorEq, ↓reduceIte]
 ·rw [List.length_eraseIdx_of_lt (by omega), hN]
 ·rw [l2, hcs, List.length_eraseIdx_of_lt (by omega), hN, show max (N - 1) M = M by omega]
 ·rw [List.length_eraseIdx_of_lt (by omega), hN]; exact t2
end
end Go.Ax.Sx.Cm

namespace Go.Ax.Sx
theorem Lst.at {d es : Nat} {bx : List (List AV)} {rows : List (List AV)} {z x : AV} {b : Option Nat} {f : Bool} {i : Nat} {r : List AV} (h : Lst d es bx rows z b f x) (hr : rows[i]? = some r) :
  ∃ b' cs, b = some b' ∧ bx[b']? = some cs ∧ cutN (i * es) es cs = some r ∧ indexAddrOp none es x (I (i : Int)) = some (.ptr d b' (i * es)) := by
 obtain ⟨h1, h2, h3, h⟩ := h
 have hi := (List.getElem?_eq_some_iff.1 hr).1
 cases b with
 | none => obtain ⟨rfl, _⟩ := h; simp at hi
 | some b =>
  obtain ⟨cs, cap, hb, rfl, hcs, htk, -⟩ := h
  refine ⟨b, cs, rfl, hb, ?_, ?_⟩
  ·obtain ⟨rA, rB, rfl, rfl⟩ : ∃ rA rB, rows = rA ++ r :: rB ∧ rA.length = i := by
    refine ⟨rows.take i, rows.drop (i + 1), ?_, by simp; omega⟩
    rw [← drop_get hr, List.take_append_drop]
   have hA : rA.flatten.length = rA.length * es := flen fun q hq => h1 q (by simp [hq])
   have hR : r.length = es := h1 r (by simp)
   have hle : (rA.length + 1) * es ≤ cs.length := by
    rw [hcs]; refine Nat.mul_le_mul_right _ ?_
    simp; omega
   rw [Nat.succ_mul] at hle
   rw [cutN_eq, if_pos hle]
   have hcs2 : cs = rA.flatten ++ (r ++ (rB.flatten ++ cs.drop ((rA ++ r :: rB).length * es))) := by
    have h1 := List.take_append_drop ((rA ++ r :: rB).length * es) cs
    rw [htk] at h1
    rw [List.flatten_append, List.flatten_cons] at h1
    conv => lhs; rw [← h1]
    simp
   rw [hcs2, ← hA, List.drop_left', ← hR, List.take_left']
   ·rfl
   ·rfl
  ·have : (0 : Int) ≤ (i : Int) ∧ (i : Int) < (rows.length : Int) := by omega
   simp [indexAddrOp, idx, this]
theorem erase_map {α β : Type} (f : α → β) : ∀ (l : List α) (i : Nat), (l.map f).eraseIdx i = (l.eraseIdx i).map f
 | [], _ => rfl
 | _ :: _, 0 => rfl
 | a :: l, i + 1 => by simp only [List.map_cons, List.eraseIdx_cons_succ, erase_map f l i]
end Go.Ax.Sx
namespace Go.Ax.Sx.Cm
open Go.Ax
set_option linter.unusedSimpArgs false
set_option linter.unusedVariables false
set_option maxRecDepth 100000
theorem overN_one {row : List AV} {off : Nat} {x y : AV} (h : row[off]? = some x) : overN row off [y] = some (row.set off y) := by
 have := (List.getElem?_eq_some_iff.1 h).1
 rw [overN_eq, if_pos (by simp; omega)]; rfl
theorem cut1 {cs : List AV} {k : Nat} {x : AV} (h : cutN k 1 cs = some [x]) : cs[k]? = some x := by
 rw [cutN_eq] at h
 by_cases hl : k + 1 ≤ cs.length
 ·rw [if_pos hl] at h
  injection h with h
  have h2 : ((cs.drop k).take 1)[0]? = some x := by rw [h]; rfl
  rw [List.getElem?_take_of_lt (by decide), List.getElem?_drop] at h2
  exact h2
 ·rw [if_neg hl] at h; cases h
section
variable {X : Rec → Sig} {d : Nat} {bx : List (List AV)} {tk : List (Option Nat)} {z x : AV} {b : Option Nat} {f : Bool} {i L off : Nat} {row : List AV}
theorem command_take_int_no {l : List (Int)} (hX : Mid X d) (hs : ∀ r, Ok (X r)) (hL : bx[L]? = some row) (hx : row[off]? = some x) (hl : Lst d 1 bx (l.map rowI) z b f x) (hi : l.length ≤ i) :
  callL AP (.fn 75) [.ptr d L off, I i] (X ⟨bx, tk⟩) = some (.tuple [I 0, B false], X ⟨bx, tk⟩) := by
 have hs1 : ∀ bx, Ok (X ⟨bx, tk⟩) := fun bx => hs _
 have hbx : ∀ r0, ((X ⟨bx, tk⟩).push r0).load false 1 (.ptr d L off) = some x := fun r0 => by
  rw [load_any, hX.box]; simp only [hL, Option.bind_some, part_f, hx]
 have hln := hl.lenV
 rw [List.length_map] at hln
 have hge : decide ((l.length : Int) ≤ (i : Int)) = true := decide_eq_true (by omega)
 rw [callL_go (show AP 75 = some c_command_take_int from rfl) rfl]
 simp (maxSteps := 1000000) only [go_sem, b_command_take_int, hbx, hln, hge, Nat.reduceEqDiff, reduceCtorEq, ↓reduceIte]
theorem command_take_int_yes {l : List (Int)} {v : Int} (hX : Mid X d) (hs : ∀ r, Ok (X r)) (hL : bx[L]? = some row) (hx : row[off]? = some x) (hl : Lst d 1 bx (l.map rowI) z b f x) (hLb : b ≠ some L) (hi : l[i]? = some v) (hm : l.length ≤ 1000000) :
  ∃ bs' x', callL AP (.fn 75) [.ptr d L off, I i] (X ⟨bx, tk⟩) = some (.tuple [I v, B true], X ⟨bs', tk⟩) ∧ Lst d 1 bs' ((l.eraseIdx i).map rowI) z b false x' ∧ bs'[L]? = some (row.set off x') ∧ bs'.length = bx.length ∧ (∀ j, j ≠ L → b ≠ some j → bs'[j]? = bx[j]?) := by
 have hs1 : ∀ bx, Ok (X ⟨bx, tk⟩) := fun bx => hs _
 have hil := (List.getElem?_eq_some_iff.1 hi).1
 have hri : (l.map rowI)[i]? = some (rowI v) := by rw [List.getElem?_map, hi]; rfl
 obtain ⟨b', cs, rfl, hb, hcut, hia⟩ := hl.at hri
 have hLb' : b' ≠ L := fun e => hLb (by rw [e])
 obtain ⟨bs1, x', hdel, hl', hlen, hkeep, n', c', hx'⟩ := z_Delete_int (X := fun r => (X r).push ⟨[], []⟩) (tk := tk) (hX.up _) (fun r => (hs r).push _) hl (by rw [List.length_map]; exact hil) (by rw [List.length_map]; exact hm)
 rw [erase_map] at hl'
 have hL1 : bs1[L]? = some row := by rw [hkeep L (fun e => hLb' e.symm)]; exact hL
 have hlL := (List.getElem?_eq_some_iff.1 hL1).1
 have hbx : ∀ r0, ((X ⟨bx, tk⟩).push r0).load false 1 (.ptr d L off) = some x := fun r0 => by
  rw [load_any, hX.box]; simp only [hL, Option.bind_some, part_f, hx]
 have hld : ∀ r0, ((X ⟨bx, tk⟩).push r0).load false 1 (.ptr d b' (i * 1)) = some (I v) := fun r0 => by
  rw [load_any, hX.box]; simp only [hb, Option.bind_some]; rw [part_f]; exact cut1 hcut
 have hst : ∀ r0, ((X ⟨bs1, tk⟩).push r0).store 1 (.ptr d L off) x' = some ((X ⟨bs1.set L (row.set off x'), tk⟩).push r0) := fun r0 => by
  rw [hx']
  exact hX.store' (r := ⟨bs1, tk⟩) (y := .rsl d b' 0 1 n' c') fit_rsl rfl hL1 (overN_one hx)
 have hcb := fun r r' r0 b => hX.cbox r r' r0 b
 have hcs := fun r r' r0 n b off y => hX.cstore hs r r' r0 (n := n) (b := b) (off := off) (y := y)
 have hln := hl.lenV
 rw [List.length_map] at hln
 have hge : decide ((l.length : Int) ≤ (i : Int)) = false := decide_eq_false (by omega)
 have hwi := wrap_succ hil (show (l.length : Int) < _ by omega)
 refine ⟨bs1.set L (row.set off x'), x', ?_, hl'.same (fun j hj => ?_), by rw [List.getElem?_set_self hlL], by simp [hlen], fun j hj hb' => ?_⟩
 ·generalize ((i + 1 : Nat) : Int) = i1 at *
  rw [callL_go (show AP 75 = some c_command_take_int from rfl) rfl]
  simp (maxSteps := 1000000) only [go_sem, b_command_take_int, hbx, hld, hst, hdel, hia, hln, hge, hwi, Nat.reduceEqDiff, reduceCtorEq, ↓reduceIte]
 ·injection hj with hj
  subst hj
  rw [List.getElem?_set_ne (fun e => hLb' e.symm)]
 ·rw [List.getElem?_set_ne (fun e => hj e.symm)]
  exact hkeep j (fun e => hb' (by rw [e]))
theorem command_take_api_CommandReport_no {l : List (Int × Bool)} (hX : Mid X d) (hs : ∀ r, Ok (X r)) (hL : bx[L]? = some row) (hx : row[off]? = some x) (hl : Lst d 2 bx (l.map rowUp2) z b f x) (hi : l.length ≤ i) :
  callL AP (.fn 77) [.ptr d L off, I i] (X ⟨bx, tk⟩) = some (.tuple [.agg [I 0, B false], B false], X ⟨bx, tk⟩) := by
 have hs1 : ∀ bx, Ok (X ⟨bx, tk⟩) := fun bx => hs _
 have hbx : ∀ r0, ((X ⟨bx, tk⟩).push r0).load false 1 (.ptr d L off) = some x := fun r0 => by
  rw [load_any, hX.box]; simp only [hL, Option.bind_some, part_f, hx]
 have hln := hl.lenV
 rw [List.length_map] at hln
 have hge : decide ((l.length : Int) ≤ (i : Int)) = true := decide_eq_true (by omega)
 rw [callL_go (show AP 77 = some c_command_take_api_CommandReport from rfl) rfl]
 simp (maxSteps := 1000000) only [go_sem, b_command_take_api_CommandReport, hs1, hbx, hln, hge, Nat.reduceEqDiff, reduceCtorEq, Nat.reduceAdd, ↓reduceIte]
theorem command_take_api_CommandReport_yes {l : List (Int × Bool)} {v : Int × Bool} (hX : Mid X d) (hs : ∀ r, Ok (X r)) (hL : bx[L]? = some row) (hx : row[off]? = some x) (hl : Lst d 2 bx (l.map rowUp2) z b f x) (hLb : b ≠ some L) (hi : l[i]? = some v) (hm : l.length ≤ 1000000) :
  ∃ bs' x', callL AP (.fn 77) [.ptr d L off, I i] (X ⟨bx, tk⟩) = some (.tuple [.agg (rowUp2 v), B true], X ⟨bs', tk⟩) ∧ Lst d 2 bs' ((l.eraseIdx i).map rowUp2) z b false x' ∧ bs'[L]? = some (row.set off x') ∧ bs'.length = bx.length ∧ (∀ j, j ≠ L → b ≠ some j → bs'[j]? = bx[j]?) := by
 have hs1 : ∀ bx, Ok (X ⟨bx, tk⟩) := fun bx => hs _
 have hil := (List.getElem?_eq_some_iff.1 hi).1
 have hri : (l.map rowUp2)[i]? = some (rowUp2 v) := by rw [List.getElem?_map, hi]; rfl
 obtain ⟨b', cs, rfl, hb, hcut, hia⟩ := hl.at hri
 have hLb' : b' ≠ L := fun e => hLb (by rw [e])
 obtain ⟨bs1, x', hdel, hl', hlen, hkeep, n', c', hx'⟩ := z_Delete_CommandReport (X := fun r => (X r).push ⟨[[I 0, B false], [I v.1, B v.2]], []⟩) (tk := tk) (hX.up _) (fun r => (hs r).push _) hl (by rw [List.length_map]; exact hil) (by rw [List.length_map]; exact hm)
 rw [erase_map] at hl'
 have hL1 : bs1[L]? = some row := by rw [hkeep L (fun e => hLb' e.symm)]; exact hL
 have hlL := (List.getElem?_eq_some_iff.1 hL1).1
 have hbx : ∀ r0, ((X ⟨bx, tk⟩).push r0).load false 1 (.ptr d L off) = some x := fun r0 => by
  rw [load_any, hX.box]; simp only [hL, Option.bind_some, part_f, hx]
 have hld : ∀ r0, ((X ⟨bx, tk⟩).push r0).load true 2 (.ptr d b' (i * 2)) = some (.agg (rowUp2 v)) := fun r0 => by
  rw [load_any, hX.box]; simp only [hb, Option.bind_some]; rw [part_t, hcut]; rfl
 have hst : ∀ r0, ((X ⟨bs1, tk⟩).push r0).store 1 (.ptr d L off) x' = some ((X ⟨bs1.set L (row.set off x'), tk⟩).push r0) := fun r0 => by
  rw [hx']
  exact hX.store' (r := ⟨bs1, tk⟩) (y := .rsl d b' 0 2 n' c') fit_rsl rfl hL1 (overN_one hx)
 have hcb := fun r r' r0 b => hX.cbox r r' r0 b
 have hcs := fun r r' r0 n b off y => hX.cstore hs r r' r0 (n := n) (b := b) (off := off) (y := y)
 have hln := hl.lenV
 rw [List.length_map] at hln
 have hge : decide ((l.length : Int) ≤ (i : Int)) = false := decide_eq_false (by omega)
 have hwi := wrap_succ hil (show (l.length : Int) < _ by omega)
 refine ⟨bs1.set L (row.set off x'), x', ?_, hl'.same (fun j hj => ?_), by rw [List.getElem?_set_self hlL], by simp [hlen], fun j hj hb' => ?_⟩
 ·generalize ((i + 1 : Nat) : Int) = i1 at *
  rw [callL_go (show AP 77 = some c_command_take_api_CommandReport from rfl) rfl]
  simp (maxSteps := 1000000) only [go_sem, b_command_take_api_CommandReport, hbx, hld, hst, hdel, hia, hln, hge, hwi, hcb, hcs, Nat.reduceEqDiff, reduceCtorEq, Nat.reduceAdd, ↓reduceIte]
 ·injection hj with hj
  subst hj
  rw [List.getElem?_set_ne (fun e => hLb' e.symm)]
 ·rw [List.getElem?_set_ne (fun e => hj e.symm)]
  exact hkeep j (fun e => hb' (by rw [e]))
end
end Go.Ax.Sx.Cm

namespace Go.Ax.Sx.Cm
open Go.Ax
set_option linter.unusedSimpArgs false
set_option linter.unusedVariables false
set_option maxRecDepth 100000
structure Ix where
 L : Nat
 P : Nat
 K : Nat
 xD : AV
 xN : AV
 xU : AV
 zD : AV
 zN : AV
 zU : AV
 bD : Option Nat
 bN : Option Nat
 bU : Option Nat
 fD : Bool
 fN : Bool
 fU : Bool
structure LS where
 q : CS
 pm : Int
 pa : Int
 last : List Int
structure Lk (d lo : Nat) (ix : Ix) (u : Upl) (w : LS) (bx : List (List AV)) : Prop where
 lk : bx[ix.L]? = some (rowLk u w.q ix.xD ix.xN ix.xU (.ptr d ix.P 0))
 pr : bx[ix.P]? = some (rowPr u.m w.pm w.pa (.rsl d ix.K 0 1 w.last.length 0))
 la : bx[ix.K]? = some (w.last.map I)
 hD : Lst d 2 bx (w.q.done.map rowDn) ix.zD ix.bD ix.fD ix.xD
 hN : Lst d 1 bx (w.q.down.map rowI) ix.zN ix.bN ix.fN ix.xN
 hU : Lst d 2 bx (w.q.up.map rowUp2) ix.zU ix.bU ix.fU ix.xU
 LP : ix.L ≠ ix.P
 LK : ix.L ≠ ix.K
 PK : ix.P ≠ ix.K
 nD : ∀ b, ix.bD = some b → b ≠ ix.L ∧ b ≠ ix.P ∧ b ≠ ix.K ∧ lo ≤ b
 nN : ∀ b, ix.bN = some b → b ≠ ix.L ∧ b ≠ ix.P ∧ b ≠ ix.K ∧ lo ≤ b
 nU : ∀ b, ix.bU = some b → b ≠ ix.L ∧ b ≠ ix.P ∧ b ≠ ix.K ∧ lo ≤ b
 dDN : ∀ b, ix.bD = some b → ix.bN ≠ some b
 dDU : ∀ b, ix.bD = some b → ix.bU ≠ some b
 dNU : ∀ b, ix.bN = some b → ix.bU ≠ some b
 lL : lo ≤ ix.L
 lP : lo ≤ ix.P
 lK : lo ≤ ix.K
structure Ch (ix ix' : Ix) (q' : CS) : Prop where
 L : ix'.L = ix.L
 P : ix'.P = ix.P
 K : ix'.K = ix.K
 zD : ix'.zD = ix.zD
 zN : ix'.zN = ix.zN
 zU : ix'.zU = ix.zU
 cD : ix'.bD = ix.bD ∨ q'.done ≠ []
 cN : ix'.bN = ix.bN ∨ q'.down ≠ []
 cU : ix'.bU = ix.bU ∨ q'.up ≠ []
def Rs (X : Rec → Sig) (d lo : Nat) (u : Upl) (ix : Ix) (bx : List (List AV)) (v : AV) (w' : LS) (F : Ix → Prop) (o : Option (AV × Sig)) : Prop :=
 ∃ ix' bx' tk', o = some (v, X ⟨bx', tk'⟩) ∧ Lk d lo ix' u w' bx' ∧ Ch ix ix' w'.q ∧ (∀ j, j < lo → bx'[j]? = bx[j]?) ∧ bx.length ≤ bx'.length ∧ F ix'
def Fl (a b c : Bool) (ix : Ix) : Prop := ix.fD = a ∧ ix.fN = b ∧ ix.fU = c
theorem Ch.refl {ix : Ix} {q : CS} : Ch ix ix q := ⟨rfl, rfl, rfl, rfl, rfl, rfl, .inl rfl, .inl rfl, .inl rfl⟩
section
variable {X : Rec → Sig} {d lo : Nat} {bx : List (List AV)} {tk : List (Option Nat)} {u : Upl} {ix : Ix} {w : LS}
theorem Lk.setL (h : Lk d lo ix u w bx) {q2 : CS} (e1 : q2.done = w.q.done) (e2 : q2.down = w.q.down) (e3 : q2.up = w.q.up) :
  Lk d lo ix u { w with q := q2 } (bx.set ix.L (rowLk u q2 ix.xD ix.xN ix.xU (.ptr d ix.P 0))) := by
 have hl := (List.getElem?_eq_some_iff.1 h.lk).1
 exact ⟨by rw [List.getElem?_set_self hl], by rw [List.getElem?_set_ne h.LP]; exact h.pr, by rw [List.getElem?_set_ne h.LK]; exact h.la,
  by show Lst d 2 _ (q2.done.map rowDn) _ _ _ _; rw [e1]; exact h.hD.same fun j hj => by rw [List.getElem?_set_ne (fun e => (h.nD j hj).1 e.symm)],
  by show Lst d 1 _ (q2.down.map rowI) _ _ _ _; rw [e2]; exact h.hN.same fun j hj => by rw [List.getElem?_set_ne (fun e => (h.nN j hj).1 e.symm)],
  by show Lst d 2 _ (q2.up.map rowUp2) _ _ _ _; rw [e3]; exact h.hU.same fun j hj => by rw [List.getElem?_set_ne (fun e => (h.nU j hj).1 e.symm)],
  h.LP, h.LK, h.PK, h.nD, h.nN, h.nU, h.dDN, h.dDU, h.dNU, h.lL, h.lP, h.lK⟩
theorem Lk.setP (h : Lk d lo ix u w bx) (pm pa : Int) : Lk d lo ix u { w with pm := pm, pa := pa } (bx.set ix.P (rowPr u.m pm pa (.rsl d ix.K 0 1 w.last.length 0))) := by
 have hl := (List.getElem?_eq_some_iff.1 h.pr).1
 exact ⟨by rw [List.getElem?_set_ne h.LP.symm]; exact h.lk, by rw [List.getElem?_set_self hl], by rw [List.getElem?_set_ne h.PK]; exact h.la,
  h.hD.same fun j hj => by rw [List.getElem?_set_ne (fun e => (h.nD j hj).2.1 e.symm)],
  h.hN.same fun j hj => by rw [List.getElem?_set_ne (fun e => (h.nN j hj).2.1 e.symm)],
  h.hU.same fun j hj => by rw [List.getElem?_set_ne (fun e => (h.nU j hj).2.1 e.symm)],
  h.LP, h.LK, h.PK, h.nD, h.nN, h.nU, h.dDN, h.dDU, h.dNU, h.lL, h.lP, h.lK⟩
theorem Lk.setK (h : Lk d lo ix u w bx) {last : List Int} (e : last.length = w.last.length) : Lk d lo ix u { w with last := last } (bx.set ix.K (last.map I)) := by
 have hl := (List.getElem?_eq_some_iff.1 h.la).1
 exact ⟨by rw [List.getElem?_set_ne h.LK.symm]; exact h.lk, by rw [List.getElem?_set_ne h.PK.symm]; show _ = some (rowPr u.m w.pm w.pa (.rsl d ix.K 0 1 last.length 0)); rw [e]; exact h.pr, by rw [List.getElem?_set_self hl],
  h.hD.same fun j hj => by rw [List.getElem?_set_ne (fun e => (h.nD j hj).2.2.1 e.symm)],
  h.hN.same fun j hj => by rw [List.getElem?_set_ne (fun e => (h.nN j hj).2.2.1 e.symm)],
  h.hU.same fun j hj => by rw [List.getElem?_set_ne (fun e => (h.nU j hj).2.2.1 e.symm)],
  h.LP, h.LK, h.PK, h.nD, h.nN, h.nU, h.dDN, h.dDU, h.dNU, h.lL, h.lP, h.lK⟩
theorem Lk.boxL (h : Lk d lo ix u w bx) (hX : Mid X d) (r0 : Rec) : ((X ⟨bx, tk⟩).push r0).box d ix.L = some (rowLk u w.q ix.xD ix.xN ix.xU (.ptr d ix.P 0)) := (hX.box (r := ⟨bx, tk⟩)).trans h.lk
theorem Lk.boxP (h : Lk d lo ix u w bx) (hX : Mid X d) (r0 : Rec) : ((X ⟨bx, tk⟩).push r0).box d ix.P = some (rowPr u.m w.pm w.pa (.rsl d ix.K 0 1 w.last.length 0)) := (hX.box (r := ⟨bx, tk⟩)).trans h.pr
theorem Lk.st (h : Lk d lo ix u w bx) (hX : Mid X d) {off : Nat} {y : AV} {q2 : CS} (hc : y.cells = [y]) (hf : y.close = some y) (ho : overN (rowLk u w.q ix.xD ix.xN ix.xU (.ptr d ix.P 0)) off [y] = some (rowLk u q2 ix.xD ix.xN ix.xU (.ptr d ix.P 0))) (r0 : Rec) :
  ((X ⟨bx, tk⟩).push r0).store 1 (.ptr d ix.L off) y = some ((X ⟨bx.set ix.L (rowLk u q2 ix.xD ix.xN ix.xU (.ptr d ix.P 0)), tk⟩).push r0) := by
 refine hX.store' (r := ⟨bx, tk⟩) ?_ ?_ h.lk (by rw [hc]; exact ho)
 ·rw [hc]; exact fit_close (by simp [closeAll, hf])
 ·rw [hc, fitN_iff]; exact ⟨rfl, by simp [cell_close hf]⟩
theorem Lk.lt (h : Lk d lo ix u w bx) {k : Nat} {r : List AV} (hk : lo ≤ k) {j : Nat} (hj : j < lo) : (bx.set k r)[j]? = bx[j]? := by rw [List.getElem?_set_ne (by omega)]
def passW (w : LS) (n : Int) : LS := { w with q := { w.q with at_ := w.q.at_ + n }, pa := w.q.at_ + n }
theorem command_link_pass {n : Int} (hX : Mid X d) (hs : ∀ r, Ok (X r)) (h : Lk d lo ix u w bx) (h0 : 0 ≤ n) (h1 : n ≤ 1000000000000) (a0 : 0 ≤ w.q.at_) (a1 : w.q.at_ ≤ 1000000000000) :
  Rs X d lo u ix bx (I (if 1000000000000 < w.q.at_ + n then 2 else 0)) (if 1000000000000 < w.q.at_ + n then w else passW w n) (Fl ix.fD ix.fN ix.fU) (callL AP (.fn 56) [.ptr d ix.L 0, I n] (X ⟨bx, tk⟩)) := by
 have hs1 : ∀ bx, Ok (X ⟨bx, tk⟩) := fun bx => hs _
 have bL := fun r0 => h.boxL (tk := tk) hX r0
 have bP := fun r0 => h.boxP (tk := tk) hX r0
 have hw := wrap_id (x := w.q.at_ + n) (by omega) (by omega)
 by_cases hc : 1000000000000 < w.q.at_ + n
 ·simp only [hc, if_true]
  have hcd : decide (1000000000000 < w.q.at_ + n) = true := decide_eq_true hc
  refine ⟨ix, bx, tk, ?_, h, .refl, fun _ _ => rfl, Nat.le_refl _, rfl, rfl, rfl⟩
  rw [callL_go (show AP 56 = some c_command_link_pass from rfl) rfl]
  simp (maxSteps := 1000000) only [go_sem, b_command_link_pass, bL, hw, hcd, Nat.reduceEqDiff, reduceCtorEq, Nat.reduceAdd, ↓reduceIte]
 ·simp only [hc, if_false]
  have hcd : decide (1000000000000 < w.q.at_ + n) = false := decide_eq_false hc
  have k1 : Lk d lo ix u _ _ := h.setL (q2 := { w.q with at_ := w.q.at_ + n }) rfl rfl rfl
  have k2 : Lk d lo ix u _ _ := k1.setP w.pm (w.q.at_ + n)
  have st1 := fun r0 => h.st (tk := tk) hX (off := 6) (y := I (w.q.at_ + n)) (q2 := { w.q with at_ := w.q.at_ + n }) rfl rfl rfl r0
  have bL1 := fun r0 => k1.boxL (tk := tk) hX r0
  have bP1 := fun r0 => k1.boxP (tk := tk) hX r0
  have st2 : ∀ r0, ((X ⟨bx.set ix.L (rowLk u { w.q with at_ := w.q.at_ + n } ix.xD ix.xN ix.xU (.ptr d ix.P 0)), tk⟩).push r0).store 1 (.ptr d ix.P 4) (I (w.q.at_ + n)) = some ((X ⟨(bx.set ix.L (rowLk u { w.q with at_ := w.q.at_ + n } ix.xD ix.xN ix.xU (.ptr d ix.P 0))).set ix.P (rowPr u.m w.pm (w.q.at_ + n) (.rsl d ix.K 0 1 w.last.length 0)), tk⟩).push r0) := fun r0 =>
   hX.store' (r := ⟨bx.set ix.L (rowLk u { w.q with at_ := w.q.at_ + n } ix.xD ix.xN ix.xU (.ptr d ix.P 0)), tk⟩) (fun _ => rfl) rfl k1.pr rfl
  refine ⟨ix, _, tk, ?_, k2, .refl, fun j hj => by rw [Lk.lt k1 h.lP hj, Lk.lt h h.lL hj], by simp, rfl, rfl, rfl⟩
  generalize bx.set ix.L (rowLk u { w.q with at_ := w.q.at_ + n } ix.xD ix.xN ix.xU (.ptr d ix.P 0)) = bx1 at *
  rw [callL_go (show AP 56 = some c_command_link_pass from rfl) rfl]
  simp (maxSteps := 1000000) only [go_sem, b_command_link_pass, bL, bL1, hw, hcd, st1, st2, Nat.reduceEqDiff, reduceCtorEq, Nat.reduceAdd, ↓reduceIte]
end
end Go.Ax.Sx.Cm

namespace Go.Ax.Sx.Cm
open Go.Ax
set_option linter.unusedSimpArgs false
set_option linter.unusedVariables false
set_option maxRecDepth 100000
section
variable {X : Rec → Sig} {d lo : Nat} {bx : List (List AV)} {tk : List (Option Nat)} {u : Upl} {ix : Ix} {w : LS}
theorem Lk.listN (h : Lk d lo ix u w bx) {bx' : List (List AV)} {x' : AV} {l' : List Int} {b' : Option Nat} {f' : Bool} (hl : Lst d 1 bx' (l'.map rowI) ix.zN b' f' x') (hL : bx'[ix.L]? = some (rowLk u { w.q with down := l' } ix.xD x' ix.xU (.ptr d ix.P 0)))
  (hk : ∀ j, j ≠ ix.L → ix.bN ≠ some j → j < bx.length → bx'[j]? = bx[j]?) (hb : ∀ j, b' = some j → ix.bN = some j ∨ (bx.length ≤ j)) (hlo : lo ≤ bx.length) :
  Lk d lo { ix with xN := x', bN := b', fN := f' } u { w with q := { w.q with down := l' } } bx' := by
 have l1 := (List.getElem?_eq_some_iff.1 h.lk).1
 have l2 := (List.getElem?_eq_some_iff.1 h.pr).1
 have l3 := (List.getElem?_eq_some_iff.1 h.la).1
 have lD : ∀ j, ix.bD = some j → j < bx.length := fun j hj => by
  have := h.hD.2.2.2; rw [hj] at this; obtain ⟨_, _, hb, _⟩ := this; exact (List.getElem?_eq_some_iff.1 hb).1
 have lU : ∀ j, ix.bU = some j → j < bx.length := fun j hj => by
  have := h.hU.2.2.2; rw [hj] at this; obtain ⟨_, _, hb, _⟩ := this; exact (List.getElem?_eq_some_iff.1 hb).1
 refine ⟨hL, ?_, ?_, h.hD.same fun j hj => hk j (h.nD j hj).1 (h.dDN j hj) (lD j hj), hl, h.hU.same fun j hj => hk j (h.nU j hj).1 (fun e => h.dNU j e hj) (lU j hj), h.LP, h.LK, h.PK, h.nD, fun b hb' => ?_, h.nU, fun b hb' hc => ?_, h.dDU, fun b hb' hc => ?_, h.lL, h.lP, h.lK⟩
 ·rw [hk _ h.LP.symm (fun e => (h.nN _ e).2.1 rfl) l2]; exact h.pr
 ·rw [hk _ h.LK.symm (fun e => (h.nN _ e).2.2.1 rfl) l3]; exact h.la
 ·rcases hb b hb' with e | e
  ·exact h.nN b e
  ·exact ⟨by show b ≠ ix.L; omega, by show b ≠ ix.P; omega, by show b ≠ ix.K; omega, by omega⟩
 ·rcases hb b hc with e | e
  ·exact h.dDN b hb' e
  ·have := lD b hb'; omega
 ·rcases hb b hb' with e | e
  ·exact h.dNU b e hc
  ·have := lU b hc; omega
theorem Lk.listU (h : Lk d lo ix u w bx) {bx' : List (List AV)} {x' : AV} {l' : List (Int × Bool)} {b' : Option Nat} {f' : Bool} (hl : Lst d 2 bx' (l'.map rowUp2) ix.zU b' f' x') (hL : bx'[ix.L]? = some (rowLk u { w.q with up := l' } ix.xD ix.xN x' (.ptr d ix.P 0)))
  (hk : ∀ j, j ≠ ix.L → ix.bU ≠ some j → j < bx.length → bx'[j]? = bx[j]?) (hb : ∀ j, b' = some j → ix.bU = some j ∨ (bx.length ≤ j)) (hlo : lo ≤ bx.length) :
  Lk d lo { ix with xU := x', bU := b', fU := f' } u { w with q := { w.q with up := l' } } bx' := by
 have l1 := (List.getElem?_eq_some_iff.1 h.lk).1
 have l2 := (List.getElem?_eq_some_iff.1 h.pr).1
 have l3 := (List.getElem?_eq_some_iff.1 h.la).1
 have lD : ∀ j, ix.bD = some j → j < bx.length := fun j hj => by
  have := h.hD.2.2.2; rw [hj] at this; obtain ⟨_, _, hb, _⟩ := this; exact (List.getElem?_eq_some_iff.1 hb).1
 have lN : ∀ j, ix.bN = some j → j < bx.length := fun j hj => by
  have := h.hN.2.2.2; rw [hj] at this; obtain ⟨_, _, hb, _⟩ := this; exact (List.getElem?_eq_some_iff.1 hb).1
 refine ⟨hL, ?_, ?_, h.hD.same fun j hj => hk j (h.nD j hj).1 (h.dDU j hj) (lD j hj), h.hN.same fun j hj => hk j (h.nN j hj).1 (h.dNU j hj) (lN j hj), hl, h.LP, h.LK, h.PK, h.nD, h.nN, fun b hb' => ?_, h.dDN, fun b hb' hc => ?_, fun b hb' hc => ?_, h.lL, h.lP, h.lK⟩
 ·rw [hk _ h.LP.symm (fun e => (h.nU _ e).2.1 rfl) l2]; exact h.pr
 ·rw [hk _ h.LK.symm (fun e => (h.nU _ e).2.2.1 rfl) l3]; exact h.la
 ·rcases hb b hb' with e | e
  ·exact h.nU b e
  ·exact ⟨by show b ≠ ix.L; omega, by show b ≠ ix.P; omega, by show b ≠ ix.K; omega, by omega⟩
 ·rcases hb b hc with e | e
  ·exact h.dDU b hb' e
  ·have := lD b hb'; omega
 ·rcases hb b hc with e | e
  ·exact h.dNU b hb' e
  ·have := lN b hb'; omega
theorem Lk.listD (h : Lk d lo ix u w bx) {bx' : List (List AV)} {x' : AV} {l' : List (Int × Int)} {b' : Option Nat} {f' : Bool} (hl : Lst d 2 bx' (l'.map rowDn) ix.zD b' f' x') (hL : bx'[ix.L]? = some (rowLk u { w.q with done := l' } x' ix.xN ix.xU (.ptr d ix.P 0)))
  (hk : ∀ j, j ≠ ix.L → ix.bD ≠ some j → j < bx.length → bx'[j]? = bx[j]?) (hb : ∀ j, b' = some j → ix.bD = some j ∨ (bx.length ≤ j)) (hlo : lo ≤ bx.length) :
  Lk d lo { ix with xD := x', bD := b', fD := f' } u { w with q := { w.q with done := l' } } bx' := by
 have l1 := (List.getElem?_eq_some_iff.1 h.lk).1
 have l2 := (List.getElem?_eq_some_iff.1 h.pr).1
 have l3 := (List.getElem?_eq_some_iff.1 h.la).1
 have lU : ∀ j, ix.bU = some j → j < bx.length := fun j hj => by
  have := h.hU.2.2.2; rw [hj] at this; obtain ⟨_, _, hb, _⟩ := this; exact (List.getElem?_eq_some_iff.1 hb).1
 have lN : ∀ j, ix.bN = some j → j < bx.length := fun j hj => by
  have := h.hN.2.2.2; rw [hj] at this; obtain ⟨_, _, hb, _⟩ := this; exact (List.getElem?_eq_some_iff.1 hb).1
 refine ⟨hL, ?_, ?_, hl, h.hN.same fun j hj => hk j (h.nN j hj).1 (fun e => h.dDN j e hj) (lN j hj), h.hU.same fun j hj => hk j (h.nU j hj).1 (fun e => h.dDU j e hj) (lU j hj), h.LP, h.LK, h.PK, fun b hb' => ?_, h.nN, h.nU, fun b hb' hc => ?_, fun b hb' hc => ?_, h.dNU, h.lL, h.lP, h.lK⟩
 ·rw [hk _ h.LP.symm (fun e => (h.nD _ e).2.1 rfl) l2]; exact h.pr
 ·rw [hk _ h.LK.symm (fun e => (h.nD _ e).2.2.1 rfl) l3]; exact h.la
 ·rcases hb b hb' with e | e
  ·exact h.nD b e
  ·exact ⟨by show b ≠ ix.L; omega, by show b ≠ ix.P; omega, by show b ≠ ix.K; omega, by omega⟩
 ·rcases hb b hb' with e | e
  ·exact h.dDN b e hc
  ·have := lN b hc; omega
 ·rcases hb b hb' with e | e
  ·exact h.dDU b e hc
  ·have := lU b hc; omega
def restartW (w : LS) : LS := { w with q := { w.q with base := 0, told := false } }
theorem command_link_restart {n : Int} (hX : Mid X d) (hs : ∀ r, Ok (X r)) (h : Lk d lo ix u w bx) :
  Rs X d lo u ix bx (I 0) (restartW w) (Fl ix.fD ix.fN ix.fU) (callL AP (.fn 63) [.ptr d ix.L 0, I n] (X ⟨bx, tk⟩)) := by
 have hs1 : ∀ bx, Ok (X ⟨bx, tk⟩) := fun bx => hs _
 have k1 : Lk d lo ix u _ _ := h.setL (q2 := { w.q with base := 0 }) rfl rfl rfl
 have k2 : Lk d lo ix u _ _ := k1.setL (q2 := { w.q with base := 0, told := false }) rfl rfl rfl
 have st1 := fun r0 => h.st (tk := tk) hX (off := 10) (y := I 0) (q2 := { w.q with base := 0 }) rfl rfl rfl r0
 have st2 := fun r0 => k1.st (tk := tk) hX (off := 11) (y := B false) (q2 := { w.q with base := 0, told := false }) rfl rfl rfl r0
 refine ⟨ix, _, tk, ?_, k2, .refl, fun j hj => by rw [Lk.lt k1 h.lL hj, Lk.lt h h.lL hj], by simp, rfl, rfl, rfl⟩
 generalize bx.set ix.L (rowLk u { w.q with base := 0 } ix.xD ix.xN ix.xU (.ptr d ix.P 0)) = bx1 at *
 rw [callL_go (show AP 63 = some c_command_link_restart from rfl) rfl]
 simp (maxSteps := 1000000) only [go_sem, b_command_link_restart, st1, st2, Nat.reduceEqDiff, reduceCtorEq, Nat.reduceAdd, ↓reduceIte]
theorem Lk.lo_le (h : Lk d lo ix u w bx) : lo ≤ bx.length := by
 have := (List.getElem?_eq_some_iff.1 h.lk).1
 have := h.lL
 omega
def loseW (w : LS) (i : Nat) : LS := { w with q := { w.q with down := w.q.down.eraseIdx i } }
def dropW (w : LS) (i : Nat) : LS := { w with q := { w.q with up := w.q.up.eraseIdx i } }
theorem Lk.lenN (h : Lk d lo ix u w bx) : lenOp false ix.xN = some (I (w.q.down.length : Int)) := by have := h.hN.lenV; rwa [List.length_map] at this
theorem Lk.lenU (h : Lk d lo ix u w bx) : lenOp false ix.xU = some (I (w.q.up.length : Int)) := by have := h.hU.lenV; rwa [List.length_map] at this
theorem Lk.lenD (h : Lk d lo ix u w bx) : lenOp false ix.xD = some (I (w.q.done.length : Int)) := by have := h.hD.lenV; rwa [List.length_map] at this
theorem takeN (hX : Mid X d) (hs : ∀ r, Ok (X r)) (h : Lk d lo ix u w bx) (i : Nat) (hm : w.q.down.length ≤ 1000000) :
  (w.q.down.length ≤ i ∧ callL AP (.fn 75) [.ptr d ix.L 12, I i] (X ⟨bx, tk⟩) = some (.tuple [I 0, B false], X ⟨bx, tk⟩)) ∨
  (∃ v bx' x', w.q.down[i]? = some v ∧ callL AP (.fn 75) [.ptr d ix.L 12, I i] (X ⟨bx, tk⟩) = some (.tuple [I v, B true], X ⟨bx', tk⟩) ∧ Lk d lo { ix with xN := x', bN := ix.bN, fN := false } u (loseW w i) bx' ∧ (∀ j, j < lo → bx'[j]? = bx[j]?) ∧ bx'.length = bx.length) := by
 by_cases hi : w.q.down.length ≤ i
 ·exact .inl ⟨hi, command_take_int_no (row := rowLk u w.q ix.xD ix.xN ix.xU (.ptr d ix.P 0)) (off := 12) hX hs h.lk rfl h.hN hi⟩
 ·obtain ⟨v, hv⟩ := get_some (show i < w.q.down.length by omega)
  obtain ⟨bx', x', e1, e2, e3, e4, e5⟩ := command_take_int_yes (tk := tk) (row := rowLk u w.q ix.xD ix.xN ix.xU (.ptr d ix.P 0)) (off := 12) hX hs h.lk rfl h.hN (fun e => (h.nN _ e).1 rfl) hv hm
  refine .inr ⟨v, bx', x', hv, e1, h.listN e2 e3 (fun j a b _ => e5 j a b) (fun j hj => .inl hj) h.lo_le, fun j hj => e5 j (fun e => by have := h.lL; omega) (fun e => by have := (h.nN j e).2.2.2; omega), e4⟩
theorem takeU (hX : Mid X d) (hs : ∀ r, Ok (X r)) (h : Lk d lo ix u w bx) (i : Nat) (hm : w.q.up.length ≤ 1000000) :
  (w.q.up.length ≤ i ∧ callL AP (.fn 77) [.ptr d ix.L 13, I i] (X ⟨bx, tk⟩) = some (.tuple [.agg [I 0, B false], B false], X ⟨bx, tk⟩)) ∨
  (∃ v bx' x', w.q.up[i]? = some v ∧ callL AP (.fn 77) [.ptr d ix.L 13, I i] (X ⟨bx, tk⟩) = some (.tuple [.agg (rowUp2 v), B true], X ⟨bx', tk⟩) ∧ Lk d lo { ix with xU := x', bU := ix.bU, fU := false } u (dropW w i) bx' ∧ (∀ j, j < lo → bx'[j]? = bx[j]?) ∧ bx'.length = bx.length) := by
 by_cases hi : w.q.up.length ≤ i
 ·exact .inl ⟨hi, command_take_api_CommandReport_no (row := rowLk u w.q ix.xD ix.xN ix.xU (.ptr d ix.P 0)) (off := 13) hX hs h.lk rfl h.hU hi⟩
 ·obtain ⟨v, hv⟩ := get_some (show i < w.q.up.length by omega)
  obtain ⟨bx', x', e1, e2, e3, e4, e5⟩ := command_take_api_CommandReport_yes (tk := tk) (row := rowLk u w.q ix.xD ix.xN ix.xU (.ptr d ix.P 0)) (off := 13) hX hs h.lk rfl h.hU (fun e => (h.nU _ e).1 rfl) hv hm
  refine .inr ⟨v, bx', x', hv, e1, h.listU e2 e3 (fun j a b _ => e5 j a b) (fun j hj => .inl hj) h.lo_le, fun j hj => e5 j (fun e => by have := h.lL; omega) (fun e => by have := (h.nU j e).2.2.2; omega), e4⟩
theorem command_link_lose {i : Nat} (hX : Mid X d) (hs : ∀ r, Ok (X r)) (h : Lk d lo ix u w bx) (hm : w.q.down.length ≤ 1000000) :
  Rs X d lo u ix bx (I (if i < w.q.down.length then 0 else 6)) (if i < w.q.down.length then loseW w i else w) (fun ix' => ix'.bN = ix.bN) (callL AP (.fn 60) [.ptr d ix.L 0, I i] (X ⟨bx, tk⟩)) := by
 have hs1 : ∀ bx, Ok (X ⟨bx, tk⟩) := fun bx => hs _
 rcases takeN (X := fun r => (X r).push ⟨[], []⟩) (tk := tk) (hX.up _) (fun r => (hs r).push _) h i hm with ⟨hi, ht⟩ | ⟨v, bx', x', hv, ht, hk, hlo, hlen⟩
 ·rw [if_neg (by omega), if_neg (by omega)]
  refine ⟨ix, bx, tk, ?_, h, .refl, fun _ _ => rfl, Nat.le_refl _, rfl⟩
  rw [callL_go (show AP 60 = some c_command_link_lose from rfl) rfl]
  simp (maxSteps := 1000000) only [go_sem, b_command_link_lose, ht, command_unless, Nat.reduceEqDiff, reduceCtorEq, Nat.reduceAdd, ↓reduceIte]
 ·have hi := (List.getElem?_eq_some_iff.1 hv).1
  rw [if_pos hi, if_pos hi]
  refine ⟨_, bx', tk, ?_, hk, ⟨rfl, rfl, rfl, rfl, rfl, rfl, .inl rfl, .inl rfl, .inl rfl⟩, hlo, by omega, rfl⟩
  rw [callL_go (show AP 60 = some c_command_link_lose from rfl) rfl]
  simp (maxSteps := 1000000) only [go_sem, b_command_link_lose, ht, command_unless, Nat.reduceEqDiff, reduceCtorEq, Nat.reduceAdd, ↓reduceIte]
theorem command_link_drop {i : Nat} (hX : Mid X d) (hs : ∀ r, Ok (X r)) (h : Lk d lo ix u w bx) (hm : w.q.up.length ≤ 1000000) :
  Rs X d lo u ix bx (I (if i < w.q.up.length then 0 else 6)) (if i < w.q.up.length then dropW w i else w) (fun ix' => ix'.bU = ix.bU) (callL AP (.fn 61) [.ptr d ix.L 0, I i] (X ⟨bx, tk⟩)) := by
 have hs1 : ∀ bx, Ok (X ⟨bx, tk⟩) := fun bx => hs _
 have hcs := fun r r' r0 n b off y => hX.cstore hs r r' r0 (n := n) (b := b) (off := off) (y := y)
 rcases takeU (X := fun r => (X r).push ⟨[], []⟩) (tk := tk) (hX.up _) (fun r => (hs r).push _) h i hm with ⟨hi, ht⟩ | ⟨v, bx', x', hv, ht, hk, hlo, hlen⟩
 ·rw [if_neg (by omega), if_neg (by omega)]
  refine ⟨ix, bx, tk, ?_, h, .refl, fun _ _ => rfl, Nat.le_refl _, rfl⟩
  rw [callL_go (show AP 61 = some c_command_link_drop from rfl) rfl]
  simp (maxSteps := 1000000) only [go_sem, b_command_link_drop, hs1, ht, command_unless, Nat.reduceEqDiff, reduceCtorEq, Nat.reduceAdd, ↓reduceIte]
 ·have hi := (List.getElem?_eq_some_iff.1 hv).1
  rw [if_pos hi, if_pos hi]
  refine ⟨_, bx', tk, ?_, hk, ⟨rfl, rfl, rfl, rfl, rfl, rfl, .inl rfl, .inl rfl, .inl rfl⟩, hlo, by omega, rfl⟩
  simp only [rowUp2] at ht
  rw [callL_go (show AP 61 = some c_command_link_drop from rfl) rfl]
  simp (maxSteps := 1000000) only [go_sem, b_command_link_drop, ht, hcs, command_unless, Nat.reduceEqDiff, reduceCtorEq, Nat.reduceAdd, ↓reduceIte]
end
end Go.Ax.Sx.Cm

namespace Go.Ax.Sx.Cm
open Go.Ax
set_option linter.unusedSimpArgs false
set_option linter.unusedVariables false
set_option maxRecDepth 100000
section
variable {X : Rec → Sig} {d lo : Nat} {bx : List (List AV)} {tk : List (Option Nat)} {u : Upl} {ix : Ix} {w : LS}
theorem appU (hX : Mid X d) (h : Lk d lo ix u w bx) (hf : ix.fU = true) (hm : w.q.up.length ≤ 1000000) (v : Int × Bool) :
  ∃ x' bx1 tk' bx', (∀ r0 b0 r' c p q, r0.boxes[b0]? = some (rowUp2 v) → appendhOp ((X ⟨bx, tk⟩).push r0) 2 ix.xU (.rsl (X r').acts.length b0 0 2 1 c) (.ptr d p q) = some (x', (X ⟨bx1, tk'⟩).push r0)) ∧ (∀ r0, ((X ⟨bx1, tk'⟩).push r0).store 1 (.ptr d ix.L 13) x' = some ((X ⟨bx', tk'⟩).push r0)) ∧
   Lk d lo { ix with xU := x', bU := some bx.length, fU := true } u { w with q := { w.q with up := w.q.up ++ [v] } } bx' ∧ (∀ j, j < lo → bx'[j]? = bx[j]?) ∧ bx.length ≤ bx'.length := by
 have hU := h.hU
 rw [hf] at hU
 have hlo := h.lo_le
 have hl := (List.getElem?_eq_some_iff.1 h.lk).1
 obtain ⟨bs, tk', e1, e2, e3, e4⟩ := hX.appendL (r := ⟨bx, tk⟩) (r2 := rowUp2 v) hU rfl rfl rfl rfl (by rw [List.length_map]; omega)
 rw [List.length_map] at e1 e2
 have hL1 : bs[ix.L]? = some (rowLk u w.q ix.xD ix.xN ix.xU (.ptr d ix.P 0)) := by rw [e4 _ hl (fun e => (h.nU _ e).1 rfl)]; exact h.lk
 have hl1 := (List.getElem?_eq_some_iff.1 hL1).1
 have hlb : ix.L ≠ bx.length := by omega
 refine ⟨(.rsl d bx.length 0 2 (w.q.up.length + 1) 0), bs, tk', bs.set ix.L (rowLk u w.q ix.xD ix.xN (.rsl d bx.length 0 2 (w.q.up.length + 1) 0) (.ptr d ix.P 0)), fun r0 b0 r' c p q hr => e1 r0 b0 r' p q c hr, fun r0 => ?_, ?_, fun j hj => ?_, by simp at e3 ⊢; omega⟩
 ·exact hX.store' (r := ⟨bs, tk'⟩) (y := (.rsl d bx.length 0 2 (w.q.up.length + 1) 0)) fit_rsl rfl hL1 rfl
 ·refine h.listU (l' := w.q.up ++ [v]) (b' := some bx.length) (f' := true) ?_ (by rw [List.getElem?_set_self hl1]) (fun j a b c => by rw [List.getElem?_set_ne (fun e => a e.symm)]; exact e4 j c b) (fun j hj => by injection hj with hj; exact .inr (by omega)) hlo
  rw [List.map_append]
  exact e2.same fun j hj => by injection hj with hj; subst hj; rw [List.getElem?_set_ne hlb]
 ·have := h.lL
  rw [List.getElem?_set_ne (by omega)]
  exact e4 j (by show j < bx.length; omega) (fun e => by have := (h.nU j e).2.2.2; omega)
theorem appN (hX : Mid X d) (h : Lk d lo ix u w bx) (hf : ix.fN = true) (hm : w.q.down.length ≤ 1000000) (v : Int) :
  ∃ x' bx1 tk' bx', (∀ r0 b0 r' c p q, r0.boxes[b0]? = some (rowI v) → appendhOp ((X ⟨bx, tk⟩).push r0) 1 ix.xN (.rsl (X r').acts.length b0 0 1 1 c) (.ptr d p q) = some (x', (X ⟨bx1, tk'⟩).push r0)) ∧ (∀ r0, ((X ⟨bx1, tk'⟩).push r0).store 1 (.ptr d ix.L 12) x' = some ((X ⟨bx', tk'⟩).push r0)) ∧
   Lk d lo { ix with xN := x', bN := some bx.length, fN := true } u { w with q := { w.q with down := w.q.down ++ [v] } } bx' ∧ (∀ j, j < lo → bx'[j]? = bx[j]?) ∧ bx.length ≤ bx'.length := by
 have hU := h.hN
 rw [hf] at hU
 have hlo := h.lo_le
 have hl := (List.getElem?_eq_some_iff.1 h.lk).1
 obtain ⟨bs, tk', e1, e2, e3, e4⟩ := hX.appendL (r := ⟨bx, tk⟩) (r2 := rowI v) hU rfl rfl rfl rfl (by rw [List.length_map]; omega)
 rw [List.length_map] at e1 e2
 have hL1 : bs[ix.L]? = some (rowLk u w.q ix.xD ix.xN ix.xU (.ptr d ix.P 0)) := by rw [e4 _ hl (fun e => (h.nN _ e).1 rfl)]; exact h.lk
 have hl1 := (List.getElem?_eq_some_iff.1 hL1).1
 have hlb : ix.L ≠ bx.length := by omega
 refine ⟨(.rsl d bx.length 0 1 (w.q.down.length + 1) 0), bs, tk', bs.set ix.L (rowLk u w.q ix.xD (.rsl d bx.length 0 1 (w.q.down.length + 1) 0) ix.xU (.ptr d ix.P 0)), fun r0 b0 r' c p q hr => e1 r0 b0 r' p q c hr, fun r0 => ?_, ?_, fun j hj => ?_, by simp at e3 ⊢; omega⟩
 ·exact hX.store' (r := ⟨bs, tk'⟩) (y := (.rsl d bx.length 0 1 (w.q.down.length + 1) 0)) fit_rsl rfl hL1 rfl
 ·refine h.listN (l' := w.q.down ++ [v]) (b' := some bx.length) (f' := true) ?_ (by rw [List.getElem?_set_self hl1]) (fun j a b c => by rw [List.getElem?_set_ne (fun e => a e.symm)]; exact e4 j c b) (fun j hj => by injection hj with hj; exact .inr (by omega)) hlo
  rw [List.map_append]
  exact e2.same fun j hj => by injection hj with hj; subst hj; rw [List.getElem?_set_ne hlb]
 ·have := h.lL
  rw [List.getElem?_set_ne (by omega)]
  exact e4 j (by show j < bx.length; omega) (fun e => by have := (h.nN j e).2.2.2; omega)
theorem appD (hX : Mid X d) (h : Lk d lo ix u w bx) (hf : ix.fD = true) (hm : w.q.done.length ≤ 1000000) (v : Int × Int) :
  ∃ x' bx1 tk' bx', (∀ r0 b0 r' c p q, r0.boxes[b0]? = some (rowDn v) → appendhOp ((X ⟨bx, tk⟩).push r0) 2 ix.xD (.rsl (X r').acts.length b0 0 2 1 c) (.ptr d p q) = some (x', (X ⟨bx1, tk'⟩).push r0)) ∧ (∀ r0, ((X ⟨bx1, tk'⟩).push r0).store 1 (.ptr d ix.L 8) x' = some ((X ⟨bx', tk'⟩).push r0)) ∧
   Lk d lo { ix with xD := x', bD := some bx.length, fD := true } u { w with q := { w.q with done := w.q.done ++ [v] } } bx' ∧ (∀ j, j < lo → bx'[j]? = bx[j]?) ∧ bx.length ≤ bx'.length := by
 have hU := h.hD
 rw [hf] at hU
 have hlo := h.lo_le
 have hl := (List.getElem?_eq_some_iff.1 h.lk).1
 obtain ⟨bs, tk', e1, e2, e3, e4⟩ := hX.appendL (r := ⟨bx, tk⟩) (r2 := rowDn v) hU rfl rfl rfl rfl (by rw [List.length_map]; omega)
 rw [List.length_map] at e1 e2
 have hL1 : bs[ix.L]? = some (rowLk u w.q ix.xD ix.xN ix.xU (.ptr d ix.P 0)) := by rw [e4 _ hl (fun e => (h.nD _ e).1 rfl)]; exact h.lk
 have hl1 := (List.getElem?_eq_some_iff.1 hL1).1
 have hlb : ix.L ≠ bx.length := by omega
 refine ⟨(.rsl d bx.length 0 2 (w.q.done.length + 1) 0), bs, tk', bs.set ix.L (rowLk u w.q (.rsl d bx.length 0 2 (w.q.done.length + 1) 0) ix.xN ix.xU (.ptr d ix.P 0)), fun r0 b0 r' c p q hr => e1 r0 b0 r' p q c hr, fun r0 => ?_, ?_, fun j hj => ?_, by simp at e3 ⊢; omega⟩
 ·exact hX.store' (r := ⟨bs, tk'⟩) (y := (.rsl d bx.length 0 2 (w.q.done.length + 1) 0)) fit_rsl rfl hL1 rfl
 ·refine h.listD (l' := w.q.done ++ [v]) (b' := some bx.length) (f' := true) ?_ (by rw [List.getElem?_set_self hl1]) (fun j a b c => by rw [List.getElem?_set_ne (fun e => a e.symm)]; exact e4 j c b) (fun j hj => by injection hj with hj; exact .inr (by omega)) hlo
  rw [List.map_append]
  exact e2.same fun j hj => by injection hj with hj; subst hj; rw [List.getElem?_set_ne hlb]
 ·have := h.lL
  rw [List.getElem?_set_ne (by omega)]
  exact e4 j (by show j < bx.length; omega) (fun e => by have := (h.nD j e).2.2.2; omega)
def repW (u : Upl) (w : LS) : LS := if (w.q.up.length : Int) < u.fl then { w with q := { w.q with up := w.q.up ++ [((w.q.done.length : Int), w.q.halted)] } } else w
theorem command_link_report (hX : Mid X d) (hs : ∀ r, Ok (X r)) (h : Lk d lo ix u w bx) (hf : ix.fU = true) (hm : w.q.up.length ≤ 1000000) :
  Rs X d lo u ix bx (.tuple []) (repW u w) (fun ix' => Fl ix.fD ix.fN true ix' ∧ ix'.bD = ix.bD ∧ ix'.bN = ix.bN) (callL AP (.fn 76) [.ptr d ix.L 0] (X ⟨bx, tk⟩)) := by
 have hs1 : ∀ bx, Ok (X ⟨bx, tk⟩) := fun bx => hs _
 have bL := fun r0 => h.boxL (tk := tk) hX r0
 have lU := h.lenU
 have lD := h.lenD
 unfold repW
 by_cases hc : (w.q.up.length : Int) < u.fl
 ·simp only [hc, if_true]
  have hcd : decide ((w.q.up.length : Int) < u.fl) = true := decide_eq_true hc
  obtain ⟨x', bx1, tk', bx', e1, e2, e3, e4, e5⟩ := appU (tk := tk) hX h hf hm ((w.q.done.length : Int), w.q.halted)
  have e1' : ∀ tk2 r' c p q, appendhOp ((X ⟨bx, tk⟩).push ⟨[[I (w.q.done.length : Int), B w.q.halted]], tk2⟩) 2 ix.xU (.rsl (X r').acts.length 0 0 2 1 c) (.ptr d p q) = some (x', (X ⟨bx1, tk'⟩).push ⟨[[I (w.q.done.length : Int), B w.q.halted]], tk2⟩) := fun tk2 r' c p q => e1 _ 0 r' c p q rfl
  have rb : ∀ tk2, rowBoxOp ((X ⟨bx, tk⟩).push ⟨[], tk2⟩) 2 (.agg [I (w.q.done.length : Int), B w.q.halted]) = some (.rsl (X ⟨bx, tk⟩).acts.length 0 0 2 1 1, (X ⟨bx, tk⟩).push ⟨[[I (w.q.done.length : Int), B w.q.halted]], tk2⟩) := fun tk2 => rowBox_push rfl (by decide)
  refine ⟨_, bx', tk', ?_, e3, ⟨rfl, rfl, rfl, rfl, rfl, rfl, .inl rfl, .inl rfl, .inr (by simp)⟩, e4, e5, ⟨rfl, rfl, rfl⟩, rfl, rfl⟩
  rw [callL_go (show AP 76 = some c_command_link_report from rfl) rfl]
  simp (maxSteps := 1000000) only [go_sem, b_command_link_report, bL, lU, lD, hcd, rb, e1', e2, Nat.reduceEqDiff, reduceCtorEq, Nat.reduceAdd, ↓reduceIte]
 ·simp only [hc, if_false]
  have hcd : decide ((w.q.up.length : Int) < u.fl) = false := decide_eq_false hc
  refine ⟨ix, bx, tk, ?_, h, .refl, fun _ _ => rfl, Nat.le_refl _, ⟨rfl, rfl, hf⟩, rfl, rfl⟩
  rw [callL_go (show AP 76 = some c_command_link_report from rfl) rfl]
  simp (maxSteps := 1000000) only [go_sem, b_command_link_report, bL, lU, hcd, Nat.reduceEqDiff, reduceCtorEq, Nat.reduceAdd, ↓reduceIte]
end
end Go.Ax.Sx.Cm
