/- A part of the proof. -/
import Derived.Test.YtehlallciamkoaaT10
namespace Go.Ax.Sx.Ck
open Go.Ax
set_option linter.unusedSimpArgs false
set_option linter.unusedVariables false
set_option maxRecDepth 100000
section
variable {s : Sig}
theorem loadr_ptr {r : Rec} {q : Nat} {g : Bool} {n b off : Nat} : loadrOp (s.push r) q g n (.ptr s.acts.length b off) = if r.boxes.length ≤ b + q then none else (s.push r).load g n (.ptr s.acts.length b off) := by
 unfold loadrOp
 simp only [cur_push, nbox_push, true_and]
theorem loadr_eptr {m : Sig} {q : Nat} {g : Bool} {n off : Nat} {cs : List AV} : loadrOp m q g n (.eptr cs off) = m.load g n (.eptr cs off) := rfl
theorem fill_ptr {r : Rec} {k n b off : Nat} {y : AV} : fillOp (s.push r) k n (.ptr s.acts.length b off) y = if b = r.boxes.length - k ∧ 0 < k then (s.push r).store n (.ptr s.acts.length b off) y else none := by
 unfold fillOp
 simp only [cur_push, nbox_push, true_and]
theorem loadd_ptr {r : Rec} {g : Bool} {n b off : Nat} (h : (r.boxes.drop (b + 1)).any List.isEmpty = true) : loaddOp (s.push r) g n (.ptr s.acts.length b off) = (s.push r).load g n (.ptr s.acts.length b off) := by
 unfold loaddOp
 have : (s.push r).deadAbove b = true := by
  unfold Sig.deadAbove
  rw [cur_push]
  simp [Sig.push, h]
 simp only [cur_push, this, true_and, Bool.true_eq_false, if_false]
theorem loadd_eptr {m : Sig} {g : Bool} {n off : Nat} {cs : List AV} : loaddOp m g n (.eptr cs off) = m.load g n (.eptr cs off) := rfl
attribute [go_sem] loadr_ptr loadr_eptr fill_ptr loadd_eptr
theorem onBool_undef {β : Type} {f : Bool → β} {d : β} : onBool AV.undef f d = d := rfl
attribute [go_sem] onBool_undef
theorem rep1 : List.replicate 1 ([] : List AV) = [[]] := rfl
theorem rep2 : List.replicate 2 ([] : List AV) = [[], []] := rfl
theorem modify_last {α : Type} {f : α → α} {x : α} : ∀ {L : List α}, (L ++ [x]).modify L.length f = L ++ [f x]
 | [] => rfl
 | a :: L => by simpa using modify_last (L := L)
section
variable {a b c d e f g r x : List AV} {z : AV}
theorem slot2 : slotL [a, []] [] 1 (z :: r) = some (1, [a, z :: r]) := rfl
theorem slot3 : slotL [a, b, []] [] 1 (z :: r) = some (2, [a, b, z :: r]) := rfl
theorem slot4 : slotL [a, b, c, []] [] 1 (z :: r) = some (3, [a, b, c, z :: r]) := rfl
theorem slot5 : slotL [a, b, c, d, []] [] 1 (z :: r) = some (4, [a, b, c, d, z :: r]) := rfl
theorem slot6 : slotL [a, b, c, d, e, []] [] 1 (z :: r) = some (5, [a, b, c, d, e, z :: r]) := rfl
theorem slot7 : slotL [a, b, c, d, e, f, []] [] 1 (z :: r) = some (6, [a, b, c, d, e, f, z :: r]) := rfl
theorem slot8 : slotL [a, b, c, d, e, f, g, []] [] 1 (z :: r) = some (7, [a, b, c, d, e, f, g, z :: r]) := rfl
theorem slot32 : slotL [a, [], []] [] 2 (z :: r) = some (1, [a, z :: r, []]) := rfl
theorem slot42 : slotL [a, b, [], []] [] 2 (z :: r) = some (2, [a, b, z :: r, []]) := rfl
theorem slot52 : slotL [a, b, c, [], []] [] 2 (z :: r) = some (3, [a, b, c, z :: r, []]) := rfl
theorem slot62 : slotL [a, b, c, d, [], []] [] 2 (z :: r) = some (4, [a, b, c, d, z :: r, []]) := rfl
theorem slot72 : slotL [a, b, c, d, e, [], []] [] 2 (z :: r) = some (5, [a, b, c, d, e, z :: r, []]) := rfl
end
attribute [go_sem] slot2 slot3 slot4 slot5 slot6 slot7 slot8 slot32 slot42 slot52 slot62 slot72
theorem tail_push {bx : List (List AV)} {tk : List (Option Nat)} {r : Nat} : (s.push ⟨bx, tk⟩).tail r = bx.drop (bx.length - r) := by
 unfold Sig.tail
 rw [cur_push]
 simp [Sig.push]
theorem setTail_ok {m : Sig} {r : Nat} {bx : List (List AV)} (h : Ok m) : Ok (m.setTail r bx) := ⟨by have := h.ro; simp only [Sig.setTail, Sig.onRec, List.length_modify]; exact this, h.lro⟩
theorem fc_keep {m : Sig} {ro : Bool} {zss : List (List AV)} {f : FuncId} {args : List AV} {v : AV} (hm : Ok m) (h : ∀ m, Ok m → callL AP (.fn f) args m = some (v, m)) (ht : m.tail zss.length ∈ fills zss) :
  fcallOp (callL AP) ro m zss (.fn f) args = some (v, m) := by
 have hd : ∀ m, Ok m → doCall (callL AP) ro m (.fn f) args = some (v, m) := fun m hm => by
  unfold doCall
  cases ro with
  | false => simp only [Bool.false_eq_true, if_false]; exact h m hm
  | true =>
   simp only [if_true]
   have := h (roS m) ok_roS
   rw [show ({ m with ro := m.acts.length, lro := m.loops.length } : Sig) = roS m from rfl, this]; rfl
 exact fcallOp_iff.2 ⟨hd m hm, ht, fun bx _ => hd _ (setTail_ok hm), rfl, rfl, rfl, fun _ => rfl, fun h => h⟩
theorem fc_push {bx : List (List AV)} {tk : List (Option Nat)} {ro : Bool} {zss : List (List AV)} {f : FuncId} {args : List AV} {v : AV} (pre : List (List AV)) (tl : List (List AV)) (hb : bx = pre ++ tl) (hl : tl.length = zss.length) (ht : tl ∈ fills zss)
  (h : ∀ m tl', m = (s.push ⟨pre ++ tl', tk⟩) ∨ m = roS (s.push ⟨pre ++ tl', tk⟩) → callL AP (.fn f) args m = some (v, m)) :
  fcallOp (callL AP) ro (s.push ⟨bx, tk⟩) zss (.fn f) args = some (v, s.push ⟨bx, tk⟩) := by
 have hd : ∀ tl', doCall (callL AP) ro (s.push ⟨pre ++ tl', tk⟩) (.fn f) args = some (v, s.push ⟨pre ++ tl', tk⟩) := fun tl' => by
  unfold doCall
  cases ro with
  | false => simp only [Bool.false_eq_true, if_false]; exact h _ tl' (.inl rfl)
  | true =>
   simp only [if_true]
   have := h (roS (s.push ⟨pre ++ tl', tk⟩)) tl' (.inr rfl)
   rw [show ({ (s.push ⟨pre ++ tl', tk⟩) with ro := (s.push ⟨pre ++ tl', tk⟩).acts.length, lro := (s.push ⟨pre ++ tl', tk⟩).loops.length } : Sig) = roS (s.push ⟨pre ++ tl', tk⟩) from rfl, this]; rfl
 subst hb
 have hset : ∀ b, (s.push ⟨pre ++ tl, tk⟩).setTail zss.length b = s.push ⟨pre ++ b, tk⟩ := fun b => by
  unfold Sig.setTail
  rw [cur_push]
  have : (s.acts ++ [(⟨pre ++ tl, tk⟩ : Rec)]).modify s.acts.length (fun q => { q with boxes := q.boxes.take (q.boxes.length - zss.length) ++ b }) = s.acts ++ [⟨pre ++ b, tk⟩] := by
   rw [modify_last]
   congr 3
   rw [List.length_append, hl, Nat.add_sub_cancel, List.take_left]
  simp only [Sig.onRec, Sig.push, this]
 refine fcallOp_iff.2 ⟨hd _, ?_, fun b _ => ?_, rfl, rfl, rfl, fun _ => rfl, fun h => h⟩
 ·rw [tail_push, List.length_append, hl, Nat.add_sub_cancel, List.drop_left]; exact ht
 ·rw [hset]; exact hd _
theorem callL_inlgo {f : FuncId} {np nt : Nat} {b : ACode} {rs : List ARes} {own : Bool} (hf : AP f = some (.code np nt b rs own)) {as : List AV} {m : Sig} (hl : as.length = np) (hm : m.ro < m.acts.length) :
  callL AP (.inl f) as m = go AP (fun e st => match e with | .exit _ => none | _ => (rawsOf st rs).map fun l => (packed l, st.sig)) [.c b] ⟨argsT as, m⟩ := by
 rw [callL_inl hf, if_pos ⟨hl, hm⟩]
 simp only [go, goE]
 cases h : runL AP b ⟨argsT as, m⟩ with
 | none => rfl
 | some p => obtain ⟨e, st'⟩ := p; cases e <;> rfl
end
abbrev S (s : ByteArray) : AV := .v (.string s)
def wi (n lo hi : Int) : Bool := decide (lo ≤ n) && decide (n ≤ hi)
theorem wi_iff {n lo hi : Int} : wi n lo hi = true ↔ lo ≤ n ∧ n ≤ hi := by simp [wi]
def letter (c : UInt8) : Bool := (decide (97 ≤ c.toNat) && decide (c.toNat ≤ 122)) || (decide (65 ≤ c.toNat) && decide (c.toNat ≤ 90))
def nameAt (k : Nat) (c : UInt8) : Bool := letter c || (!decide (k = 0) && (decide (c.toNat = 45) || (decide (48 ≤ c.toNat) && decide (c.toNat ≤ 57))))
def nameFrom (k : Nat) : List UInt8 → Bool
 | [] => true
 | c :: r => nameAt k c && nameFrom (k + 1) r
def isName (s : ByteArray) : Bool := nameFrom 0 s.data.toList && decide (1 ≤ s.size) && decide (s.size ≤ 12)
def firstErr : List Int → Int
 | [] => 0
 | x :: r => if x = 0 then firstErr r else x
end Go.Ax.Sx.Ck

namespace Go.Ax.Sx.Ck
open Go.Ax
set_option linter.unusedSimpArgs false
set_option linter.unusedVariables false
set_option maxRecDepth 100000
section
variable {s : Sig}
theorem frame_within {a b c : Int} : callL AP (.fn 38) [I a, I b, I c] s = some (B (wi a b c), s) := by
 rw [callL_go (show AP 38 = some c_frame_within from rfl) rfl]
 simp (maxSteps := 1000000) only [go_sem, b_frame_within, Nat.reduceEqDiff, reduceCtorEq, ↓reduceIte]
 unfold wi
 cases decide (b ≤ a) <;> cases decide (a ≤ c) <;> rfl
theorem frame_unless {c : Bool} {e : Int} : callL AP (.fn 22) [B c, I e] s = some (I (cond c 0 e), s) := by
 rw [callL_go (show AP 22 = some c_frame_unless from rfl) rfl]
 simp (maxSteps := 1000000) only [go_sem, b_frame_unless, Nat.reduceEqDiff, reduceCtorEq, ↓reduceIte]
 cases c <;> rfl
theorem frame_first {l : List Int} {o : Own} (hl : (l.length : Int) < 9223372036854775808) : callL AP (.fn 21) [.slice o 1 (ints l)] s = some (I (firstErr l), s) := by
 have key : ∀ k ρ m, k ≤ l.length → (ρ 5 = .slice o 1 (ints l) ∧ ρ 6 = I l.length ∧ ρ 7 = I k ∧ m = s.push ⟨[], []⟩) → go AP f_frame_first (.c (.loop b_frame_first_l0) :: k_frame_first_0) ⟨ρ, m⟩ = some (I (firstErr (l.drop k)), s) := by
  refine loop_up l.length _ _ ?_ ?_
  ·rintro k ρ m hk ⟨h5, h6, h7, rfl⟩ ih
   obtain ⟨x, hx⟩ := get_some hk
   have hr := ix_sl (o := o) (es := 1) (ints_get hx)
   simp (maxSteps := 1000000) only [go_sem, b_frame_first_l0, h5, h6, h7, lt_dec hk, hr, wrap_succ hk hl, Nat.reduceEqDiff, ↓reduceIte, ne_eq]
   rw [drop_get hx]
   by_cases h0 : x = 0
   ·subst h0
    simp only [not_true, decide_false, cond_false]
    refine (ih _ _ ?_).trans rfl
    exact ⟨h5, h6, rfl, rfl⟩
   ·simp only [h0, not_false_iff, decide_true, cond_true, firstErr, if_false]
  ·rintro ρ m ⟨h5, h6, h7, rfl⟩
   simp (maxSteps := 1000000) only [go_sem, b_frame_first_l0, b_frame_first_r0, h6, h7, ge_dec, ↓reduceIte]
   rw [List.drop_length]; rfl
 rw [callL_go (show AP 21 = some c_frame_first from rfl) rfl]
 simp (maxSteps := 1000000) only [go_sem, b_frame_first, ints_len, reduceCtorEq, ↓reduceIte]
 exact key 0 _ _ (Nat.zero_le _) ⟨rfl, rfl, rfl, rfl⟩
theorem frame_first2 {a b : Int} : callL AP (.fn 21) [.slice .full 1 [[I a], [I b]]] s = some (I (firstErr [a, b]), s) := frame_first (l := [a, b]) (show (2 : Int) < _ by decide)
theorem frame_first3 {a b c : Int} : callL AP (.fn 21) [.slice .full 1 [[I a], [I b], [I c]]] s = some (I (firstErr [a, b, c]), s) := frame_first (l := [a, b, c]) (show (3 : Int) < _ by decide)
theorem frame_first4 {a b c d : Int} : callL AP (.fn 21) [.slice .full 1 [[I a], [I b], [I c], [I d]]] s = some (I (firstErr [a, b, c, d]), s) := frame_first (l := [a, b, c, d]) (show (4 : Int) < _ by decide)
end
end Go.Ax.Sx.Ck

namespace Go.Ax.Sx.Ck
open Go.Ax
set_option linter.unusedSimpArgs false
set_option linter.unusedVariables false
set_option maxRecDepth 100000
structure Pk where
 id : Int
 cnt : Int
 data : Sl Int
structure Fm where
 ch : Int
 cnt : Int
 first : Int
 data : Sl Int
structure Pr where
 cnt : Int
 lo : Int
 hi : Int
abbrev rowI (n : Int) : List AV := [I n]
abbrev rowPk (p : Pk) : List AV := [I p.id, I p.cnt, p.data.v rowI]
abbrev rowFm (f : Fm) : List AV := [I f.ch, I f.cnt, I f.first, f.data.v rowI]
abbrev rowPr (p : Pr) : List AV := [I p.cnt, I p.lo, I p.hi]
abbrev rulesV (L C : Int) : AV := .agg [I L, I C]
def ByteL (l : List Int) : Prop := ∀ x ∈ l, 0 ≤ x ∧ x ≤ 255
structure Pk.Ok (p : Pk) : Prop where
 data : p.data.ok 1
 id0 : 0 ≤ p.id
 id1 : p.id ≤ 255
 cnt0 : 0 ≤ p.cnt
 cnt1 : p.cnt ≤ 255
 len : p.data.l.length ≤ 40
 bytes : ByteL p.data.l
structure Fm.Ok (L C : Int) (f : Fm) : Prop where
 data : f.data.ok 1
 ch0 : 0 ≤ f.ch
 ch1 : f.ch < C
 cnt0 : 0 ≤ f.cnt
 cnt1 : f.cnt ≤ 63
 first : (0 ≤ f.first ∧ f.first < L) ∨ f.first = 255
 len : (f.data.l.length : Int) = L
 bytes : ByteL f.data.l
structure RuOk (L C : Int) : Prop where
 l0 : 4 ≤ L
 l1 : L ≤ 24
 c0 : 1 ≤ C
 c1 : C ≤ 4
theorem wi_t {n lo hi : Int} (h0 : lo ≤ n) (h1 : n ≤ hi) : wi n lo hi = true := wi_iff.2 ⟨h0, h1⟩
section
variable {s : Sig}
theorem b_Within {a b c : Int} : callL AP (.fn 11) [I a, I b, I c] s = some (B (wi a b c), s) := by
 rw [callL_go (show AP 11 = some c_b_Within from rfl) rfl]
 simp (maxSteps := 1000000) only [go_sem, b_b_Within, Nat.reduceEqDiff, reduceCtorEq, ↓reduceIte]
 unfold wi
 cases decide (b ≤ a) <;> cases decide (a ≤ c) <;> rfl
theorem frame_isByte {a : Int} : callL AP (.fn 69) [I a] s = some (B (wi a 0 255), s) := by
 rw [callL_go (show AP 69 = some c_frame_isByte from rfl) rfl]
 simp (maxSteps := 1000000) only [go_sem, b_frame_isByte, frame_within, reduceCtorEq, ↓reduceIte]
theorem frame_isCount {a : Int} : callL AP (.fn 23) [I a] s = some (B (wi a 0 63), s) := by
 rw [callL_go (show AP 23 = some c_frame_isCount from rfl) rfl]
 simp (maxSteps := 1000000) only [go_sem, b_frame_isCount, frame_within, reduceCtorEq, ↓reduceIte]
theorem frame_bytesErr_1 {a : Int} : callL AP (.fn 76) [I a] s = some (I (cond (wi a 0 255) 0 2), s) := by
 rw [callL_go (show AP 76 = some c_frame_bytesErr_1 from rfl) rfl]
 simp (maxSteps := 1000000) only [go_sem, b_frame_bytesErr_1, frame_isByte, frame_unless, reduceCtorEq, ↓reduceIte]
theorem frame_bytesErr_1t {a : Int} (h0 : 0 ≤ a) (h1 : a ≤ 255) : callL AP (.fn 76) [I a] s = some (I 0, s) := by
 rw [frame_bytesErr_1, wi_t h0 h1]; rfl
theorem frame_each_int {x : Sl Int} (hx : x.ok 1) (hb : ByteL x.l) (hl : x.l.length ≤ 1000000) : callL AP (.fn 75) [x.v rowI, .fn 76 [] []] s = some (I 0, s) := by
 have key : ∀ (k : Nat) ρ m, k ≤ x.l.length → (ρ 1 = .fn 76 [] [] ∧ ρ 8 = x.v rowI ∧ ρ 9 = I x.l.length ∧ ρ 10 = I k ∧ m = s.push ⟨[], []⟩) → go AP f_frame_each_int (.c (.loop b_frame_each_int_l0) :: k_frame_each_int_0) ⟨ρ, m⟩ = some (I 0, s) := by
  refine loop_up x.l.length _ (fun _ => some (I 0, s)) ?_ ?_
  ·rintro k ρ m hk ⟨g1, g8, g9, g10, rfl⟩ ih
   obtain ⟨a, ha⟩ := get_some hk
   obtain ⟨a0, a1⟩ := hb a (List.mem_of_getElem? ha)
   have hix := Sl.ix (f := rowI) hx ha
   have hc : ∀ m, callL AP (.fn 76) [I a] m = some (I 0, m) := fun m => frame_bytesErr_1t a0 a1
   have hwk := wrap_succ hk (show (x.l.length : Int) < _ by omega)
   simp only [rowI, Sl.v] at hix g8
   simp (maxSteps := 1000000) only [go_sem, b_frame_each_int_l0, g1, g8, g9, g10, lt_dec hk, hix, hc, hwk, Nat.reduceEqDiff, ↓reduceIte, ne_eq, not_true]
   refine ih _ _ ?_
   exact ⟨g1, g8, g9, rfl, rfl⟩
  ·rintro ρ m ⟨g1, g8, g9, g10, rfl⟩
   simp (maxSteps := 1000000) only [go_sem, b_frame_each_int_l0, b_frame_each_int_r0, g9, g10, ge_dec, ↓reduceIte]
 rw [callL_go (show AP 75 = some c_frame_each_int from rfl) rfl]
 simp only [Sl.v] at key ⊢
 simp (maxSteps := 1000000) only [go_sem, b_frame_each_int, reduceCtorEq, ↓reduceIte]
 exact key 0 _ _ (Nat.zero_le _) ⟨rfl, rfl, rfl, rfl, rfl⟩
theorem frame_bytesErr {x : Sl Int} (hx : x.ok 1) (hb : ByteL x.l) (hl : x.l.length ≤ 1000000) : callL AP (.fn 70) [x.v rowI] s = some (I 0, s) := by
 have hc : ∀ m, callL AP (.fn 75) [x.v rowI, .fn 76 [] []] m = some (I 0, m) := fun m => frame_each_int hx hb hl
 rw [callL_go (show AP 70 = some c_frame_bytesErr from rfl) rfl]
 simp only [Sl.v] at hc ⊢
 simp (maxSteps := 1000000) only [go_sem, b_frame_bytesErr, hc, reduceCtorEq, ↓reduceIte]
theorem r_BytesErr {x : Sl Int} (hx : x.ok 1) (hb : ByteL x.l) (hl : x.l.length ≤ 1000000) : callL AP (.fn 52) [x.v rowI] s = some (I 0, s) := by
 have key : ∀ (k : Nat) ρ m, k ≤ x.l.length → (ρ 0 = x.v rowI ∧ ρ 3 = I k ∧ m = s.push ⟨[], []⟩) → go AP f_r_BytesErr (.c (.loop b_r_BytesErr_l0) :: k_r_BytesErr_0) ⟨ρ, m⟩ = some (I 0, s) := by
  refine loop_up x.l.length _ (fun _ => some (I 0, s)) ?_ ?_
  ·rintro k ρ m hk ⟨g0, g3, rfl⟩ ih
   obtain ⟨a, ha⟩ := get_some hk
   obtain ⟨a0, a1⟩ := hb a (List.mem_of_getElem? ha)
   have hix := Sl.ix (f := rowI) hx ha
   have hwk := wrap_succ hk (show (x.l.length : Int) < _ by omega)
   have hc : ∀ m, callL AP (.fn 11) [I a, I 0, I 255] m = some (B true, m) := fun m => by rw [b_Within, wi_t a0 a1]
   simp only [rowI, Sl.v] at hix g0
   simp (maxSteps := 1000000) only [go_sem, b_r_BytesErr_l0, g0, g3, lt_dec hk, hix, hc, hwk, Nat.reduceEqDiff, reduceCtorEq, ↓reduceIte]
   refine ih _ _ ?_
   exact ⟨g0, rfl, rfl⟩
  ·rintro ρ m ⟨g0, g3, rfl⟩
   simp only [Sl.v] at g0
   simp (maxSteps := 1000000) only [go_sem, b_r_BytesErr_l0, b_r_BytesErr_r0, g0, g3, ge_dec, Nat.reduceEqDiff, reduceCtorEq, ↓reduceIte]
 rw [callL_go (show AP 52 = some c_r_BytesErr from rfl) rfl]
 simp only [Sl.v] at key ⊢
 simp (maxSteps := 1000000) only [go_sem, b_r_BytesErr]
 exact key 0 _ _ (Nat.zero_le _) ⟨rfl, rfl, rfl⟩
theorem frame_CheckRules {L C : Int} (h : RuOk L C) : callL AP (.fn 68) [rulesV L C] s = some (I 0, s) := by
 have h1 : ∀ m, callL AP (.fn 38) [I L, I 4, I 24] m = some (B true, m) := fun m => by rw [frame_within, wi_t h.l0 h.l1]
 have h2 : ∀ m, callL AP (.fn 38) [I C, I 1, I 4] m = some (B true, m) := fun m => by rw [frame_within, wi_t h.c0 h.c1]
 rw [callL_go (show AP 68 = some c_frame_CheckRules from rfl) rfl]
 simp (maxSteps := 1000000) only [go_sem, b_frame_CheckRules, h1, h2, frame_unless, Nat.reduceEqDiff, Nat.reduceAdd, ↓reduceIte]
theorem frame_open {L C : Int} (hs : Ok s) (h : RuOk L C) : callL AP (.fn 43) [rulesV L C] s = some (.tuple [rulesV L C, I 0], s) := by
 have h1 : ∀ m, callL AP (.fn 68) [rulesV L C] m = some (I 0, m) := fun m => frame_CheckRules h
 rw [callL_go (show AP 43 = some c_frame_open from rfl) rfl]
 simp (maxSteps := 1000000) only [go_sem, b_frame_open, h1, hs, Nat.reduceEqDiff, Nat.reduceAdd, ↓reduceIte]
theorem frame_channelErr {L C c : Int} (h : RuOk L C) (h0 : 0 ≤ c) (h1 : c < C) : callL AP (.fn 44) [rulesV L C, I c] s = some (I 0, s) := by
 have hw := wrap_id (x := C - 1) (by have := h.c0; omega) (by have := h.c1; omega)
 have h2 : ∀ m, callL AP (.fn 38) [I c, I 0, I (C - 1)] m = some (B true, m) := fun m => by rw [frame_within, wi_t h0 (by omega)]
 rw [callL_go (show AP 44 = some c_frame_link_channelErr from rfl) rfl]
 simp (maxSteps := 1000000) only [go_sem, b_frame_link_channelErr, hw, h2, frame_unless, Nat.reduceEqDiff, Nat.reduceAdd, ↓reduceIte]
theorem frame_openChannel {L C c : Int} (hs : Ok s) (h : RuOk L C) (h0 : 0 ≤ c) (h1 : c < C) : callL AP (.fn 20) [rulesV L C, I c] s = some (.tuple [rulesV L C, I 0], s) := by
 have e1 : ∀ r, callL AP (.fn 43) [rulesV L C] (s.push r) = some (.tuple [rulesV L C, I 0], s.push r) := fun r => frame_open (hs.push r) h
 have e2 : ∀ m, callL AP (.fn 44) [rulesV L C, I c] m = some (I 0, m) := fun m => frame_channelErr h h0 h1
 rw [callL_go (show AP 20 = some c_frame_openChannel from rfl) rfl]
 simp (maxSteps := 1000000) only [go_sem, b_frame_openChannel, e1, e2, hs, frame_first2, firstErr, Nat.reduceEqDiff, Nat.reduceAdd, ↓reduceIte]
end
end Go.Ax.Sx.Ck

namespace Go.Ax.Sx.Ck
open Go.Ax
set_option linter.unusedSimpArgs false
set_option linter.unusedVariables false
set_option maxRecDepth 100000
theorem ixE {α : Type} {f : α → List AV} {x : Sl α} {n k : Nat} {a : α} (h : x.l = [] ∨ x.e = n) (hk : x.l[k]? = some a) : indexAddrOp none n (x.v f) (I (k : Int)) = some (.eptr (f a) 0) := by
 have he : x.e = n := by
  rcases h with h | h
  ·rw [h] at hk; simp at hk
  ·exact h
 rw [Sl.v, he]
 exact ix_sl (by simp [hk])
section
variable {s : Sig}
theorem frame_CheckPacket {p : Pk} (hs : Ok s) (h : p.Ok) : callL AP (.fn 46) [.agg (rowPk p)] s = some (I 0, s) := by
 have e1 : ∀ m, callL AP (.fn 69) [I p.id] m = some (B true, m) := fun m => by rw [frame_isByte, wi_t h.id0 h.id1]
 have e2 : ∀ m, callL AP (.fn 69) [I p.cnt] m = some (B true, m) := fun m => by rw [frame_isByte, wi_t h.cnt0 h.cnt1]
 have e3 : ∀ m, callL AP (.fn 70) [p.data.v rowI] m = some (I 0, m) := fun m => frame_bytesErr h.data h.bytes (by have := h.len; omega)
 have e4 : decide ((p.data.l.length : Int) ≤ 40) = true := decide_eq_true (by have := h.len; omega)
 simp only [Sl.v] at e3 ⊢
 rw [callL_go (show AP 46 = some c_frame_CheckPacket from rfl) rfl]
 simp (maxSteps := 1000000) only [go_sem, b_frame_CheckPacket, e1, e2, e3, e4, frame_unless, frame_first3, firstErr, Nat.reduceEqDiff, Nat.reduceAdd, ↓reduceIte]
theorem frame_each_api_FramePacket {x : Sl Pk} (hs : Ok s) (hx : x.l = [] ∨ x.e = 3) (hp : ∀ p ∈ x.l, p.Ok) (hl : x.l.length ≤ 1000000) : callL AP (.fn 45) [x.v rowPk, .fn 46 [] []] s = some (I 0, s) := by
 have key : ∀ (k : Nat) ρ m, k ≤ x.l.length → (ρ 1 = .fn 46 [] [] ∧ ρ 8 = x.v rowPk ∧ ρ 9 = I x.l.length ∧ ρ 10 = I k ∧ ∃ bx, m = s.push ⟨bx, []⟩) → go AP f_frame_each_api_FramePacket (.c (.loop b_frame_each_api_FramePacket_l0) :: k_frame_each_api_FramePacket_0) ⟨ρ, m⟩ = some (I 0, s) := by
  refine loop_up x.l.length _ (fun _ => some (I 0, s)) ?_ ?_
  ·rintro k ρ m hk ⟨g1, g8, g9, g10, bx, rfl⟩ ih
   obtain ⟨a, ha⟩ := get_some hk
   have hix := ixE (f := rowPk) hx ha
   have hpa := hp a (List.mem_of_getElem? ha)
   have hc : ∀ r, callL AP (.fn 46) [.agg (rowPk a)] (s.push r) = some (I 0, s.push r) := fun r => frame_CheckPacket (hs.push r) hpa
   have hwk := wrap_succ hk (show (x.l.length : Int) < _ by omega)
   simp only [rowPk, Sl.v] at hix g8 hc
   simp (maxSteps := 1000000) only [go_sem, b_frame_each_api_FramePacket_l0, g1, g8, g9, g10, hs, lt_dec hk, hix, hc, hwk, Nat.reduceEqDiff, ↓reduceIte, ne_eq, not_true]
   refine ih _ _ ?_
   exact ⟨g1, g8, g9, rfl, _, rfl⟩
  ·rintro ρ m ⟨g1, g8, g9, g10, bx, rfl⟩
   simp (maxSteps := 1000000) only [go_sem, b_frame_each_api_FramePacket_l0, b_frame_each_api_FramePacket_r0, g9, g10, ge_dec, ↓reduceIte]
 rw [callL_go (show AP 45 = some c_frame_each_api_FramePacket from rfl) rfl]
 simp only [Sl.v] at key ⊢
 simp (maxSteps := 1000000) only [go_sem, b_frame_each_api_FramePacket, reduceCtorEq, ↓reduceIte]
 exact key 0 _ _ (Nat.zero_le _) ⟨rfl, rfl, rfl, rfl, _, rfl⟩
theorem frame_packetsErr {x : Sl Pk} (hs : Ok s) (hx : x.l = [] ∨ x.e = 3) (hp : ∀ p ∈ x.l, p.Ok) (hl : x.l.length ≤ 20) : callL AP (.fn 24) [x.v rowPk] s = some (I 0, s) := by
 have e1 : ∀ r, callL AP (.fn 45) [x.v rowPk, .fn 46 [] []] (s.push r) = some (I 0, s.push r) := fun r => frame_each_api_FramePacket (hs.push r) hx hp (by omega)
 have e2 : decide ((x.l.length : Int) ≤ 20) = true := decide_eq_true (by omega)
 rw [callL_go (show AP 24 = some c_frame_packetsErr from rfl) rfl]
 simp only [Sl.v] at e1 ⊢
 simp (maxSteps := 1000000) only [go_sem, b_frame_packetsErr, e1, e2, frame_unless, frame_first2, firstErr, Nat.reduceEqDiff, reduceCtorEq, ↓reduceIte]
theorem frame_frameErr {L C : Int} {f : Fm} (hs : Ok s) (hr : RuOk L C) (h : f.Ok L C) : callL AP (.fn 54) [rulesV L C, .agg (rowFm f)] s = some (I 0, s) := by
 have e1 : ∀ m, callL AP (.fn 44) [rulesV L C, I f.ch] m = some (I 0, m) := fun m => frame_channelErr hr h.ch0 h.ch1
 have e2 : ∀ m, callL AP (.fn 23) [I f.cnt] m = some (B true, m) := fun m => by rw [frame_isCount, wi_t h.cnt0 h.cnt1]
 have e3 : ∀ m, callL AP (.fn 70) [f.data.v rowI] m = some (I 0, m) := fun m => frame_bytesErr h.data h.bytes (by have := h.len; have := hr.l1; omega)
 have e4 : ∀ m, callL AP (.fn 38) [I f.first, I 0, I (L - 1)] m = some (B (wi f.first 0 (L - 1)), m) := fun m => frame_within
 have e5 : decide ((f.data.l.length : Int) = L) = true := decide_eq_true h.len
 have hw := wrap_id (x := L - 1) (by have := hr.l0; omega) (by have := hr.l1; omega)
 simp only [Sl.v] at e3 ⊢
 have e6 : wi f.first 0 (L - 1) = true ∨ (wi f.first 0 (L - 1) = false ∧ decide (f.first = 255) = true) := by
  rcases h.first with hf | hf
  ·exact .inl (wi_t hf.1 (by omega))
  ·cases hq : wi f.first 0 (L - 1) with
   | true => exact .inl rfl
   | false => exact .inr ⟨rfl, decide_eq_true hf⟩
 rw [callL_go (show AP 54 = some c_frame_link_frameErr from rfl) rfl]
 rcases e6 with e6 | ⟨e6, e7⟩
 ·simp (maxSteps := 1000000) only [go_sem, b_frame_link_frameErr, e1, e2, e3, e4, e5, e6, hw, frame_unless, frame_first4, firstErr, Nat.reduceEqDiff, Nat.reduceAdd, ↓reduceIte]
 ·simp (maxSteps := 1000000) only [go_sem, b_frame_link_frameErr, e1, e2, e3, e4, e5, e6, e7, hw, frame_unless, frame_first4, firstErr, Nat.reduceEqDiff, Nat.reduceAdd, ↓reduceIte]
theorem frame_each_api_FrameFrame {L C : Int} {x : Sl Fm} (hs : Ok s) (hr : RuOk L C) (hx : x.l = [] ∨ x.e = 4) (hp : ∀ p ∈ x.l, p.Ok L C) (hl : x.l.length ≤ 1000000) : callL AP (.fn 53) [x.v rowFm, .fn 54 [rulesV L C] []] s = some (I 0, s) := by
 have key : ∀ (k : Nat) ρ m, k ≤ x.l.length → (ρ 1 = .fn 54 [rulesV L C] [] ∧ ρ 8 = x.v rowFm ∧ ρ 9 = I x.l.length ∧ ρ 10 = I k ∧ ∃ bx, m = s.push ⟨bx, []⟩) → go AP f_frame_each_api_FrameFrame (.c (.loop b_frame_each_api_FrameFrame_l0) :: k_frame_each_api_FrameFrame_0) ⟨ρ, m⟩ = some (I 0, s) := by
  refine loop_up x.l.length _ (fun _ => some (I 0, s)) ?_ ?_
  ·rintro k ρ m hk ⟨g1, g8, g9, g10, bx, rfl⟩ ih
   obtain ⟨a, ha⟩ := get_some hk
   have hix := ixE (f := rowFm) hx ha
   have hpa := hp a (List.mem_of_getElem? ha)
   have hc : ∀ r, callL AP (.fn 54) [rulesV L C, .agg (rowFm a)] (s.push r) = some (I 0, s.push r) := fun r => frame_frameErr (hs.push r) hr hpa
   have hwk := wrap_succ hk (show (x.l.length : Int) < _ by omega)
   simp only [rowFm, Sl.v] at hix g8 hc
   simp (maxSteps := 1000000) only [go_sem, b_frame_each_api_FrameFrame_l0, g1, g8, g9, g10, hs, lt_dec hk, hix, hc, hwk, Nat.reduceEqDiff, ↓reduceIte, ne_eq, not_true]
   refine ih _ _ ?_
   exact ⟨g1, g8, g9, rfl, _, rfl⟩
  ·rintro ρ m ⟨g1, g8, g9, g10, bx, rfl⟩
   simp (maxSteps := 1000000) only [go_sem, b_frame_each_api_FrameFrame_l0, b_frame_each_api_FrameFrame_r0, g9, g10, ge_dec, ↓reduceIte]
 rw [callL_go (show AP 53 = some c_frame_each_api_FrameFrame from rfl) rfl]
 simp only [Sl.v] at key ⊢
 simp (maxSteps := 1000000) only [go_sem, b_frame_each_api_FrameFrame, reduceCtorEq, ↓reduceIte]
 exact key 0 _ _ (Nat.zero_le _) ⟨rfl, rfl, rfl, rfl, _, rfl⟩
theorem frame_openFrames {L C c : Int} {x : Sl Fm} (hs : Ok s) (hr : RuOk L C) (h0 : 0 ≤ c) (h1 : c < C) (hx : x.l = [] ∨ x.e = 4) (hp : ∀ p ∈ x.l, p.Ok L C) (hl : x.l.length ≤ 40) :
  callL AP (.fn 32) [rulesV L C, I c, x.v rowFm] s = some (.tuple [rulesV L C, I 0], s) := by
 have e1 : ∀ r, callL AP (.fn 20) [rulesV L C, I c] (s.push r) = some (.tuple [rulesV L C, I 0], s.push r) := fun r => frame_openChannel (hs.push r) hr h0 h1
 have e2 : ∀ m, Ok m → callL AP (.fn 53) [x.v rowFm, .fn 54 [rulesV L C] []] m = some (I 0, m) := fun m hm => frame_each_api_FrameFrame hm hr hx hp (by omega)
 have e3 : decide ((x.l.length : Int) ≤ 40) = true := decide_eq_true (by omega)
 rw [callL_go (show AP 32 = some c_frame_openFrames from rfl) rfl]
 simp only [Sl.v] at e2 ⊢
 have hcl : (AV.agg [I L, I C]).isClosedV = true := rfl
 simp (maxSteps := 1000000) only [go_sem, b_frame_openFrames, e1, e2, e3, hcl, hs, frame_unless, frame_first3, firstErr, Nat.reduceEqDiff, Nat.reduceAdd, ↓reduceIte]
theorem r_ChannelErr {L C c : Int} (h : RuOk L C) (h0 : 0 ≤ c) (h1 : c < C) : callL AP (.fn 51) [rulesV L C, I c] s = some (I 0, s) := by
 have hw := wrap_id (x := C - 1) (by have := h.c0; omega) (by have := h.c1; omega)
 have h2 : ∀ m, callL AP (.fn 11) [I c, I 0, I (C - 1)] m = some (B true, m) := fun m => by rw [b_Within, wi_t h0 (by omega)]
 rw [callL_go (show AP 51 = some c_r_ChannelErr from rfl) rfl]
 simp (maxSteps := 1000000) only [go_sem, b_r_ChannelErr, hw, h2, Nat.reduceEqDiff, Nat.reduceAdd, ↓reduceIte]
theorem r_FrameErr {L C : Int} {f : Fm} (hs : Ok s) (hr : RuOk L C) (h : f.Ok L C) : callL AP (.fn 31) [rulesV L C, .agg (rowFm f)] s = some (I 0, s) := by
 have e1 : ∀ m, callL AP (.fn 51) [rulesV L C, I f.ch] m = some (I 0, m) := fun m => r_ChannelErr hr h.ch0 h.ch1
 have e2 : ∀ m, callL AP (.fn 11) [I f.cnt, I 0, I 63] m = some (B true, m) := fun m => by rw [b_Within, wi_t h.cnt0 h.cnt1]
 have e3 : ∀ m, callL AP (.fn 52) [f.data.v rowI] m = some (I 0, m) := fun m => r_BytesErr h.data h.bytes (by have := h.len; have := hr.l1; omega)
 have e4 : ∀ m, callL AP (.fn 11) [I f.first, I 0, I (L - 1)] m = some (B (wi f.first 0 (L - 1)), m) := fun m => b_Within
 have e5 : decide ((f.data.l.length : Int) = L) = true := decide_eq_true h.len
 have hw := wrap_id (x := L - 1) (by have := hr.l0; omega) (by have := hr.l1; omega)
 simp only [Sl.v] at e3 ⊢
 have e6 : wi f.first 0 (L - 1) = true ∨ (wi f.first 0 (L - 1) = false ∧ decide (f.first = 255) = true) := by
  rcases h.first with hf | hf
  ·exact .inl (wi_t hf.1 (by omega))
  ·cases hq : wi f.first 0 (L - 1) with
   | true => exact .inl rfl
   | false => exact .inr ⟨rfl, decide_eq_true hf⟩
 rw [callL_go (show AP 31 = some c_r_FrameErr from rfl) rfl]
 rcases e6 with e6 | ⟨e6, e7⟩
 ·simp (maxSteps := 1000000) only [go_sem, b_r_FrameErr, e1, e2, e3, e4, e5, e6, hw, decide_not, Bool.not_true, Nat.reduceEqDiff, Nat.reduceAdd, ↓reduceIte, ne_eq, not_true]
 ·simp (maxSteps := 1000000) only [go_sem, b_r_FrameErr, e1, e2, e3, e4, e5, e6, e7, hw, decide_not, Bool.not_true, Nat.reduceEqDiff, Nat.reduceAdd, ↓reduceIte, ne_eq, not_true]
theorem r_FramesErr {L C : Int} {x : Sl Fm} (hs : Ok s) (hr : RuOk L C) (hx : x.l = [] ∨ x.e = 4) (hp : ∀ p ∈ x.l, p.Ok L C) (hl : x.l.length ≤ 40) :
  callL AP (.fn 9) [rulesV L C, x.v rowFm] s = some (I 0, s) := by
 have key : ∀ (k : Nat) ρ m, k ≤ x.l.length → (ρ 1 = x.v rowFm ∧ ρ 2 = .ptr s.acts.length 0 0 ∧ ρ 5 = I k ∧ m = s.push ⟨[[I L, I C]], []⟩) → go AP f_r_FramesErr (.c (.loop b_r_FramesErr_l0) :: k_r_FramesErr_0) ⟨ρ, m⟩ = some (I 0, s) := by
  refine loop_up x.l.length _ (fun _ => some (I 0, s)) ?_ ?_
  ·rintro k ρ m hk ⟨g1, g2, g5, rfl⟩ ih
   obtain ⟨a, ha⟩ := get_some hk
   have hix := ixE (f := rowFm) hx ha
   have hpa := hp a (List.mem_of_getElem? ha)
   have hc : ∀ r, callL AP (.fn 31) [rulesV L C, .agg (rowFm a)] (s.push r) = some (I 0, s.push r) := fun r => r_FrameErr (hs.push r) hr hpa
   have hwk := wrap_succ hk (show (x.l.length : Int) < _ by omega)
   simp only [rowFm, Sl.v] at hix g1 hc
   simp (maxSteps := 1000000) only [go_sem, b_r_FramesErr_l0, g1, g2, g5, lt_dec hk, hix, hc, hwk, Nat.reduceEqDiff, ↓reduceIte, ne_eq, not_true]
   refine ih _ _ ?_
   exact ⟨g1, g2, rfl, rfl⟩
  ·rintro ρ m ⟨g1, g2, g5, rfl⟩
   simp only [Sl.v] at g1
   simp (maxSteps := 1000000) only [go_sem, b_r_FramesErr_l0, b_r_FramesErr_r0, g1, g5, ge_dec, Nat.reduceEqDiff, ↓reduceIte]
 have e3 : decide ((40 : Int) < (x.l.length : Int)) = false := decide_eq_false (by omega)
 rw [callL_go (show AP 9 = some c_r_FramesErr from rfl) rfl]
 simp only [Sl.v] at key ⊢
 simp (maxSteps := 1000000) only [go_sem, b_r_FramesErr, e3, Nat.reduceEqDiff, Nat.reduceAdd, ↓reduceIte]
 exact key 0 _ _ (Nat.zero_le _) ⟨rfl, rfl, rfl, rfl⟩
end
end Go.Ax.Sx.Ck

namespace Go.Ax.Sx.Ck
open Go.Ax
set_option linter.unusedSimpArgs false
set_option linter.unusedVariables false
set_option maxRecDepth 100000
def cpS {α : Type} (es : Nat) (l : List α) : Sl α := match l with
 | [] => ⟨.full, es, []⟩
 | a :: r => ⟨.any, es, a :: r⟩
theorem cpS_l {α : Type} {es : Nat} {l : List α} : (cpS es l).l = l := by cases l <;> rfl
theorem cpS_ok {α : Type} {es : Nat} {l : List α} : (cpS es l).ok es := by
 cases l with
 | nil => exact ⟨.inl rfl, .inr (.inl rfl)⟩
 | cons a r => exact ⟨.inr rfl, .inl rfl⟩
theorem cpS_v {α : Type} {es : Nat} {l : List α} {f : α → List AV} : (cpS es l).v f = .slice (copyO (l.map f)) es (l.map f) := by cases l <;> rfl
def acS {α : Type} (es : Nat) (l : List α) : Sl α := match l with
 | [] => ⟨.nilS, 0, []⟩
 | a :: r => ⟨.any, es, a :: r⟩
theorem acS_l {α : Type} {es : Nat} {l : List α} : (acS es l).l = l := by cases l <;> rfl
theorem acS_ok {α : Type} {es : Nat} {l : List α} : (acS es l).ok es := by
 cases l with
 | nil => exact ⟨.inl rfl, .inr (.inr ⟨rfl, rfl⟩)⟩
 | cons a r => exact ⟨.inr rfl, .inl rfl⟩
theorem acS_v {α : Type} {es : Nat} {l : List α} {f : α → List AV} : (acS es l).v f = accV es (l.map f) := by cases l <;> rfl
section
variable {s : Sig} {α : Type}
theorem copy_sl {f : α → List AV} {r : Rec} {es : Nat} {x : Sl α} (hx : x.l = [] ∨ x.e = es) (hl : x.l.length ≤ 4294967296) :
  ∃ x' t', appendOp (s.push r) es (.slice .full es []) (x.v f) = some (x', s.push ⟨r.boxes, t'⟩) ∧ ∀ m, leaveVal m x' = some ((cpS es x.l).v f) := by
 obtain ⟨o, e, l⟩ := x
 cases l with
 | nil => exact ⟨.slice .full es [], r.toks, by simp [appendOp], fun m => rfl⟩
 | cons a q =>
  have he : e = es := by rcases hx with h | h; (exact absurd h (by simp)); exact h
  subst he
  obtain ⟨x', t', h1, h2⟩ := copy_app (s := s) (r := r) (es := e) (o := o) (xs := (a :: q).map f) rfl (by simpa using hl)
  exact ⟨x', t', h1, fun m => by rw [h2, cpS_v]⟩
theorem b_CopyInts {x : Sl Int} (hx : x.ok 1) (hl : x.l.length ≤ 4294967296) : callL AP (.fn 30) [x.v rowI] s = some ((cpS 1 x.l).v rowI, s) := by
 obtain ⟨x', t', h1, h2⟩ := copy_sl (s := s) (f := rowI) (r := ⟨[], []⟩) hx.1 hl
 have h3 := h2 (s.push ⟨[], t'⟩)
 simp only [Sl.v] at h1 h3 ⊢
 rw [callL_go (show AP 30 = some c_b_CopyInts from rfl) rfl]
 simp (maxSteps := 1000000) only [go_sem, b_b_CopyInts, h1, h3, Nat.reduceEqDiff, reduceCtorEq, ↓reduceIte]
theorem r_CopyPairs {x : Sl Pr} (hx : x.l = [] ∨ x.e = 3) (hl : x.l.length ≤ 4294967296) : callL AP (.fn 13) [x.v rowPr] s = some ((cpS 3 x.l).v rowPr, s) := by
 obtain ⟨x', t', h1, h2⟩ := copy_sl (s := s) (f := rowPr) (r := ⟨[], []⟩) hx hl
 have h3 := h2 (s.push ⟨[], t'⟩)
 simp only [Sl.v] at h1 h3 ⊢
 rw [callL_go (show AP 13 = some c_r_CopyPairs from rfl) rfl]
 simp (maxSteps := 1000000) only [go_sem, b_r_CopyPairs, h1, h3, Nat.reduceEqDiff, reduceCtorEq, ↓reduceIte]
theorem nil_eq {o : Own} {e : Nat} {a : α} {q : List α} {f : α → List AV} {n : Nat} (hx : (⟨o, e, a :: q⟩ : Sl α).ok n) : eqOp .slice (.slice o e ((a :: q).map f)) (.slice .nilS 0 []) = some false := by
 rcases hx.2 with h | h | h
 ·simp only at h; subst h; rfl
 ·simp only at h; subst h; rfl
 ·simp at h
theorem z_Clone_int {x : Sl Int} (hx : x.ok 1) (hne : x.l ≠ []) (hl : x.l.length ≤ 4294967296) : callL AP (.fn 28) [x.v rowI] s = some ((cpS 1 x.l).v rowI, s) := by
 obtain ⟨x', t', h1, h2⟩ := copy_sl (s := s) (f := rowI) (r := ⟨[], []⟩) hx.1 hl
 have h3 := h2 (s.push ⟨[], t'⟩)
 obtain ⟨o, e, l⟩ := x
 cases l with
 | nil => exact absurd rfl hne
 | cons a q =>
  have h4 := nil_eq (f := rowI) hx
  simp only [Sl.v] at h1 h3 h4 ⊢
  generalize List.map rowI (a :: q) = Z at h1 h4 ⊢
  rw [callL_go (show AP 28 = some c_z_Clone_int from rfl) rfl]
  simp (maxSteps := 1000000) only [go_sem, b_z_Clone_int, h1, h3, h4, Nat.reduceEqDiff, reduceCtorEq, ↓reduceIte]
def cpFm (f : Fm) : Fm := { f with data := cpS 1 f.data.l }
theorem cpFm_ok {L C : Int} {f : Fm} (h : f.Ok L C) : (cpFm f).Ok L C := ⟨cpS_ok, h.ch0, h.ch1, h.cnt0, h.cnt1, h.first, by simp only [cpFm, cpS_l]; exact h.len, by simp only [cpFm, cpS_l]; exact h.bytes⟩
theorem r_CopyFrame {f : Fm} (hs : Ok s) (hx : f.data.ok 1) (hl : f.data.l.length ≤ 4294967296) : callL AP (.fn 8) [.agg (rowFm f)] s = some (.agg (rowFm (cpFm f)), s) := by
 have h1 : ∀ m, callL AP (.fn 30) [f.data.v rowI] m = some ((cpS 1 f.data.l).v rowI, m) := fun m => b_CopyInts hx hl
 have h2 : closeAll [I f.ch, I f.cnt, I f.first, (cpS 1 f.data.l).v rowI] = some [I f.ch, I f.cnt, I f.first, (cpS 1 f.data.l).v rowI] := by
  simp only [closeAll_cons, closeAll_nil, close_int, Sl.close (f := rowI) (cpS_ok (es := 1) (l := f.data.l))]; rfl
 have h3 : ∀ m, leaveCell m ((cpS 1 f.data.l).v rowI) = some ((cpS 1 f.data.l).v rowI) := fun m => Sl.leavec cpS_ok
 simp only [rowFm, cpFm, Sl.v] at h1 h2 h3 ⊢
 rw [callL_go (show AP 8 = some c_r_CopyFrame from rfl) rfl]
 simp (maxSteps := 1000000) only [go_sem, b_r_CopyFrame, h1, h3, hs, Nat.reduceEqDiff, Nat.reduceAdd, ↓reduceIte]
end
end Go.Ax.Sx.Ck

namespace Go.Ax.Sx.Ck
open Go.Ax
set_option linter.unusedSimpArgs false
set_option linter.unusedVariables false
set_option maxRecDepth 100000
def pkB (p : Pk) : List Int := [p.id, p.cnt, (p.data.l.length : Int)] ++ p.data.l
def pksB (l : List Pk) : List Int := l.flatMap pkB
def offs (l : List Pk) (k : Nat) : Nat := (pksB (l.take k)).length
def startsL (l : List Pk) (k : Nat) : List Int := (List.range k).map fun i => (offs l i : Int)
theorem pksB_take {l : List Pk} {k : Nat} {p : Pk} (h : l[k]? = some p) : pksB (l.take (k + 1)) = pksB (l.take k) ++ pkB p := by
 unfold pksB
 rw [take_get h, List.flatMap_append]
 simp
theorem startsL_s {l : List Pk} {k : Nat} : startsL l (k + 1) = startsL l k ++ [(offs l k : Int)] := by
 unfold startsL
 rw [List.range_succ, List.map_append]; rfl
theorem startsL_len {l : List Pk} {k : Nat} : (startsL l k).length = k := by simp [startsL]
theorem pkB_len {p : Pk} : (pkB p).length = 3 + p.data.l.length := by simp [pkB]; omega
theorem pksB_le {l : List Pk} (hp : ∀ p ∈ l, p.data.l.length ≤ 40) : (pksB l).length ≤ 43 * l.length := by
 induction l with
 | nil => simp [pksB]
 | cons p r ih =>
  have h1 := hp p (by simp)
  have h2 := ih fun q hq => hp q (by simp [hq])
  have : pksB (p :: r) = pkB p ++ pksB r := by simp [pksB]
  rw [this, List.length_append, pkB_len, List.length_cons]
  omega
theorem _root_.Go.Ax.Sx.Acc.sl {d es : Nat} {xs : List (List AV)} {x : AV} {og : Option Nat} {toks : List (Option Nat)} (h : Acc d es xs x og toks) : ∃ o e, x = .slice o e xs ∧ (xs = [] ∨ e = es) := by
 cases og with
 | none => obtain ⟨rfl, rfl⟩ := h; exact ⟨_, _, rfl, .inl rfl⟩
 | some g => exact ⟨_, _, h.2.1, .inr rfl⟩
section
variable {s : Sig}
theorem _root_.Go.Ax.Sx.Acc.append' {s : Sig} {es : Nat} {xs : List (List AV)} {x : AV} {og : Option Nat} {toks : List (Option Nat)} (h : Acc s.acts.length es xs x og toks) (hs : Ok s) {α : Type} {f : α → List AV} {y : Sl α} (hy : y.ok es) (hl : xs.length + y.l.length ≤ 4294967296) :
  ∃ x' og' toks', (∀ boxes, appendOp (s.push ⟨boxes, toks⟩) es x (y.v f) = some (x', s.push ⟨boxes, toks'⟩)) ∧ Acc s.acts.length es (xs ++ y.l.map f) x' og' toks' ∧
   (∀ es2 xs2 x2 og2, Acc s.acts.length es2 xs2 x2 og2 toks → (og2 ≠ og ∨ og2 = none) → Acc s.acts.length es2 xs2 x2 og2 toks' ∧ (og2 ≠ og' ∨ og2 = none)) := by
 obtain ⟨o, e, l⟩ := y
 cases l with
 | nil =>
  refine ⟨x, og, toks, fun b => ?_, by simpa using h, fun es2 xs2 x2 og2 a b => ⟨a, b⟩⟩
  obtain ⟨o1, e1, rfl, -⟩ := Acc.sl h
  simp [appendOp]
 | cons a q =>
  have he : e = es := by rcases hy.1 with h | h; (exact absurd h (by simp)); exact h
  subst he
  obtain ⟨x', og', tk2, h1, h2, h3, h4⟩ := h.append hs o (ys := (a :: q).map f) (by simp) (by simpa using hl)
  exact ⟨x', og', tk2, h1, h2, fun es2 xs2 x2 og2 a b => by obtain ⟨c, d⟩ := h4 es2 xs2 x2 og2 a b; exact ⟨c, .inl d⟩⟩
theorem frame_stream {x : Sl Pk} (hs : Ok s) (hx : x.ok 3) (hp : ∀ p ∈ x.l, p.data.ok 1 ∧ p.data.l.length ≤ 40) (hl : x.l.length ≤ 1000) :
  callL AP (.fn 25) [x.v rowPk] s = some (.tuple [(acS 1 (pksB x.l)).v rowI, (acS 1 (startsL x.l x.l.length)).v rowI], s) := by
 have key : ∀ (k : Nat) ρ m, k ≤ x.l.length → (ρ 6 = x.v rowPk ∧ ρ 7 = I x.l.length ∧ ρ 8 = I k ∧ ∃ bx toks xb ob xs os, Acc s.acts.length 1 ((pksB (x.l.take k)).map rowI) xb ob toks ∧ Acc s.acts.length 1 ((startsL x.l k).map rowI) xs os toks ∧ (os ≠ ob ∨ os = none) ∧ ρ 2 = xb ∧ ρ 3 = xs ∧ m = s.push ⟨bx, toks⟩) →
   go AP f_frame_stream (.c (.loop b_frame_stream_l0) :: k_frame_stream_0) ⟨ρ, m⟩ = some (.tuple [(acS 1 (pksB x.l)).v rowI, (acS 1 (startsL x.l x.l.length)).v rowI], s) := by
  refine loop_up x.l.length _ (fun _ => some (.tuple [(acS 1 (pksB x.l)).v rowI, (acS 1 (startsL x.l x.l.length)).v rowI], s)) ?_ ?_
  ·rintro k ρ m hk ⟨g6, g7, g8, bx, toks, xb, ob, xs, os, A1, A2, hne, g2, g3, rfl⟩ ih
   obtain ⟨p, hpk⟩ := get_some hk
   have hix := Sl.ix (f := rowPk) hx hpk
   obtain ⟨hd, hdl⟩ := hp p (List.mem_of_getElem? hpk)
   have hwk := wrap_succ hk (show (x.l.length : Int) < _ by omega)
   have hlen := A1.len
   have hlb : (pksB (x.l.take k)).length ≤ 43000 := by
    refine Nat.le_trans (pksB_le fun q hq => (hp q (List.mem_of_mem_take hq)).2) ?_
    have : (x.l.take k).length ≤ 1000 := by rw [List.length_take]; omega
    omega
   obtain ⟨x1, o1, t1, a1, b1, b2, c1⟩ := A2.append hs .full (ys := [[I ((pksB (x.l.take k)).length : Int)]]) (by simp) (by simp [startsL_len]; omega)
   obtain ⟨A1', hne'⟩ := c1 _ _ _ _ A1 (by rcases hne with h | h; exact .inl (Ne.symm h); exact (by
    by_cases hb : ob = none
    ·exact .inr hb
    ·exact .inl (by rw [h]; exact hb)))
   obtain ⟨x2, o2, t2, a2, b3, b4, c2⟩ := A1'.append hs .full (ys := [[I p.id], [I p.cnt], [I (p.data.l.length : Int)]]) (by simp) (by simp; omega)
   obtain ⟨A2', hne2⟩ := c2 _ _ _ _ b1 (.inl (Ne.symm hne'))
   obtain ⟨x3, o3, t3, a3, b5, c3⟩ := Acc.append' b3 hs (f := rowI) hd (by simp; omega)
   obtain ⟨A2'', hne3⟩ := c3 _ _ _ _ A2' (.inl hne2)
   have hwl := wrap_id (x := (p.data.l.length : Int)) (by omega) (by omega)
   obtain ⟨oa, ea, rfl, -⟩ := Acc.sl A1
   obtain ⟨ob2, eb2, rfl, -⟩ := Acc.sl A2
   obtain ⟨oc, ec, rfl, -⟩ := Acc.sl b3
   obtain ⟨od, ed, rfl, -⟩ := Acc.sl b5
   obtain ⟨oe, ee, rfl, -⟩ := Acc.sl b1
   simp only [List.length_map] at hlen
   simp only [rowPk, Sl.v] at hix g6 a1 a2 a3 hlen
   simp (maxSteps := 1000000) only [go_sem, b_frame_stream_l0, g2, g3, g6, g7, g8, hs, lt_dec hk, hix, hlen, a1, a2, a3, hwk, Nat.reduceEqDiff, Nat.reduceAdd, ↓reduceIte]
   refine ih _ _ ?_
   refine ⟨g6, g7, rfl, _, t3, _, o3, _, o1, ?_, ?_, hne3, rfl, rfl, rfl⟩
   ·have e : List.map rowI (pksB (x.l.take k) ++ pkB p) = List.map rowI (pksB (x.l.take k)) ++ [I p.id] :: [I p.cnt] :: [I (p.data.l.length : Int)] :: List.map rowI p.data.l := by simp [pkB]
    simp only [List.append_assoc, List.cons_append, List.nil_append] at b5
    rw [pksB_take hpk, e]
    exact b5
   ·rw [startsL_s, List.map_append]; exact A2''
  ·rintro ρ m ⟨g6, g7, g8, bx, toks, xb, ob, xs, os, A1, A2, hne, g2, g3, rfl⟩
   rw [List.take_length] at A1
   have l1 := A1.leave (s.push ⟨bx, toks⟩)
   have l2 := A2.leave (s.push ⟨bx, toks⟩)
   rw [← acS_v] at l1 l2
   obtain ⟨oa, ea, rfl, -⟩ := Acc.sl A1
   obtain ⟨ob2, eb2, rfl, -⟩ := Acc.sl A2
   simp (maxSteps := 1000000) only [go_sem, b_frame_stream_l0, b_frame_stream_r0, g2, g3, g7, g8, ge_dec, l1, l2, Nat.reduceEqDiff, ↓reduceIte]
 rw [callL_go (show AP 25 = some c_frame_stream from rfl) rfl]
 simp only [Sl.v] at key ⊢
 simp (maxSteps := 1000000) only [go_sem, b_frame_stream, reduceCtorEq, ↓reduceIte]
 refine key 0 _ _ (Nat.zero_le _) ?_
 exact ⟨rfl, rfl, rfl, _, _, _, none, _, none, Acc.start, Acc.start, .inr rfl, rfl, rfl, rfl⟩
end
end Go.Ax.Sx.Ck

namespace Go.Ax.Sx.Ck
open Go.Ax
set_option linter.unusedSimpArgs false
set_option linter.unusedVariables false
set_option maxRecDepth 100000
section
variable {s : Sig}
theorem own_push {Q : Sig} {R r0 : Rec} {g es : Nat} {xs : List (List AV)} (hQ : Ok Q) (h : r0.toks[g]? = some (some xs.length)) :
  ownResult ((Q.push R).push r0) (.slice (.tok (Q.acts.length + 1) g) es xs) = some (.slice (.tok Q.acts.length R.toks.length) es xs, Q.push ⟨R.boxes, R.toks ++ [some xs.length]⟩) := by
 have h1 : ((Q.push R).push r0).cur = Q.acts.length + 1 := by rw [cur_push]; simp [Sig.push]
 have h2 : ((Q.push R).push r0).ro < Q.acts.length + 1 := by have := hQ.ro; show Q.ro < _; omega
 have h3 : ((Q.push R).push r0).tok (Q.acts.length + 1) g = some xs.length := by
  have := tok_push (Q.push R) r0 g
  rw [show (Q.push R).acts.length = Q.acts.length + 1 by simp [Sig.push]] at this
  rw [this, h]; rfl
 have h4 : ((Q.push R).push r0).ntok Q.acts.length = R.toks.length := by
  simp [Sig.ntok, Sig.push]
 simp only [ownResult]
 rw [if_pos ⟨h1.symm, by omega, h2, h3⟩]
 simp only [Nat.add_sub_cancel, h4, pop_push, addTok_push]
theorem z_Clone_FramePacket {Q : Sig} {l : List Pk} {o : Own} {R : Rec} (hQ : Ok Q) (hn : l ≠ []) (ho : eqOp .slice (.slice o 3 (l.map rowPk)) (.slice .nilS 0 []) = some false) (hl : l.length ≤ 4294967296) :
  callL AP (.fn 47) [.slice o 3 (l.map rowPk)] (Q.push R) = some (.slice (.tok Q.acts.length R.toks.length) 3 (l.map rowPk), Q.push ⟨R.boxes, R.toks ++ [some l.length]⟩) := by
 have hlen : (Q.push R).acts.length = Q.acts.length + 1 := by simp [Sig.push]
 have ha : appendOp ((Q.push R).push ⟨[], []⟩) 3 (.slice .full 3 []) (.slice o 3 (l.map rowPk)) = some (.slice (.tok (Q.acts.length + 1) 0) 3 (l.map rowPk), (Q.push R).push ⟨[], [some l.length]⟩) := by
  have h3 := ntok_push (Q.push R) ⟨[], []⟩
  have h4 := addTok_push (Q.push R) ⟨[], []⟩ l.length
  rw [hlen] at h3 h4
  have h5 : ((Q.push R).push ⟨[], []⟩).cur = Q.acts.length + 1 := by rw [cur_push, hlen]
  simp [appendOp, Own.isNil, most, hl, hn, h3, h4, h5]
 have hown := own_push (Q := Q) (R := R) (r0 := ⟨[], [some l.length]⟩) (g := 0) (es := 3) (xs := l.map rowPk) hQ (by simp)
 simp only [List.length_map] at hown
 generalize l.map rowPk = Z at *
 rw [callL_go (show AP 47 = some c_z_Clone_FramePacket from rfl) rfl]
 simp (maxSteps := 1000000) only [go_sem, b_z_Clone_FramePacket, ho, ha, finF, finish, resultRaw, Nat.reduceEqDiff, reduceCtorEq, ↓reduceIte]
 exact hown
def roomN (L n : Nat) : Nat := if n % L = 0 then 0 else if L - n % L < 3 then L - n % L + L - 3 else L - n % L - 3
def idle (n : Nat) : Pk := ⟨255, 0, ⟨.full, 1, List.replicate n 0⟩⟩
def fillP (L : Nat) (l : List Pk) : List Pk := if (pksB l).length % L = 0 then l else l ++ [idle (roomN L (pksB l).length)]
def fillS (L : Nat) (x : Sl Pk) : Sl Pk := if (pksB x.l).length % L = 0 then x else acS 3 (x.l ++ [idle (roomN L (pksB x.l).length)])
theorem fillS_ok {L : Nat} {x : Sl Pk} (hx : x.ok 3) : (fillS L x).ok 3 := by
 unfold fillS; split
 ·exact hx
 ·exact acS_ok
theorem fillS_l {L : Nat} {x : Sl Pk} : (fillS L x).l = fillP L x.l := by
 unfold fillS fillP; split
 ·rfl
 ·exact acS_l
theorem tmod_nat {a b : Nat} : ((a : Int).tmod (b : Int)) = ((a % b : Nat) : Int) := by
 rw [Int.tmod_eq_emod_of_nonneg (by omega)]; rfl
theorem ar_remn {a b : Nat} (hb : 0 < b) (ha : (a : Int) < 9223372036854775808) : arithOp .rem (I (a : Int)) (I (b : Int)) = some (I ((a % b : Nat) : Int)) := by
 have h1 : ¬ (b : Int) = 0 := by omega
 have h2 : a % b ≤ a := Nat.mod_le _ _
 have h3 := wrap_id (x := ((a % b : Nat) : Int)) (by omega) (by omega)
 simp only [arithOp, isShift, intOp, h1, if_false, tmod_nat]
 rfl
theorem mkVal_n {n : Nat} (hn : n ≤ 4294967296) : mkValOp 1 [I 0] (I (n : Int)) (I (n : Int)) = some (.slice .full 1 (List.replicate n [I 0])) := by
 have h1 : asNat (I (n : Int)) most = some n := by simp [asNat, most]; omega
 have h2 : asNat (I (n : Int)) n = some n := by simp [asNat]
 simp only [mkValOp, h1, h2, Option.bind_some]
 simp
theorem frame_link_filledE {x x' : Sl Pk} {L : Nat} {C : Int} (hs : Ok s) (h4 : 4 ≤ L) (h24 : L ≤ 24) (hx : x.l = [] ∨ x.e = 3) (hxl : x'.l = x.l) (hlv0 : ∀ m, leaveVal m (x.v rowPk) = some (x'.v rowPk)) (hnil : eqOp .slice (x.v rowPk) (.slice .nilS 0 []) = some false) (hne : x.l ≠ []) (hp : ∀ p ∈ x.l, p.data.ok 1 ∧ p.data.l.length ≤ 40) (hl : x.l.length ≤ 1000) :
  callL AP (.fn 26) [rulesV L C, x.v rowPk] s = some ((fillS L x').v rowPk, s) := by
 have hpl : ∀ k, (pksB (x.l.take k)).length ≤ 43000 := fun k => by
  refine Nat.le_trans (pksB_le fun q hq => (hp q (List.mem_of_mem_take hq)).2) ?_
  have : (x.l.take k).length ≤ 1000 := by rw [List.length_take]; omega
  omega
 have key : ∀ (k : Nat) ρ m, k ≤ x.l.length → (ρ 1 = x.v rowPk ∧ ρ 2 = .ptr s.acts.length 0 0 ∧ ρ 5 = I (pksB (x.l.take k)).length ∧ ρ 10 = x.v rowPk ∧ ρ 11 = I x.l.length ∧ ρ 12 = I k ∧ ∃ bx, m = s.push ⟨[I L, I C] :: bx, []⟩) →
   go AP f_frame_link_filled (.c (.loop b_frame_link_filled_l0) :: k_frame_link_filled_0) ⟨ρ, m⟩ = some ((fillS L x').v rowPk, s) := by
  refine loop_up x.l.length _ (fun _ => some ((fillS L x').v rowPk, s)) ?_ ?_
  ·rintro k ρ m hk ⟨g1, g2, g5, g10, g11, g12, bx, rfl⟩ ih
   obtain ⟨p, hpk⟩ := get_some hk
   have hix := ixE (f := rowPk) hx hpk
   have hwk := wrap_succ hk (show (x.l.length : Int) < _ by omega)
   have hb := hpl k
   have hb2 := hpl (k + 1)
   have e1 : (pksB (x.l.take (k + 1))).length = (pksB (x.l.take k)).length + (3 + p.data.l.length) := by rw [pksB_take hpk, List.length_append, pkB_len]
   have w1 := wrap_id (x := 3 + (p.data.l.length : Int)) (by omega) (by omega)
   have w2 := wrap_id (x := ((pksB (x.l.take k)).length : Int) + (3 + (p.data.l.length : Int))) (by omega) (by omega)
   simp only [rowPk, Sl.v] at hix g1 g10
   simp (maxSteps := 1000000) only [go_sem, b_frame_link_filled_l0, g5, g10, g11, g12, hs, lt_dec hk, hix, hwk, w1, w2, List.length_cons, Nat.reduceEqDiff, Nat.reduceAdd, ↓reduceIte]
   refine ih _ _ ?_
   refine ⟨g1, g2, ?_, g10, g11, rfl, _, rfl⟩
   rw [e1]
   show _ = I _
   congr 2
  ·rintro ρ m ⟨g1, g2, g5, g10, g11, g12, bx, rfl⟩
   rw [List.take_length] at g5
   have hb := hpl x.l.length
   rw [List.take_length] at hb
   have hr := ar_remn (a := (pksB x.l).length) (b := L) (by omega) (by omega)
   have hmod : (pksB x.l).length % L < L := Nat.mod_lt _ (by omega)
   simp only [Sl.v] at g1 g10
   by_cases h0 : (pksB x.l).length % L = 0
   ·have hfs : fillS L x' = x' := by unfold fillS; rw [hxl, if_pos h0]
    rw [hfs]
    rw [h0] at hr
    have hlv : ∀ m, leaveVal m (x.v rowPk) = some (x'.v rowPk) := hlv0
    simp only [Sl.v] at hlv
    simp (maxSteps := 1000000) only [go_sem, b_frame_link_filled_l0, b_frame_link_filled_r0, g1, g2, g5, g11, g12, ge_dec, hr, hlv, Nat.reduceEqDiff, Nat.reduceAdd, Int.cast_ofNat_Int, ↓reduceIte]
   ·have hfs : fillS L x' = acS 3 (x.l ++ [idle (roomN L (pksB x.l).length)]) := by unfold fillS; rw [hxl, if_neg h0]
    rw [hfs, acS_v, List.map_append]
    have hd0 : decide ((((pksB x.l).length % L : Nat) : Int) = 0) = false := decide_eq_false (by omega)
    obtain ⟨q, hq⟩ : ∃ q, q = (pksB x.l).length % L := ⟨_, rfl⟩
    obtain ⟨n, hn⟩ : ∃ n, n = roomN L (pksB x.l).length := ⟨_, rfl⟩
    have hroom : n = if L - q < 3 then L - q + L - 3 else L - q - 3 := by
     rw [hn, hq]; unfold roomN; rw [if_neg h0]
    rw [← hn]
    rw [← hq] at hr hd0 hmod h0
    have hmk := mkVal_n (n := n) (by rw [hroom]; split <;> omega)
    have w1 := wrap_id (x := (L : Int) - (q : Int)) (by omega) (by omega)
    have he : x.e = 3 := by rcases hx with h | h; (exact absurd h hne); exact h
    have ho : eqOp .slice (.slice x.o 3 (x.l.map rowPk)) (.slice .nilS 0 []) = some false := by
     rw [← he]; exact hnil
    have hc : ∀ b, callL AP (.fn 47) [.slice x.o 3 (x.l.map rowPk)] (s.push ⟨b, []⟩) = some (.slice (.tok s.acts.length 0) 3 (x.l.map rowPk), s.push ⟨b, [some x.l.length]⟩) := fun b => z_Clone_FramePacket hs hne ho (by omega)
    have hA : Acc s.acts.length 3 (x.l.map rowPk) (.slice (.tok s.acts.length 0) 3 (x.l.map rowPk)) (some 0) [some x.l.length] := ⟨by simpa using hne, rfl, by simp⟩
    obtain ⟨x1, o1, t1, a1, b1, -, -⟩ := hA.append hs .full (ys := [rowPk (idle n)]) (by simp) (by simp; omega)
    have hlv := b1.leave
    have hcl : closeAll [I 255, I 0, .slice .full 1 (List.replicate n [I 0])] = some [I 255, I 0, .slice .full 1 (List.replicate n [I 0])] := rfl
    have hrep : (List.replicate n (0 : Int)).map rowI = List.replicate n [I 0] := by simp
    simp only [idle, rowPk, Sl.v, hrep] at a1 hlv ⊢
    simp only [List.map_cons, List.map_nil]
    rw [he] at g1 g10
    generalize x.l.map rowPk = Z at *
    by_cases hlt : L - q < 3
    ·rw [if_pos hlt] at hroom
     have d1 : decide ((L : Int) - (q : Int) < 3) = true := decide_eq_true (by omega)
     have w2 := wrap_id (x := (L : Int) - (q : Int) + (L : Int)) (by omega) (by omega)
     have w3 : IntKind.i64.wrap ((L : Int) - (q : Int) + (L : Int) - 3) = (n : Int) := by rw [wrap_id (by omega) (by omega)]; omega
     simp (maxSteps := 1000000) only [go_sem, b_frame_link_filled_l0, b_frame_link_filled_r0, g1, g2, g5, g11, g12, ge_dec, hr, hd0, w1, w2, w3, d1, hmk, hc, a1, hlv, hcl, Nat.reduceEqDiff, Nat.reduceAdd, ↓reduceIte]
     simp only [rowPk, Sl.v, hrep]
    ·rw [if_neg hlt] at hroom
     have d1 : decide ((L : Int) - (q : Int) < 3) = false := decide_eq_false (by omega)
     have w3 : IntKind.i64.wrap ((L : Int) - (q : Int) - 3) = (n : Int) := by rw [wrap_id (by omega) (by omega)]; omega
     simp (maxSteps := 1000000) only [go_sem, b_frame_link_filled_l0, b_frame_link_filled_r0, g1, g2, g5, g11, g12, ge_dec, hr, hd0, w1, w3, d1, hmk, hc, a1, hlv, hcl, Nat.reduceEqDiff, Nat.reduceAdd, ↓reduceIte]
     simp only [rowPk, Sl.v, hrep]
 rw [callL_go (show AP 26 = some c_frame_link_filled from rfl) rfl]
 simp only [Sl.v] at key ⊢
 simp (maxSteps := 1000000) only [go_sem, b_frame_link_filled, Nat.reduceEqDiff, Nat.reduceAdd, ↓reduceIte]
 exact key 0 _ _ (Nat.zero_le _) ⟨rfl, rfl, rfl, rfl, rfl, rfl, _, rfl⟩
theorem frame_link_filled {x : Sl Pk} {L : Nat} {C : Int} (hs : Ok s) (h4 : 4 ≤ L) (h24 : L ≤ 24) (hx : x.ok 3) (hne : x.l ≠ []) (hp : ∀ p ∈ x.l, p.data.ok 1 ∧ p.data.l.length ≤ 40) (hl : x.l.length ≤ 1000) :
  callL AP (.fn 26) [rulesV L C, x.v rowPk] s = some ((fillS L x).v rowPk, s) := by
 refine frame_link_filledE hs h4 h24 hx.1 rfl (fun m => Sl.leave hx) ?_ hne hp hl
 obtain ⟨o, e, l⟩ := x
 cases l with
 | nil => exact absurd rfl hne
 | cons a l => exact nil_eq (f := rowPk) hx
end
end Go.Ax.Sx.Ck

namespace Go.Ax.Sx.Ck
open Go.Ax
set_option linter.unusedSimpArgs false
set_option linter.unusedVariables false
set_option maxRecDepth 100000
section
variable {AP : FuncId → Option AFn} {F : AExit → St → Option (AV × Sig)} {L : ACode} {ks : List K}
theorem loop_dec (P : Nat → (Nat → AV) → Sig → Prop) (R : Option (AV × Sig))
  (step : ∀ d ρ m, P d ρ m → (∀ d' ρ' m', d' < d → P d' ρ' m' → go AP F (.c (.loop L) :: ks) ⟨ρ', m'⟩ = R) → go AP F (.c L :: .lp L :: ks) ⟨ρ, m⟩ = R) :
  ∀ d ρ m, P d ρ m → go AP F (.c (.loop L) :: ks) ⟨ρ, m⟩ = R := by
 intro d
 induction d using Nat.strongRecOn with
 | ind d ih =>
  intro ρ m h
  rw [go_loop]
  exact step d ρ m h fun d' ρ' m' hd h' => ih d' hd ρ' m' h'
end
def bsI (l : List Int) (t : Int) : Nat := (l.takeWhile fun x => decide (x < t)).length
theorem bsI_eq {t : Int} : ∀ {l : List Int} {i : Nat}, i ≤ l.length → (∀ j x, j < i → l[j]? = some x → x < t) → (∀ j x, i ≤ j → l[j]? = some x → t ≤ x) → i = bsI l t
 | [], i, h, _, _ => by simp at h; subst h; rfl
 | a :: r, 0, h, h1, h2 => by
  have := h2 0 a (Nat.le_refl 0) rfl
  have : decide (a < t) = false := decide_eq_false (by omega)
  simp [bsI, List.takeWhile_cons, this]
 | a :: r, i + 1, h, h1, h2 => by
  have ha := h1 0 a (by omega) rfl
  have : decide (a < t) = true := decide_eq_true ha
  have ih := bsI_eq (t := t) (l := r) (i := i) (by simpa using h) (fun j x hj hx => h1 (j + 1) x (by omega) hx) (fun j x hj hx => h2 (j + 1) x (by omega) hx)
  simp only [bsI, List.takeWhile_cons, this, if_true, List.length_cons]
  rw [ih]; rfl
theorem bsI_le {l : List Int} {t : Int} : bsI l t ≤ l.length := List.Sublist.length_le (List.takeWhile_sublist _)
theorem bsI_ge {t x : Int} : ∀ {l : List Int}, l[bsI l t]? = some x → t ≤ x
 | [], h => by simp [bsI] at h
 | a :: r, h => by
  by_cases ha : a < t
  ·have : decide (a < t) = true := decide_eq_true ha
   have e : bsI (a :: r) t = bsI r t + 1 := by simp [bsI, List.takeWhile_cons, this]
   rw [e] at h
   exact bsI_ge (l := r) h
  ·have : decide (a < t) = false := decide_eq_false ha
   have e : bsI (a :: r) t = 0 := by simp [bsI, List.takeWhile_cons, this]
   rw [e] at h
   simp at h
   omega
section
variable {s : Sig}
theorem z_isNaN_int {a : Int} : callL AP (.fn 50) [I a] s = some (B false, s) := by
 rw [callL_go (show AP 50 = some c_z_isNaN_int from rfl) rfl]
 simp (maxSteps := 1000000) only [go_sem, b_z_isNaN_int, ne_eq, not_true, decide_false, Nat.reduceEqDiff, reduceCtorEq, ↓reduceIte, ne_eq, not_true]
theorem cmp_isNaN_int {a : Int} : callL AP (.fn 71) [I a] s = some (B false, s) := by
 rw [callL_go (show AP 71 = some c_cmp_isNaN_int from rfl) rfl]
 simp (maxSteps := 1000000) only [go_sem, b_cmp_isNaN_int, ne_eq, not_true, decide_false, Nat.reduceEqDiff, reduceCtorEq, ↓reduceIte, ne_eq, not_true]
theorem cmp_Less_int {a b : Int} : callL AP (.fn 49) [I a, I b] s = some (B (decide (a < b)), s) := by
 rw [callL_go (show AP 49 = some c_cmp_Less_int from rfl) rfl]
 simp (maxSteps := 1000000) only [go_sem, b_cmp_Less_int, cmp_isNaN_int, Nat.reduceEqDiff, reduceCtorEq, ↓reduceIte]
def bsF (l : List Int) (t : Int) : Bool := match l[bsI l t]? with
 | some x => decide (x = t)
 | none => false
theorem half_nat {n : Nat} (h : n < 4294967296) : arithOp .shr (.v (.int .u64 (n : Int))) (.v (.int .u64 1)) = some (.v (.int .u64 ((n / 2 : Nat) : Int))) := by
 have h1 : min (1 : Int).toNat IntKind.u64.bits = 1 := by decide
 have h2 : (n : Int).fdiv (2 ^ 1) = ((n / 2 : Nat) : Int) := by
  rw [show (2 : Int) ^ 1 = 2 by rfl, Int.fdiv_eq_ediv_of_nonneg _ (by omega)]; omega
 simp only [arithOp, isShift, shiftOp, h1, h2]
 simp
theorem toU {n : Nat} (h : n < 4294967296) : convOp (.int .u64) (I (n : Int)) = some (.v (.int .u64 (n : Int))) := by
 have h1 : IntKind.u64.wrap (n : Int) = (n : Int) := by
  have h1 : (n : Int) % 18446744073709551616 = (n : Int) := by omega
  simp [IntKind.wrap, IntKind.signed, IntKind.bits, h1]
 simp only [convOp, h1]
theorem toI {n : Nat} (h : n < 4294967296) : convOp (.int .i64) (.v (.int .u64 (n : Int))) = some (I (n : Int)) := by
 simp only [convOp, wrap_id (x := (n : Int)) (by omega) (by omega)]
theorem z_BinarySearch_int {x : Sl Int} {t : Int} (hx : x.ok 1) (hl : x.l.length ≤ 1000000) (hsrt : ∀ (i j : Nat) (a b : Int), i < j → x.l[i]? = some a → x.l[j]? = some b → a < b) :
  callL AP (.fn 29) [x.v rowI, I t] s = some (.tuple [I (bsI x.l t), B (bsF x.l t)], s) := by
 have key : ∀ (d : Nat) ρ m, (ρ 0 = x.v rowI ∧ ρ 1 = I t ∧ ρ 6 = I x.l.length ∧ m = s.push ⟨[], []⟩ ∧ ∃ i j : Nat, d = j - i ∧ i ≤ j ∧ j ≤ x.l.length ∧ ρ 7 = I i ∧ ρ 8 = I j ∧ (∀ (k : Nat) y, k < i → x.l[k]? = some y → y < t) ∧ (∀ (k : Nat) y, j ≤ k → x.l[k]? = some y → t ≤ y)) →
   go AP f_z_BinarySearch_int (.c (.loop b_z_BinarySearch_int_l0) :: k_z_BinarySearch_int_0) ⟨ρ, m⟩ = some (.tuple [I (bsI x.l t), B (bsF x.l t)], s) := by
  refine loop_dec _ (some (.tuple [I (bsI x.l t), B (bsF x.l t)], s)) ?_
  rintro d ρ m ⟨g0, g1, g6, rfl, i, j, rfl, hij, hjl, g7, g8, h1, h2⟩ ih
  by_cases hlt : i < j
  ·obtain ⟨h, hh⟩ : ∃ h, h = (i + j) / 2 := ⟨_, rfl⟩
   obtain ⟨y, hy⟩ := get_some (l := x.l) (k := h) (by omega)
   have hix := Sl.ix (f := rowI) hx hy
   have c1 := toU (n := i + j) (by omega)
   have c2 := half_nat (n := i + j) (by omega)
   have c3 := toI (n := (i + j) / 2) (by omega)
   rw [← hh] at c2 c3
   have w1 : IntKind.i64.wrap ((i : Int) + (j : Int)) = ((i + j : Nat) : Int) := by rw [wrap_id (by omega) (by omega)]; omega
   have w2 : IntKind.i64.wrap ((h : Int) + 1) = ((h + 1 : Nat) : Int) := by rw [wrap_id (by omega) (by omega)]; omega
   simp only [rowI, Sl.v] at hix g0
   cases hd : decide (y < t) with
   | true =>
    have hd' := of_decide_eq_true hd
    simp (maxSteps := 1000000) only [go_sem, b_z_BinarySearch_int_l0, g0, g1, g7, g8, lt_dec hlt, w1, w2, c1, c2, c3, hix, cmp_Less_int, hd, Nat.reduceEqDiff, reduceCtorEq, ↓reduceIte]
    refine ih (j - (h + 1)) _ _ (by omega) ⟨g0, g1, g6, rfl, h + 1, j, rfl, by omega, hjl, rfl, g8, fun k z hk hz => ?_, h2⟩
    rcases Nat.lt_or_ge k h with hkh | hkh
    ·have := hsrt k h z y hkh hz hy; omega
    ·have : k = h := by omega
     subst this; rw [hy] at hz; injection hz with hz; omega
   | false =>
    have hd' := of_decide_eq_false hd
    simp (maxSteps := 1000000) only [go_sem, b_z_BinarySearch_int_l0, g0, g1, g7, g8, lt_dec hlt, w1, c1, c2, c3, hix, cmp_Less_int, hd, Nat.reduceEqDiff, reduceCtorEq, ↓reduceIte]
    refine ih (h - i) _ _ (by omega) ⟨g0, g1, g6, rfl, i, h, rfl, by omega, by omega, g7, rfl, h1, fun k z hk hz => ?_⟩
    rcases Nat.lt_or_ge h k with hkh | hkh
    ·have := hsrt h k y z hkh hy hz; omega
    ·have : k = h := by omega
     subst this; rw [hy] at hz; injection hz with hz; omega
  ·have he : i = j := by omega
   subst he
   have hb := bsI_eq (l := x.l) (t := t) hjl h1 h2
   have hf : bsF x.l t = match x.l[i]? with | some z => decide (z = t) | none => false := by unfold bsF; rw [← hb]
   simp only [Sl.v] at g0
   rw [← hb]
   by_cases hin : i < x.l.length
   ·obtain ⟨y, hy⟩ := get_some hin
    have hix := Sl.ix (f := rowI) hx hy
    rw [hy] at hf
    simp only [rowI, Sl.v] at hix g0
    simp only at hf
    rw [hf]
    cases hd : decide (y = t) <;> simp (maxSteps := 1000000) only [go_sem, b_z_BinarySearch_int_l0, b_z_BinarySearch_int_r0, g0, g1, g6, g7, g8, ge_dec, lt_dec hin, hix, z_isNaN_int, hd, Nat.reduceEqDiff, reduceCtorEq, ↓reduceIte]
   ·have hie : i = x.l.length := by omega
    have hn : x.l[i]? = none := by rw [List.getElem?_eq_none_iff]; omega
    rw [hn] at hf
    simp only at hf
    rw [hf]
    subst hie
    simp (maxSteps := 1000000) only [go_sem, b_z_BinarySearch_int_l0, b_z_BinarySearch_int_r0, g6, g7, g8, ge_dec, Nat.reduceEqDiff, ↓reduceIte]
 rw [callL_go (show AP 29 = some c_z_BinarySearch_int from rfl) rfl]
 simp only [Sl.v] at key ⊢
 simp (maxSteps := 1000000) only [go_sem, b_z_BinarySearch_int, Nat.reduceEqDiff, reduceCtorEq, ↓reduceIte]
 exact key x.l.length _ _ ⟨rfl, rfl, rfl, rfl, 0, x.l.length, rfl, Nat.zero_le _, Nat.le_refl _, rfl, rfl, fun k y h => by omega, fun k y h hy => by
  have := (List.getElem?_eq_some_iff.1 hy).1; omega⟩
end
end Go.Ax.Sx.Ck

namespace Go.Ax.Sx.Ck
open Go.Ax
set_option linter.unusedSimpArgs false
set_option linter.unusedVariables false
set_option maxRecDepth 100000
def chunksL (L : Nat) (l : List Int) (k : Nat) : List (List Int) := (List.range k).map fun i => (l.drop (i * L)).take L
theorem chunksL_s {L : Nat} {l : List Int} {k : Nat} : chunksL L l (k + 1) = chunksL L l k ++ [(l.drop (k * L)).take L] := by
 simp [chunksL, List.range_succ]
theorem chunksL_len {L : Nat} {l : List Int} {k : Nat} : (chunksL L l k).length = k := by simp [chunksL]
abbrev fuI (l : List Int) : AV := .slice .full 1 (l.map rowI)
theorem leave_fn {m : Sig} {f : FuncId} {caps : List AV} : leaveVal m (.fn f [] caps) = (leaveCaps m caps).map (.fn f [] ·) := rfl
theorem leaveCaps_nil {m : Sig} : leaveCaps m [] = some [] := rfl
theorem leaveCaps_ptr {q : Sig} {r : Rec} {b off : Nat} {rest : List AV} : leaveCaps (q.push r) (.ptr q.acts.length b off :: rest) = ((r.boxes[b]?).bind closeAll).bind fun cs => (leaveCaps (q.push r) rest).map (.eptr cs off :: ·) := by
 rw [leaveCaps, if_pos (by rw [cur_push]), box_push]
 cases (r.boxes[b]?).bind closeAll with
 | none => rfl
 | some cs => cases leaveCaps (q.push r) rest <;> rfl
attribute [go_sem] leave_fn leaveCaps_nil leaveCaps_ptr
section
variable {s : Sig}
theorem z_Chunk_int {x : Sl Int} {L : Nat} (hs : Ok s) (hx : x.ok 1) (h1 : 1 ≤ L) (h24 : L ≤ 24) :
  callL AP (.fn 27) [x.v rowI, I L] s = some (.fn 48 [] [.eptr [x.v rowI] 0, .eptr [I L] 0], s) := by
 have hc := Sl.close (f := rowI) hx
 have d1 : decide ((L : Int) < 1) = false := decide_eq_false (by omega)
 have hca : closeAll [x.v rowI] = some [x.v rowI] := by simp only [closeAll_cons, closeAll_nil, hc]; rfl
 simp only [Sl.v] at hca ⊢
 rw [callL_go (show AP 27 = some c_z_Chunk_int from rfl) rfl]
 simp (maxSteps := 1000000) only [go_sem, b_z_Chunk_int, d1, hca, Nat.reduceEqDiff, Nat.reduceAdd, ↓reduceIte]
variable {ι : Type} {base : ι → Sig} {Iv : List (List Int) → ι → Prop} {O : List (List Int) → List Int → ι → Prop} {X : List Int → Prop} {LL N NL M : Nat}
theorem chunk_calls {x : Sl Int} {L n : Nat} (h : Hand AP LL fuI base Iv (fun _ _ => false) O X N NL M) (hx : x.ok 1) (hL : 1 ≤ L) (hn : 1 ≤ n) (hl : x.l.length = n * L) (hbig : n * L ≤ 100000) (hM : n ≤ M) {i : ι} (hI : Iv [] i) (hX : ∀ k, k < n → X ((x.l.drop (k * L)).take L)) :
  ∃ i', callL AP (.fn 48) [.yield LL, .eptr [x.v rowI] 0, .eptr [I L] 0] (base i) = some (.tuple [], base i') ∧ Iv (chunksL L x.l n) i' := by
 have hN := h.len
 have hnl : 1 ≤ n * L := Nat.mul_pos hn hL
 have he : x.e = 1 := by
  rcases hx.1 with h | h
  ·rw [h] at hl; simp at hl; omega
  ·exact h
 have hnn : x.o.isNil = false := by
  rcases hx.2 with h | h | h
  ·rw [h]; rfl
  ·rw [h]; rfl
  ·rw [h.2] at hl; simp at hl; omega
 have key : ∀ (k : Nat) ρ m, k ≤ n → (ρ 0 = .yield LL ∧ ρ 1 = .eptr [x.v rowI] 0 ∧ ρ 2 = .eptr [I L] 0 ∧ ρ 4 = I ((k * L : Nat) : Int) ∧ ∃ i, m = (base i).push ⟨[], []⟩ ∧ Iv (chunksL L x.l k) i) →
   ∃ i', go AP f_slices_Chunk_int_int__1 (.c (.loop b_slices_Chunk_int_int__1_l0) :: k_slices_Chunk_int_int__1_0) ⟨ρ, m⟩ = some (.tuple [], base i') ∧ Iv (chunksL L x.l n) i' := by
  refine loop_ex n _ (fun r => ∃ i', r = some (.tuple [], base i') ∧ Iv (chunksL L x.l n) i') ?_ ?_
  ·rintro k ρ m hk ⟨g0, g1, g2, g4, i, rfl, hi⟩ ih
   have hkl : k * L < n * L := Nat.mul_lt_mul_of_pos_right hk hL
   have hkl2 : k * L + L ≤ n * L := by
    have := Nat.mul_le_mul_right L (show k + 1 ≤ n from hk)
    rwa [Nat.add_mul, Nat.one_mul] at this
   obtain ⟨b, i', e1, e2⟩ := h.one (B := []) (ls := []) (x := (x.l.drop (k * L)).take L) (by rw [chunksL_len]; omega) hi (hX k hk) ⟨[], []⟩
   obtain ⟨hbt, e3⟩ := e2.never (fun _ _ => rfl)
   subst hbt
   rw [up_nil, up_nil] at e1
   have d1 : decide (((k * L : Nat) : Int) < (x.l.length : Int)) = true := decide_eq_true (by rw [hl]; exact_mod_cast hkl)
   obtain ⟨q1, s1⟩ : ∃ o1, sliceOp (.sl 1) (.slice x.o 1 (x.l.map rowI)) (some (I ((k * L : Nat) : Int))) none none = some (.slice o1 1 ((x.l.map rowI).drop (k * L))) := by
    have a1 : asNat (I ((k * L : Nat) : Int)) x.l.length = some (k * L) := by
     have : (0 : Int) ≤ ((k * L : Nat) : Int) ∧ ((k * L : Nat) : Int) ≤ (x.l.length : Int) := by rw [hl]; omega
     simp only [asNat, this, and_self, if_true, Int.toNat_natCast]
    refine ⟨slOwn x.o false (k * L == 0 && x.l.length == x.l.length) (x.l.length == x.l.length && decide (0 < x.l.length)), ?_⟩
    simp only [sliceOp, mxOf, hiOf, loOf, List.length_map, or_true, if_true, a1, Option.bind_some, Option.map_some, Option.isSome_none, Bool.false_eq_true, if_false]
    rw [List.take_of_length_le (by simp)]
   have s2 : sliceOp (.sl 1) (.slice x.o 1 (x.l.map rowI)) (some (I ((k * L : Nat) : Int))) (some (I ((k * L + L : Nat) : Int))) (some (I ((k * L + L : Nat) : Int))) = some (fuI ((x.l.drop (k * L)).take L)) := by
    have a1 : asNat (I ((k * L + L : Nat) : Int)) x.l.length = some (k * L + L) := by
     have : (0 : Int) ≤ ((k * L + L : Nat) : Int) ∧ ((k * L + L : Nat) : Int) ≤ (x.l.length : Int) := by rw [hl]; omega
     simp only [asNat, this, and_self, if_true, Int.toNat_natCast]
    have a2 : asNat (I ((k * L + L : Nat) : Int)) (k * L + L) = some (k * L + L) := by
     have : (0 : Int) ≤ ((k * L + L : Nat) : Int) ∧ ((k * L + L : Nat) : Int) ≤ ((k * L + L : Nat) : Int) := by omega
     simp only [asNat, this, and_self, if_true, Int.toNat_natCast]
    have a3 : asNat (I ((k * L : Nat) : Int)) (k * L + L) = some (k * L) := by
     have : (0 : Int) ≤ ((k * L : Nat) : Int) ∧ ((k * L : Nat) : Int) ≤ ((k * L + L : Nat) : Int) := by omega
     simp only [asNat, this, and_self, if_true, Int.toNat_natCast]
    have a4 : ((x.l.map rowI).take (k * L + L)).drop (k * L) = ((x.l.drop (k * L)).take L).map rowI := by
     rw [← List.map_take, ← List.map_drop]
     congr 1
     rw [List.drop_take, Nat.add_sub_cancel_left]
    have a5 : (decide (0 < k * L + L)) = true := decide_eq_true (by omega)
    simp only [sliceOp, mxOf, hiOf, loOf, List.length_map, or_true, if_true, a1, a2, a3, Option.bind_some, Option.map_some, Option.isSome_some, slOwn, hnn, Bool.false_eq_true, if_false, beq_self_eq_true, Bool.true_and, a5, a4]
   have w1 : IntKind.i64.wrap (((k * L : Nat) : Int) + (L : Int)) = ((k * L + L : Nat) : Int) := by rw [wrap_id (by omega) (by omega)]; omega
   have hmin : minmaxOp false [I (L : Int), I (((x.l.map rowI).drop (k * L)).length : Int)] = some (I (L : Int)) := by
    have m1 : ((x.l.map rowI).drop (k * L)).length = x.l.length - k * L := by simp
    rw [m1]
    have m2 : ¬ ((x.l.length - k * L : Nat) : Int) < (L : Int) := by omega
    simp only [minmaxOp, maxFold, maxOp, if_true, Bool.false_eq_true, if_false, m2]
   simp only [Sl.v] at g1
   rw [he] at g1
   simp only [fuI] at e1 s2
   simp (maxSteps := 1000000) only [go_sem, b_slices_Chunk_int_int__1_l0, g0, g1, g2, g4, d1, s1, s2, w1, hmin, e1, Nat.reduceEqDiff, reduceCtorEq, ↓reduceIte]
   refine ih _ _ ⟨g0, by simp only [Sl.v]; rw [he]; exact g1, g2, ?_, i', rfl, ?_⟩
   ·rw [Nat.add_mul, Nat.one_mul]; rfl
   ·rw [chunksL_s]; exact e3
  ·rintro ρ m ⟨g0, g1, g2, g4, i, rfl, hi⟩
   refine ⟨i, ?_, hi⟩
   have d1 : decide (((n * L : Nat) : Int) < (x.l.length : Int)) = false := decide_eq_false (by rw [hl]; omega)
   simp only [Sl.v] at g1
   simp (maxSteps := 1000000) only [go_sem, b_slices_Chunk_int_int__1_l0, g1, g4, d1, Nat.reduceEqDiff, ↓reduceIte]
 rw [callL_go (show AP 48 = some c_slices_Chunk_int_int__1 from rfl) rfl]
 simp only [Sl.v] at key ⊢
 simp (maxSteps := 1000000) only [go_sem, b_slices_Chunk_int_int__1]
 exact key 0 _ _ (Nat.zero_le _) ⟨rfl, rfl, rfl, by rw [Nat.zero_mul]; rfl, i, rfl, hI⟩
end
end Go.Ax.Sx.Ck

namespace Go.Ax.Sx.Ck
open Go.Ax
set_option linter.unusedSimpArgs false
set_option linter.unusedVariables false
set_option maxRecDepth 100000
def firstOf (L : Nat) (st : List Int) (k : Nat) : Int := match st[bsI st ((k * L : Nat) : Int)]? with
 | some x => if x < ((k * L + L : Nat) : Int) then x - ((k * L : Nat) : Int) else 255
 | none => 255
def mkF (L : Nat) (st : List Int) (k : Nat) (c : List Int) : Fm := ⟨0, ((k % 64 : Nat) : Int), firstOf L st k, cpS 1 c⟩
def frL (L : Nat) (st : List Int) (cs : List (List Int)) : List Fm := cs.mapIdx fun k c => mkF L st k c
theorem frL_s {L : Nat} {st : List Int} {cs : List (List Int)} {c : List Int} : frL L st (cs ++ [c]) = frL L st cs ++ [mkF L st cs.length c] := by
 simp [frL, List.mapIdx_append]
theorem frL_len {L : Nat} {st : List Int} {cs : List (List Int)} : (frL L st cs).length = cs.length := by simp [frL]
theorem slot1 {z : AV} {r : List AV} : slotL [[]] [] 1 (z :: r) = some (0, [z :: r]) := rfl
section
variable {s : Sig}
theorem pk_round {X T : Rec → Sig} {l d : Nat} {ρ : Nat → AV} {r : Rec} {c : List Int} {done : List (List Int)} {L : Nat} {C : Int} {st : Sl Int} (hM : Mid X d) (hX : ∀ r, busy l (T r) = X r) (hR : ∀ r, Ready l ⟨true, none, ρ, [56], b_frame_Packed_a0, b_frame_Packed_y0⟩ (T r)) (hok : ∀ r, Ok (T r))
  (hL : 4 ≤ L) (hL2 : L ≤ 24) (hc : c.length = L) (hd : done.length < 1000) (hst : st.ok 1) (hsl : st.l.length ≤ 1000000) (hsrt : ∀ (i j : Nat) (a b : Int), i < j → st.l[i]? = some a → st.l[j]? = some b → a < b) (hsb : ∀ x ∈ st.l, x ≤ 1000000)
  (h4 : ρ 4 = .ptr d 1 0) (h8 : ρ 8 = .ptr d 2 0) (h11 : ρ 11 = .ptr d 3 0) (h12 : ρ 12 = .ptr d 4 0)
  (hI : ∃ x og, r.boxes = [[I L, I C], [I 0, I 0], [I L, I C], [st.v rowI], [x]] ∧ Acc d 4 ((frL L st.l done).map rowFm) x og r.toks) :
  ∃ r', callL AP (.yield l) [fuI c] (T r) = some (.v (.bool true), T r') ∧ ∃ x og, r'.boxes = [[I L, I C], [I 0, I 0], [I L, I C], [st.v rowI], [x]] ∧ Acc d 4 ((frL L st.l (done ++ [c])).map rowFm) x og r'.toks := by
 obtain ⟨x, og, hb, hA⟩ := hI
 have hfin : ∀ r ρ' q, finR l .normal ⟨ρ', (X r).push q⟩ = some (.v (.bool true), T r) := fun r ρ' q => by rw [← hX]; exact finR_n (hR r)
 have hokX : ∀ r, Ok (X r) := fun r => by rw [← hX]; exact (hok r).busy
 have hTX : ∀ r, (T r).acts.length = (X r).acts.length := fun r => by rw [← hX]; rfl
 have k1 : ∀ q, ((X r).push q).box d 1 = some [I 0, I 0] := fun q => by rw [hM.box, hb]; rfl
 have k2 : ∀ q, ((X r).push q).box d 2 = some [I L, I C] := fun q => by rw [hM.box, hb]; rfl
 have k3 : ∀ q, ((X r).push q).box d 3 = some [st.v rowI] := fun q => by rw [hM.box, hb]; rfl
 have k4 : ∀ q, ((X r).push q).box d 4 = some [x] := fun q => by rw [hM.box, hb]; rfl
 have hcne : c ≠ [] := by intro e; rw [e] at hc; simp at hc; omega
 have hclone : ∀ m, callL AP (.fn 28) [fuI c] m = some ((cpS 1 c).v rowI, m) := fun m => z_Clone_int (x := ⟨.full, 1, c⟩) ⟨.inr rfl, .inr (.inl rfl)⟩ hcne (by simp only; omega)
 have hfc : fcallOp (callL AP) true ((X r).push ⟨[[]], []⟩) [[I 0, I 0, I 0, .slice .nilS 0 []]] (.fn 28) [fuI c] = some ((cpS 1 c).v rowI, (X r).push ⟨[[]], []⟩) := fc_keep ((hokX r).push _) (fun m _ => hclone m) (by rw [tail_push]; simp [fills])
 have hdlt := hM.lt r
 have hlr : ∀ q (g : Bool) n b off, loadrOp ((X r).push q) 1 g n (.ptr d b off) = ((X r).push q).load g n (.ptr d b off) := fun q g n b off => by
  unfold loadrOp
  have : ¬ d = (X r).acts.length := by omega
  simp only [cur_push, this, false_and, if_false]
 have hlen := hA.len
 rw [List.length_map, frL_len] at hlen
 have hkL : done.length * L ≤ 24000 := by
  calc done.length * L ≤ 1000 * 24 := Nat.mul_le_mul (by omega) hL2
   _ = 24000 := rfl
 have w1 : IntKind.i64.wrap ((done.length : Int) * (L : Int)) = ((done.length * L : Nat) : Int) := by
  rw [show (done.length : Int) * (L : Int) = ((done.length * L : Nat) : Int) by push_cast; rfl, wrap_id (by omega) (by omega)]
 have w2 : IntKind.i64.wrap (0 + (done.length : Int)) = (done.length : Int) := by rw [wrap_id (by omega) (by omega)]; omega
 have hrem : arithOp .rem (I (done.length : Int)) (I 64) = some (I ((done.length % 64 : Nat) : Int)) := ar_remn (a := done.length) (b := 64) (by omega) (by omega)
 have hbs : ∀ m, callL AP (.fn 29) [st.v rowI, I ((done.length * L : Nat) : Int)] m = some (.tuple [I (bsI st.l ((done.length * L : Nat) : Int)), B (bsF st.l ((done.length * L : Nat) : Int))], m) := fun m => z_BinarySearch_int hst hsl hsrt
 have w3 : IntKind.i64.wrap (((done.length * L : Nat) : Int) + (L : Int)) = ((done.length * L + L : Nat) : Int) := by rw [wrap_id (by omega) (by omega)]; omega
 have hcl : ∀ a b, closeAll [I a, I b, I 255, (cpS 1 c).v rowI] = some [I a, I b, I 255, (cpS 1 c).v rowI] := fun a b => by
  simp only [closeAll_cons, closeAll_nil, close_int, Sl.close (f := rowI) (cpS_ok (es := 1) (l := c))]; rfl
 have hcl2 : closeAll (rowFm (mkF L st.l done.length c)) = some (rowFm (mkF L st.l done.length c)) := by
  simp only [rowFm, mkF, closeAll_cons, closeAll_nil, close_int, Sl.close (f := rowI) (cpS_ok (es := 1) (l := c))]; rfl
 obtain ⟨n1, hn1⟩ : ∃ n, n = ((done.length % 64 : Nat) : Int) := ⟨_, rfl⟩
 obtain ⟨f1, hf1⟩ : ∃ n, n = firstOf L st.l done.length := ⟨_, rfl⟩
 obtain ⟨x1, m1, r0', x', og', tk', a1, a2, a3, a4, a5, a6⟩ := hM.append (r0 := ⟨[rowFm (mkF L st.l done.length c)], []⟩) hA .full (ys := [rowFm (mkF L st.l done.length c)]) (by simp) (by simp [frL_len]; omega) (b := 4) (by rw [hb]; simp) ⟨x, by rw [hb]; rfl⟩
 refine ⟨⟨r.boxes.set 4 [x'], tk'⟩, ?_, x', og', by rw [hb]; rfl, by rw [frL_s, List.map_append]; exact a4⟩
 rw [callL_round (hR r) rfl]
 simp only [mkF, rowFm, ← hn1, ← hf1, Sl.v] at a1 a2 hcl hcl2 hfc hbs k3 ⊢
 rw [← hn1] at hrem
 obtain ⟨i, hi⟩ : ∃ i, i = bsI st.l ((done.length * L : Nat) : Int) := ⟨_, rfl⟩
 have hile : i ≤ st.l.length := by rw [hi]; exact bsI_le
 unfold firstOf at hf1
 rw [← hi] at hf1 hbs
 have hds := hst
 cases hx : st.l[i]? with
 | none =>
  have hie : st.l.length ≤ i := List.getElem?_eq_none_iff.1 hx
  rw [hx] at hf1
  simp only at hf1
  have d1 : decide ((i : Int) < (st.l.length : Int)) = false := decide_eq_false (by omega)
  rw [hf1] at a1 hcl2
  simp (maxSteps := 1000000) only [go_sem, b_frame_Packed_a0, finA_n (hR r), setParams_1, ↓reduceIte]
  simp (maxSteps := 1000000) only [go_sem, b_frame_Packed_y0, hX, hokX, h4, h8, h11, h12, k1, k2, k3, k4, hlr, hlen, rep1, hfc, slot1, w1, w2, hrem, hbs, hfin, hcl, a1, a2, d1, Nat.reduceEqDiff, Nat.reduceAdd, Nat.reduceSub, ↓reduceIte, Nat.lt_add_one]
 | some y =>
  rw [hx] at hf1
  simp only at hf1
  have hil : i < st.l.length := (List.getElem?_eq_some_iff.1 hx).1
  have d1 : decide ((i : Int) < (st.l.length : Int)) = true := decide_eq_true (by omega)
  have hix := Sl.ix (f := rowI) hst hx
  have hyb := hsb y (List.mem_of_getElem? hx)
  have hyg := bsI_ge (l := st.l) (t := ((done.length * L : Nat) : Int)) (x := y) (by rw [← hi]; exact hx)
  have w4 : IntKind.i64.wrap (y - ((done.length * L : Nat) : Int)) = y - ((done.length * L : Nat) : Int) := wrap_id (by omega) (by omega)
  simp only [rowI, Sl.v] at hix
  by_cases hlt : y < ((done.length * L + L : Nat) : Int)
  ·rw [if_pos hlt] at hf1
   have d2 : decide (y < ((done.length * L + L : Nat) : Int)) = true := decide_eq_true hlt
   rw [hf1] at a1 hcl2
   simp (maxSteps := 1000000) only [go_sem, b_frame_Packed_a0, finA_n (hR r), setParams_1, ↓reduceIte]
   simp (maxSteps := 1000000) only [go_sem, b_frame_Packed_y0, hX, hokX, h4, h8, h11, h12, k1, k2, k3, k4, hlr, hlen, rep1, hfc, slot1, w1, w2, w3, w4, hrem, hbs, hfin, hcl2, a1, a2, d1, d2, hix, Nat.reduceEqDiff, Nat.reduceAdd, Nat.reduceSub, ↓reduceIte, Nat.lt_add_one]
  ·rw [if_neg hlt] at hf1
   have d2 : decide (y < ((done.length * L + L : Nat) : Int)) = false := decide_eq_false hlt
   rw [hf1] at a1 hcl2
   simp (maxSteps := 1000000) only [go_sem, b_frame_Packed_a0, finA_n (hR r), setParams_1, ↓reduceIte]
   simp (maxSteps := 1000000) only [go_sem, b_frame_Packed_y0, hX, hokX, h4, h8, h11, h12, k1, k2, k3, k4, hlr, hlen, rep1, hfc, slot1, w1, w2, w3, hrem, hbs, hfin, hcl, a1, a2, d1, d2, hix, Nat.reduceEqDiff, Nat.reduceAdd, Nat.reduceSub, ↓reduceIte, Nat.lt_add_one]
end
end Go.Ax.Sx.Ck

namespace Go.Ax.Sx.Ck
open Go.Ax
set_option linter.unusedSimpArgs false
set_option linter.unusedVariables false
set_option maxRecDepth 100000
theorem offs_s {l : List Pk} {i : Nat} {p : Pk} (h : l[i]? = some p) : offs l (i + 1) = offs l i + (3 + p.data.l.length) := by
 unfold offs
 rw [pksB_take h, List.length_append, pkB_len]
theorem offs_lt {l : List Pk} {i j : Nat} (h : i < j) (hj : j ≤ l.length) : offs l i < offs l j := by
 induction j with
 | zero => omega
 | succ j ih =>
  obtain ⟨p, hp⟩ := get_some (l := l) (k := j) (by omega)
  rw [offs_s hp]
  rcases Nat.lt_or_ge i j with h' | h'
  ·have := ih h' (by omega); omega
  ·have : i = j := by omega
   subst this; omega
theorem startsL_get {l : List Pk} {n i : Nat} {a : Int} (h : (startsL l n)[i]? = some a) : i < n ∧ a = (offs l i : Int) := by
 simp only [startsL, List.getElem?_map] at h
 by_cases hi : i < n
 ·rw [List.getElem?_range hi] at h
  simp at h
  exact ⟨hi, h.symm⟩
 ·rw [List.getElem?_eq_none_iff.2 (by simp; omega)] at h
  simp at h
theorem starts_srt {l : List Pk} (i j : Nat) (a b : Int) (h : i < j) (ha : (startsL l l.length)[i]? = some a) (hb : (startsL l l.length)[j]? = some b) : a < b := by
 obtain ⟨h1, rfl⟩ := startsL_get ha
 obtain ⟨h2, rfl⟩ := startsL_get hb
 have := offs_lt (l := l) h (by omega)
 omega
theorem offs_le {l : List Pk} (hp : ∀ p ∈ l, p.data.l.length ≤ 40) (i : Nat) : offs l i ≤ 43 * l.length := by
 unfold offs
 refine Nat.le_trans (pksB_le fun q hq => hp q (List.mem_of_mem_take hq)) ?_
 have : (l.take i).length ≤ l.length := by rw [List.length_take]; omega
 omega
theorem starts_b {l : List Pk} (hp : ∀ p ∈ l, p.data.l.length ≤ 40) (hl : l.length ≤ 1000) {x : Int} (hx : x ∈ startsL l l.length) : x ≤ 1000000 := by
 obtain ⟨i, hi⟩ := List.getElem?_of_mem hx
 obtain ⟨_, rfl⟩ := startsL_get hi
 have := offs_le hp i
 omega
theorem roomN_le {L n : Nat} (hL : L ≤ 24) : roomN L n ≤ 40 := by
 unfold roomN
 split
 ·omega
 ·split <;> omega
theorem idle_ok {n : Nat} (h : n ≤ 40) : (idle n).Ok := ⟨⟨.inr rfl, .inr (.inl rfl)⟩, by show (0:Int) ≤ 255; omega, by show (255:Int) ≤ 255; omega, by show (0:Int) ≤ 0; omega, by show (0:Int) ≤ 255; omega, by show (List.replicate n (0:Int)).length ≤ 40; simpa using h, fun x hx => by
 have := List.eq_of_mem_replicate hx
 omega⟩
theorem fillP_ok {L : Nat} {l : List Pk} (hL : L ≤ 24) (h : ∀ p ∈ l, p.Ok) : ∀ p ∈ fillP L l, p.Ok := by
 intro p hp
 unfold fillP at hp
 split at hp
 ·exact h p hp
 ·rcases List.mem_append.1 hp with hp | hp
  ·exact h p hp
  ·rw [List.mem_singleton.1 hp]; exact idle_ok (roomN_le hL)
theorem fillP_len {L : Nat} {l : List Pk} : (fillP L l).length ≤ l.length + 1 := by
 unfold fillP; split <;> simp
theorem pksB_app {a b : List Pk} : pksB (a ++ b) = pksB a ++ pksB b := by simp [pksB]
theorem pksB_one {p : Pk} : pksB [p] = pkB p := by simp [pksB]
theorem fillP_mod {L : Nat} {l : List Pk} (hL : 4 ≤ L) : (pksB (fillP L l)).length % L = 0 := by
 unfold fillP
 split
 ·assumption
 ·rename_i h
  rw [pksB_app, pksB_one, List.length_append, pkB_len]
  show ((pksB l).length + (3 + (List.replicate (roomN L (pksB l).length) (0 : Int)).length)) % L = 0
  rw [List.length_replicate]
  generalize (pksB l).length = n at *
  have hq := Nat.mod_lt n (show 0 < L by omega)
  have hdm := Nat.div_add_mod n L
  unfold roomN
  rw [if_neg h]
  have key : ∃ q, n + (3 + (if L - n % L < 3 then L - n % L + L - 3 else L - n % L - 3)) = L * q := by
   split
   ·refine ⟨n / L + 2, ?_⟩
    rw [Nat.mul_add]; omega
   ·refine ⟨n / L + 1, ?_⟩
    rw [Nat.mul_add]; omega
  obtain ⟨q, hq⟩ := key
  rw [hq]
  exact Nat.mul_mod_right L q
def framesN (L : Nat) (l : List Pk) : Nat := (pksB (fillP L l)).length / L
theorem framesN_mul {L : Nat} {l : List Pk} (hL : 4 ≤ L) : (pksB (fillP L l)).length = framesN L l * L := by
 unfold framesN
 have h1 := fillP_mod (l := l) hL
 have h2 := Nat.div_add_mod (pksB (fillP L l)).length L
 rw [h1, Nat.add_zero, Nat.mul_comm] at h2
 exact h2.symm
def packedL (L : Nat) (l : List Pk) : List Fm := frL L (startsL (fillP L l) (fillP L l).length) (chunksL L (pksB (fillP L l)) (framesN L l))
section
variable {s : Sig}
abbrev pkLp (ρ : Nat → AV) : ALoop := ⟨true, none, ρ, [56], b_frame_Packed_a0, b_frame_Packed_y0⟩
abbrev pkBase (s : Sig) (ρ : Nat → AV) (r : Rec) : Sig := enterLoop (s.push r) (pkLp ρ)
theorem pk_hand {ρ : Nat → AV} {L : Nat} {C : Int} {st : Sl Int} (hs : Ok s) (hL : 4 ≤ L) (hL2 : L ≤ 24) (hst : st.ok 1) (hsl : st.l.length ≤ 1000000) (hsrt : ∀ (i j : Nat) (a b : Int), i < j → st.l[i]? = some a → st.l[j]? = some b → a < b) (hsb : ∀ x ∈ st.l, x ≤ 1000000)
  (h4 : ρ 4 = .ptr s.acts.length 1 0) (h8 : ρ 8 = .ptr s.acts.length 2 0) (h11 : ρ 11 = .ptr s.acts.length 3 0) (h12 : ρ 12 = .ptr s.acts.length 4 0) :
  Hand AP s.loops.length fuI (pkBase s ρ) (fun done r => ∃ x og, r.boxes = [[I L, I C], [I 0, I 0], [I L, I C], [st.v rowI], [x]] ∧ Acc s.acts.length 4 ((frL L st.l done).map rowFm) x og r.toks)
   (fun _ _ => false) (fun _ _ _ => False) (fun c => c.length = L) (s.acts.length + 1) (s.loops.length + 1) 1000 := by
 refine ⟨fun r => (hs.push _).enter, fun r => by simp [pkBase, enterLoop, Sig.push], fun r => by simp [pkBase, enterLoop, Sig.push], ?_, fun _ _ _ _ _ _ _ _ h => by cases h⟩
 intro done p r B ls hd hI hp _
 have hM : Mid (fun r => up (busy s.loops.length (enterLoop (s.push r) (pkLp ρ))) B ls) s.acts.length := mid_loop hs
 have hX : ∀ r, busy s.loops.length (up (pkBase s ρ r) B ls) = (fun r => up (busy s.loops.length (enterLoop (s.push r) (pkLp ρ))) B ls) r := fun r => up_busy (by simp [enterLoop, Sig.push])
 exact pk_round (T := fun r => up (pkBase s ρ r) B ls) hM hX (fun r => up_ready (enter_ready (hs.push r))) (fun r => ((hs.push _).enter).up) hL hL2 hp hd hst hsl hsrt hsb h4 h8 h11 h12 hI
end
end Go.Ax.Sx.Ck

namespace Go.Ax.Sx.Ck
open Go.Ax
set_option linter.unusedSimpArgs false
set_option linter.unusedVariables false
set_option maxRecDepth 100000
section
variable {s : Sig}
theorem ar_quon {a b : Nat} (hb : 0 < b) (ha : (a : Int) < 9223372036854775808) : arithOp .quo (I (a : Int)) (I (b : Int)) = some (I ((a / b : Nat) : Int)) := by
 have h1 : ¬ (b : Int) = 0 := by omega
 have h2 : a / b ≤ a := Nat.div_le_self _ _
 have h4 : (a : Int).tdiv (b : Int) = ((a / b : Nat) : Int) := by
  rw [Int.tdiv_eq_ediv_of_nonneg (by omega)]; rfl
 generalize a / b = q at *
 have h3 := wrap_id (x := (q : Int)) (by omega) (by omega)
 simp only [arithOp, isShift, intOp, h1, if_false, h4, h3]
 rfl
theorem frame_PackedE {x x' : Sl Pk} {L : Nat} {C : Int} (hs : Ok s) (hr : RuOk L C) (hx : x.l = [] ∨ x.e = 3) (hxo : x'.ok 3) (hxl : x'.l = x.l) (hlv0 : ∀ m, leaveVal m (x.v rowPk) = some (x'.v rowPk)) (hnil : eqOp .slice (x.v rowPk) (.slice .nilS 0 []) = some false) (hne : x.l ≠ []) (hp : ∀ p ∈ x.l, p.Ok) (hl : x.l.length ≤ 20) (h1 : 1 ≤ framesN L x.l) (h40 : framesN L x.l ≤ 40) :
    callL AP (.fn 7) [rulesV L C, .agg [I 0, I 0], x.v rowPk] s = some (.tuple [(acS 4 (packedL L x.l)).v rowFm, I 0], s) := by
  have hL : 4 ≤ L := by have := hr.l0; omega
  have hL2 : L ≤ 24 := by have := hr.l1; omega
  obtain ⟨y, hy⟩ : ∃ y, y = fillS L x' := ⟨_, rfl⟩
  have hyl : y.l = fillP L x.l := by rw [hy, fillS_l, hxl]
  have hyo : y.ok 3 := by rw [hy]; exact fillS_ok hxo
  have hyp : ∀ p ∈ y.l, p.Ok := by rw [hyl]; exact fillP_ok hL2 hp
  have hylen : y.l.length ≤ 21 := by rw [hyl]; have := fillP_len (L := L) (l := x.l); omega
  have hmul := framesN_mul (l := x.l) hL
  rw [← hyl] at hmul
  obtain ⟨Bs, hB⟩ : ∃ Bs, Bs = pksB y.l := ⟨_, rfl⟩
  obtain ⟨st, hst⟩ : ∃ st, st = acS 1 (startsL y.l y.l.length) := ⟨_, rfl⟩
  obtain ⟨n, hn⟩ : ∃ n, n = framesN L x.l := ⟨_, rfl⟩
  have hstl : st.l = startsL y.l y.l.length := by rw [hst, acS_l]
  have hsto : st.ok 1 := by rw [hst]; exact acS_ok
  have hpk : packedL L x.l = frL L st.l (chunksL L Bs n) := by unfold packedL; rw [← hyl, hstl, hB, hn]
  rw [← hn] at h1 h40 hmul
  rw [← hB] at hmul
  have hnL : n * L ≤ 960 := by
    calc n * L ≤ 40 * 24 := Nat.mul_le_mul h40 hL2
      _ = 960 := rfl
  rw [hpk]
  have e1 : ∀ r, callL AP (.fn 20) [rulesV L C, I 0] (s.push r) = some (.tuple [rulesV L C, I 0], s.push r) := fun r => frame_openChannel (hs.push r) hr (by omega) (by have := hr.c0; omega)
  have e2 : ∀ m, callL AP (.fn 23) [I 0] m = some (B true, m) := fun m => by rw [frame_isCount, wi_t (by omega) (by omega)]
  have e3 : ∀ r, callL AP (.fn 24) [x.v rowPk] (s.push r) = some (I 0, s.push r) := fun r => frame_packetsErr (hs.push r) hx hp hl
  have e4 : ∀ r, callL AP (.fn 26) [rulesV L C, x.v rowPk] (s.push r) = some (y.v rowPk, s.push r) := fun r => by
    rw [hy]; exact frame_link_filledE (hs.push r) hL hL2 hx hxl hlv0 hnil hne (fun p h => ⟨(hp p h).data, (hp p h).len⟩) (by omega)
  have e5 : ∀ r, callL AP (.fn 25) [y.v rowPk] (s.push r) = some (.tuple [(acS 1 Bs).v rowI, st.v rowI], s.push r) := fun r => by
    rw [hB, hst]; exact frame_stream (hs.push r) hyo (fun p h => ⟨(hyp p h).data, (hyp p h).len⟩) (by omega)
  have e6 : ∀ r, callL AP (.fn 27) [(acS 1 Bs).v rowI, I L] (s.push r) = some (.fn 48 [] [.eptr [(acS 1 Bs).v rowI] 0, .eptr [I L] 0], s.push r) := fun r => z_Chunk_int (hs.push r) acS_ok (by omega) hL2
  have hq := ar_quon (a := Bs.length) (b := L) (by omega) (by omega)
  have hqn : Bs.length / L = n := by rw [hmul]; exact Nat.mul_div_cancel n (by omega)
  rw [hqn] at hq
  have d1 : decide ((40 : Int) < (n : Int)) = false := decide_eq_false (by omega)
  have hlenB : (acS 1 Bs).l.length = Bs.length := by rw [acS_l]
  have hcls : (st.v rowI).isCell = true := rfl
  have key : ∀ ρ : Nat → AV, ρ 4 = .ptr s.acts.length 1 0 → ρ 8 = .ptr s.acts.length 2 0 → ρ 11 = .ptr s.acts.length 3 0 → ρ 12 = .ptr s.acts.length 4 0 → ρ 55 = .fn 48 [] [.eptr [(acS 1 Bs).v rowI] 0, .eptr [I L] 0] →
      go AP f_frame_Packed (.c (.rangeFunc (.tmp 55) [56] b_frame_Packed_a0 b_frame_Packed_y0) :: .blk 0 :: [.c b_frame_Packed_r0]) ⟨ρ, s.push ⟨[[I L, I C], [I 0, I 0], [I L, I C], [st.v rowI], [.slice .nilS 0 []]], []⟩⟩ = some (.tuple [(acS 4 (frL L st.l (chunksL L Bs n))).v rowFm, I 0], s) := by
    intro ρ h4 h8 h11 h12 h55
    obtain ⟨r', hc, hE⟩ := chunk_calls (x := acS 1 Bs) (L := L) (n := n) (pk_hand (st := st) (C := C) hs hL hL2 hsto (by rw [hstl, startsL_len]; omega) (by rw [hstl]; exact starts_srt) (by rw [hstl]; exact fun x hx => starts_b (fun p hp => (hyp p hp).len) (by omega) hx) h4 h8 h11 h12) acS_ok (by omega) h1 (by rw [hlenB]; exact hmul) (by omega) (by omega)
      (i := ⟨[[I L, I C], [I 0, I 0], [I L, I C], [st.v rowI], [.slice .nilS 0 []]], []⟩) ⟨_, none, rfl, Acc.start⟩ (fun k hk => by
        have hkl : k * L + L ≤ n * L := by
          have := Nat.mul_le_mul_right L (show k + 1 ≤ n from hk)
          rwa [Nat.add_mul, Nat.one_mul] at this
        rw [acS_l, List.length_take, List.length_drop, hmul]; omega)
    obtain ⟨x, og, hb, hA⟩ := hE
    rw [acS_l] at hA
    rw [go_range (x := .tmp 55) h55]
    refine (congrArg (Option.bind · _) hc).trans ?_
    simp only [Option.bind_some]
    refine (goL_normal (m := s.push r') (lp := pkLp ρ) rfl rfl rfl).trans ?_
    obtain ⟨bx, tk⟩ := r'
    simp only at hb hA
    subst hb
    have hlv := hA.leave
    rw [acS_v]
    simp (maxSteps := 1000000) only [go_sem, b_frame_Packed_r0, h12, hlv, Nat.reduceEqDiff, ↓reduceIte]
  rw [callL_go (show AP 7 = some c_frame_Packed from rfl) rfl]
  simp only [Sl.v] at e3 e4 e5 e6 key ⊢
  simp (maxSteps := 1000000) only [go_sem, b_frame_Packed, hs, e1, e2, e3, e4, e5, e6, hlenB, hq, d1, frame_unless, frame_first3, firstErr, Nat.reduceEqDiff, Nat.reduceAdd, ↓reduceIte, ne_eq, not_true]
  exact key _ rfl rfl rfl rfl rfl
theorem frame_Packed {x : Sl Pk} {L : Nat} {C : Int} (hs : Ok s) (hr : RuOk L C) (hx : x.ok 3) (hne : x.l ≠ []) (hp : ∀ p ∈ x.l, p.Ok) (hl : x.l.length ≤ 20) (h1 : 1 ≤ framesN L x.l) (h40 : framesN L x.l ≤ 40) :
  callL AP (.fn 7) [rulesV L C, .agg [I 0, I 0], x.v rowPk] s = some (.tuple [(acS 4 (packedL L x.l)).v rowFm, I 0], s) := by
 refine frame_PackedE hs hr hx.1 hx rfl (fun m => Sl.leave hx) ?_ hne hp hl h1 h40
 obtain ⟨o, e, l⟩ := x
 cases l with
 | nil => exact absurd rfl hne
 | cons a l => exact nil_eq (f := rowPk) hx
end
end Go.Ax.Sx.Ck

namespace Go.Ax.Sx.Ck
open Go.Ax
set_option linter.unusedSimpArgs false
set_option linter.unusedVariables false
set_option maxRecDepth 100000
theorem setCells_mid : ∀ (Bs A Z R : List AV), Z.length = Bs.length → setCells (A ++ (Z ++ R)) A.length Bs = A ++ (Bs ++ R)
 | [], A, Z, R, h => by
  have : Z = [] := by simpa using h
  subst this
  rfl
 | b :: Bs, A, [], R, h => by simp at h
 | b :: Bs, A, z :: Z, R, h => by
  simp only [setCells]
  have e : (A ++ (z :: Z ++ R)).set A.length b = (A ++ [b]) ++ (Z ++ R) := by
   rw [List.set_append_right _ _ (Nat.le_refl _), Nat.sub_self]
   simp
  have h2 := setCells_mid Bs (A ++ [b]) Z R (by simpa using h)
  rw [List.length_append, List.length_singleton] at h2
  rw [e, h2]
  simp
theorem close_ints : ∀ {l : List Int}, closeAll (l.map I) = some (l.map I)
 | [] => rfl
 | a :: r => by
  simp only [List.map_cons, closeAll_cons, close_int, close_ints (l := r)]; rfl
theorem cells_ints : ∀ {l : List Int}, (l.map I).all AV.isCell = true
 | [] => rfl
 | a :: r => by simp only [List.map_cons, List.all_cons, cells_ints (l := r)]; rfl
theorem flat_ints : ∀ {l : List Int}, (l.map rowI).flatten = l.map I
 | [] => rfl
 | a :: r => by simp only [List.map_cons, List.flatten_cons, flat_ints (l := r)]; rfl
theorem chunks_ints : ∀ {l : List Int}, chunks 1 l.length (l.map I) = l.map rowI
 | [] => rfl
 | a :: r => by
  simp only [List.length_cons, List.map_cons, chunks, List.take_succ_cons, List.take_zero, List.drop_succ_cons, List.drop_zero, chunks_ints (l := r)]
section
variable {s : Sig}
theorem z_Grow_int {n : Nat} {bx : List (List AV)} {tk : List (Option Nat)} (hs : Ok s) (h0 : 0 < n) (hn : n ≤ 1000000) :
  callL AP (.inl 73) [.slice .nilS 0 [], I n] (s.push ⟨bx, tk⟩) = some (.rsl s.acts.length bx.length 0 1 0 n, s.push ⟨bx ++ [List.replicate n (I 0)], tk⟩) := by
 have h1 : appendzOp (s.push ⟨bx, tk⟩) 1 [I 0] (.slice .nilS 0 []) (I n) = some (.rsl s.acts.length bx.length 0 1 n n, s.push ⟨bx ++ [List.replicate n (I 0)], tk⟩) := by
  have a1 : asNat (I (n : Int)) most = some n := by simp [asNat, most]; omega
  have a2 : ¬ n = 0 := by omega
  have a3 : (List.replicate n [I 0]).flatten = List.replicate n (I 0) := by simp
  simp only [appendzOp, a1, Option.bind_some, a2, if_false, cur_push, nbox_push, addBox_push, a3]
 have h2 : sliceOp (.sl 1) (.rsl s.acts.length bx.length 0 1 n n) none (some (I 0)) none = some (.rsl s.acts.length bx.length 0 1 0 n) := by
  have a1 : asNat (I (0 : Int)) n = some 0 := by simp [asNat]
  have a2 : max n n = n := Nat.max_self n
  simp [sliceOp, mxOf, hiOf, loOf, a1, a2]
 have h3 : sliceOp (.sl 1) (.slice .nilS 0 []) none (some (AV.int 0)) none = some (.slice .nilS 0 []) := rfl
 have w0 : IntKind.i64.wrap ((n : Int) - 0) = (n : Int) := by rw [wrap_id (by omega) (by omega)]; omega
 have d1 : decide ((n : Int) < 0) = false := decide_eq_false (by omega)
 have d2 : decide ((0 : Int) < (n : Int)) = true := decide_eq_true (by omega)
 have hro : (s.push ⟨bx, tk⟩).ro < (s.push ⟨bx, tk⟩).acts.length := by
  have := hs.ro; simp [Sig.push]; omega
 rw [callL_inlgo rfl rfl hro]
 simp (maxSteps := 1000000) only [go_sem, b_z_Grow_int, w0, d1, d2, h1, h2, h3, Nat.reduceEqDiff, reduceCtorEq, Int.reduceLT, Int.reduceLE, Int.reduceSub, Int.reduceNeg, Int.cast_ofNat_Int, ↓reduceIte]
 rfl
def catL (xs : List (Sl Int)) : List Int := xs.flatMap (·.l)
theorem catL_take {xs : List (Sl Int)} {k : Nat} {a : Sl Int} (h : xs[k]? = some a) : catL (xs.take (k + 1)) = catL (xs.take k) ++ a.l := by
 unfold catL
 rw [take_get h, List.flatMap_append]
 simp
theorem catL_le {xs : List (Sl Int)} {k : Nat} : (catL (xs.take k)).length ≤ (catL xs).length := by
 have : catL xs = catL (xs.take k) ++ catL (xs.drop k) := by
  unfold catL; rw [← List.flatMap_append, List.take_append_drop]
 rw [this, List.length_append]; omega
abbrev rowL (a : Sl Int) : List AV := [a.v rowI]
theorem z_Concat_int {xs : List (Sl Int)} (hs : Ok s) (hx : ∀ a ∈ xs, a.ok 1) (hxl : xs.length ≤ 1000) (h0 : 0 < (catL xs).length) (hl : (catL xs).length ≤ 100000) :
  callL AP (.fn 62) [.slice .full 1 (xs.map rowL)] s = some (.slice .any 1 ((catL xs).map rowI), s) := by
 have key2 : ∀ (k : Nat) ρ m, k ≤ xs.length → (ρ 25 = .slice .full 1 (xs.map rowL) ∧ ρ 26 = I xs.length ∧ ρ 27 = I k ∧ ρ 6 = .rsl s.acts.length 0 0 1 (catL (xs.take k)).length (catL xs).length ∧ m = s.push ⟨[(catL (xs.take k)).map I ++ List.replicate ((catL xs).length - (catL (xs.take k)).length) (I 0)], []⟩) →
   go AP f_z_Concat_int (.c (.loop b_z_Concat_int_l0) :: k_z_Concat_int_0) ⟨ρ, m⟩ = some (.slice .any 1 ((catL xs).map rowI), s) := by
  refine loop_up xs.length _ (fun _ => some (.slice .any 1 ((catL xs).map rowI), s)) ?_ ?_
  ·rintro k ρ m hk ⟨g25, g26, g27, g6, rfl⟩ ih
   obtain ⟨a, ha⟩ := get_some hk
   have hix := ix_map (f := rowL) (o := .full) (es := 1) ha
   have hwk := wrap_succ hk (show (xs.length : Int) < _ by omega)
   have hao := hx a (List.mem_of_getElem? ha)
   have hle := catL_le (xs := xs) (k := k + 1)
   have hct := catL_take ha
   have hctl : (catL (xs.take (k + 1))).length = (catL (xs.take k)).length + a.l.length := by rw [hct, List.length_append]
   have happ : appendiOp (s.push ⟨[(catL (xs.take k)).map I ++ List.replicate ((catL xs).length - (catL (xs.take k)).length) (I 0)], []⟩) 1 (.rsl s.acts.length 0 0 1 (catL (xs.take k)).length (catL xs).length) (a.v rowI) = some (.rsl s.acts.length 0 0 1 (catL (xs.take (k + 1))).length (catL xs).length, s.push ⟨[(catL (xs.take (k + 1))).map I ++ List.replicate ((catL xs).length - (catL (xs.take (k + 1))).length) (I 0)], []⟩) := by
    have hsrc : ∀ m : Sig, m.srcRows 1 (a.v rowI) = some (a.l.map I, a.l.length) := fun m => by
     have h : (a.l.map rowI).isEmpty = true ∨ a.e = 1 := by
      rcases hao.1 with h | h
      ·left; rw [h]; rfl
      ·exact .inr h
     simp only [Sig.srcRows]
     rw [if_pos h, flat_ints, List.length_map]
    simp only [appendiOp, hsrc, Option.bind_some]
    by_cases hz : a.l.length = 0
    ·have hz2 : a.l = [] := List.length_eq_zero_iff.1 hz
     rw [if_pos hz, hct, hz2, List.append_nil]
    ·rw [if_neg hz, if_pos ⟨trivial, trivial, by omega⟩, store_ptr hs]
     have hf : fitN (a.l.length * 1) (AV.agg (a.l.map I)).cells = true := fitN_iff.2 ⟨by simp [AV.cells], cells_ints⟩
     rw [hf, cond_true]
     show (Option.map _ ((Option.map _ (overN _ _ _)))) = _
     rw [overN_eq, if_pos (by simp [AV.cells]; omega)]
     have hsp : List.replicate ((catL xs).length - (catL (xs.take k)).length) (I 0) = List.replicate a.l.length (I 0) ++ List.replicate ((catL xs).length - (catL (xs.take (k + 1))).length) (I 0) := by
      rw [List.replicate_append_replicate]; congr 1; omega
     have hsc := setCells_mid (a.l.map I) ((catL (xs.take k)).map I) (List.replicate a.l.length (I 0)) (List.replicate ((catL xs).length - (catL (xs.take (k + 1))).length) (I 0)) (by simp)
     rw [List.length_map] at hsc
     rw [hsp, Nat.mul_one]
     show some (_, s.push ⟨[setCells _ _ (a.l.map I)], []⟩) = _
     rw [hsc, hctl, hct, List.map_append, List.append_assoc]
   simp only [rowL, Sl.v] at hix happ g25
   simp (maxSteps := 1000000) only [go_sem, b_z_Concat_int_l0, g25, g26, g27, g6, lt_dec hk, hix, happ, hwk, Nat.reduceEqDiff, ↓reduceIte]
   refine ih _ _ ?_
   exact ⟨g25, g26, rfl, rfl, rfl⟩
  ·rintro ρ m ⟨g25, g26, g27, g6, rfl⟩
   rw [List.take_length, Nat.sub_self, List.replicate_zero, List.append_nil] at *
   have hlv : leaveVal (s.push ⟨[(catL xs).map I], []⟩) (.rsl s.acts.length 0 0 1 (catL xs).length (catL xs).length) = some (.slice .any 1 ((catL xs).map rowI)) := by
    have hb : (s.push ⟨[(catL xs).map I], []⟩).box s.acts.length 0 = some ((catL xs).map I) := box_push s _ 0
    simp only [leaveVal, leaveCell, cur_push, if_true, hb, Option.bind_some, List.length_map, Nat.zero_add, Nat.mul_one, Nat.le_refl, close_ints, Option.some_or, Option.map_some, List.drop_zero, chunks_ints]
   simp (maxSteps := 1000000) only [go_sem, b_z_Concat_int_l0, b_z_Concat_int_r0, g26, g27, g6, ge_dec, hlv, Nat.reduceEqDiff, ↓reduceIte]
 have key1 : ∀ (k : Nat) ρ m, k ≤ xs.length → (ρ 0 = .slice .full 1 (xs.map rowL) ∧ ρ 9 = .slice .full 1 (xs.map rowL) ∧ ρ 10 = I xs.length ∧ ρ 11 = I k ∧ ρ 3 = I (catL (xs.take k)).length ∧ m = s.push ⟨[], []⟩) →
   go AP f_z_Concat_int (.c (.loop b_z_Concat_int_l1) :: k_z_Concat_int_1) ⟨ρ, m⟩ = some (.slice .any 1 ((catL xs).map rowI), s) := by
  refine loop_up xs.length _ (fun _ => some (.slice .any 1 ((catL xs).map rowI), s)) ?_ ?_
  ·rintro k ρ m hk ⟨g0, g9, g10, g11, g3, rfl⟩ ih
   obtain ⟨a, ha⟩ := get_some hk
   have hix := ix_map (f := rowL) (o := .full) (es := 1) ha
   have hwk := wrap_succ hk (show (xs.length : Int) < _ by omega)
   have hle := catL_le (xs := xs) (k := k + 1)
   have hctl : (catL (xs.take (k + 1))).length = (catL (xs.take k)).length + a.l.length := by rw [catL_take ha, List.length_append]
   have w1 : IntKind.i64.wrap (((catL (xs.take k)).length : Int) + (a.l.length : Int)) = ((catL (xs.take (k + 1))).length : Int) := by rw [wrap_id (by omega) (by omega)]; omega
   have d1 : decide (((catL (xs.take (k + 1))).length : Int) < 0) = false := decide_eq_false (by omega)
   simp only [rowL, Sl.v] at hix g0 g9
   simp (maxSteps := 1000000) only [go_sem, b_z_Concat_int_l1, g9, g10, g11, g3, lt_dec hk, hix, w1, d1, hwk, Nat.reduceEqDiff, ↓reduceIte]
   refine ih _ _ ?_
   exact ⟨g0, g9, g10, rfl, rfl, rfl⟩
  ·rintro ρ m ⟨g0, g9, g10, g11, g3, rfl⟩
   rw [List.take_length] at g3
   have hg := z_Grow_int (s := s) (n := (catL xs).length) (bx := []) (tk := []) hs h0 (by omega)
   try simp only [List.nil_append, List.length_nil] at hg
   try simp only [rowL, Sl.v] at g0 g9
   try simp only [rowL, Sl.v] at key2
   simp (maxSteps := 1000000) only [go_sem, b_z_Concat_int_l1, b_z_Concat_int_r1, g0, g10, g11, g3, ge_dec, hg, Nat.reduceEqDiff, reduceCtorEq, ↓reduceIte]
   refine key2 0 _ _ (Nat.zero_le _) ?_
   exact ⟨rfl, rfl, rfl, rfl, by simp [catL]⟩
 rw [callL_go (show AP 62 = some c_z_Concat_int from rfl) rfl]
 try simp only [rowL, Sl.v] at key1
 try simp only [rowL, Sl.v]
 simp (maxSteps := 1000000) only [go_sem, b_z_Concat_int, reduceCtorEq, ↓reduceIte]
 exact key1 0 _ _ (Nat.zero_le _) ⟨rfl, rfl, rfl, rfl, rfl, rfl⟩
end
end Go.Ax.Sx.Ck

namespace Go.Ax.Sx.Ck
open Go.Ax
set_option linter.unusedSimpArgs false
set_option linter.unusedVariables false
set_option maxRecDepth 100000
theorem mid_here {Q : Sig} (hQ : Ok Q) : Mid (fun r => Q.push r) Q.acts.length := ⟨fun r => by simp [Sig.push], fun r f => onRec_push Q r f, fun r => hQ.ro⟩
section
variable {X : Rec → Sig} {d : Nat} {r r0 : Rec}
theorem Mid.appendAt (h : Mid X d) {es b off : Nat} {xs : List (List AV)} {x : AV} {og : Option Nat} (ha : Acc d es xs x og r.toks) (o : Own) {ys : List (List AV)} (hy : ys ≠ []) (hl : xs.length + ys.length ≤ 4294967296) (hb : b < r.boxes.length) {row : List AV} (hrow : r.boxes[b]? = some row) (hoff : off + 1 ≤ row.length) :
  ∃ x1 m1 r0' x' og' tk', appendOp ((X r).push r0) es x (.slice o es ys) = some (x1, m1) ∧ m1.store 1 (.ptr d b off) x1 = some ((X ⟨r.boxes.set b (row.set off x'), tk'⟩).push r0') ∧ r0'.boxes = r0.boxes ∧ Acc d es (xs ++ ys) x' og' tk' ∧ og' ≠ none := by
 have hlt := h.lt r
 have hcur : ∀ q, ((X r).push q).cur = (X r).acts.length := fun q => cur_push _ _
 have hro : ∀ q, ((X r).push q).ro ≤ d := fun q => h.ro r
 have hne : ¬ d = (X r).acts.length := by omega
 have hne2 : ¬ (X r).acts.length ≤ d := by omega
 have hy' : ys.isEmpty = false := by cases ys <;> simp_all
 cases og with
 | none =>
  obtain ⟨rfl, rfl⟩ := ha
  have hl' : ys.length ≤ 4294967296 := by simpa using hl
  refine ⟨.slice (.tok (X r).acts.length r0.toks.length) es ys, (X r).push ⟨r0.boxes, r0.toks ++ [some ys.length]⟩, ⟨r0.boxes, (r0.toks ++ [some ys.length]).set r0.toks.length none⟩, .slice (.tok d r.toks.length) es ys, some r.toks.length, r.toks ++ [some ys.length], ?_, ?_, rfl, ⟨by simpa using hy, rfl, by simp⟩, by simp⟩
  ·simp [appendOp, hy', Own.isNil, most, hl', hcur, ntok_push, addTok_push]
  ·have hcell : (AV.slice (.tok (X r).acts.length r0.toks.length) es ys).cells = [.slice (.tok (X r).acts.length r0.toks.length) es ys] := rfl
   have htok : ((X r).push ⟨r0.boxes, r0.toks ++ [some ys.length]⟩).tok (X r).acts.length r0.toks.length = some ys.length := by rw [tok_push]; simp
   have hfit : ((X r).push ⟨r0.boxes, r0.toks ++ [some ys.length]⟩).fitAll d [.slice (.tok (X r).acts.length r0.toks.length) es ys] = some ([.slice (.tok d r.toks.length) es ys], (X ⟨r.boxes, r.toks ++ [some ys.length]⟩).push ⟨r0.boxes, (r0.toks ++ [some ys.length]).set r0.toks.length none⟩) := by
    simp only [Sig.fitAll, Sig.fit, hne2, if_false, hcur, htok, and_self, if_true, h.ntok, setTok_push, h.addTok]
   simp only [Sig.store, hro, hcell, List.length_cons, List.length_nil, List.all_cons, List.all_nil, AV.isCell, Bool.and_self, and_self, if_true, hcur, hne, if_false, hfit, h.box, hrow, h.setBox, Nat.zero_add, hoff, setCells]
 | some g =>
  obtain ⟨hx, rfl, hg⟩ := ha
  refine ⟨.slice (.tok d g) es (xs ++ ys), (X ⟨r.boxes, r.toks.set g (some (xs.length + ys.length))⟩).push r0, r0, .slice (.tok d g) es (xs ++ ys), some g, r.toks.set g (some (xs.length + ys.length)), ?_, ?_, rfl, ⟨by simp [hx], rfl, ?_⟩, by simp⟩
  ·simp [appendOp, hy', most, hl, h.tok, hg, hro, h.setTok]
  ·have hcell : (AV.slice (.tok d g) es (xs ++ ys)).cells = [.slice (.tok d g) es (xs ++ ys)] := rfl
   have hcur' : ∀ q tk, ((X ⟨r.boxes, tk⟩).push q).cur = (X ⟨r.boxes, tk⟩).acts.length := fun q tk => cur_push _ _
   have hro' : ∀ q tk, ((X ⟨r.boxes, tk⟩).push q).ro ≤ d := fun q tk => h.ro _
   have hne' : ∀ tk, ¬ d = (X ⟨r.boxes, tk⟩).acts.length := fun tk => by have := h.lt ⟨r.boxes, tk⟩; omega
   have hfit : ∀ m : Sig, m.fitAll d [.slice (.tok d g) es (xs ++ ys)] = some ([.slice (.tok d g) es (xs ++ ys)], m) := fun m => by
    simp only [Sig.fitAll, Sig.fit, Nat.le_refl, if_true]
   simp only [Sig.store, hro', hcell, List.length_cons, List.length_nil, List.all_cons, List.all_nil, AV.isCell, Bool.and_self, and_self, if_true, hcur', hne', if_false, hfit, h.box, hrow, h.setBox, Nat.zero_add, hoff, setCells]
  ·rw [List.getElem?_set_self (List.getElem?_eq_some_iff.1 hg).1]; simp
end
def expE (part data : List Int) : Int := if part = [] then 0 else
 let need := 3 + ((part ++ data)[2]?).getD 0 - (part.length : Int)
 if need < (data.length : Int) then need else 255
section
variable {X : Rec → Sig} {d : Nat} {r : Rec} {b : Nat}
theorem frame_reader_close {op : Bool} {pa ou : AV} (h : Mid X d) (hok : ∀ r, Ok (X r)) (hb : r.boxes[b]? = some [B op, pa, ou]) :
  callL AP (.fn 61) [.ptr d b 0] (X r) = some (.tuple [], X ⟨r.boxes.set b [B false, .slice .nilS 0 [], ou], r.toks⟩) := by
 have hlt : b < r.boxes.length := (List.getElem?_eq_some_iff.1 hb).1
 have s1 : ∀ q, ((X r).push q).store 1 (.ptr d b 0) (.v (.bool false)) = some ((X ⟨r.boxes.set b [B false, pa, ou], r.toks⟩).push q) := fun q => h.store rfl rfl hb rfl
 have s2 : ∀ q, ((X ⟨r.boxes.set b [B false, pa, ou], r.toks⟩).push q).store 1 (.ptr d b 1) (.slice .nilS 0 []) = some ((X ⟨r.boxes.set b [B false, .slice .nilS 0 [], ou], r.toks⟩).push q) := fun q => by
  have := h.store (r := ⟨r.boxes.set b [B false, pa, ou], r.toks⟩) (r0 := q) (b := b) (off := 1) (n := 1) (y := .slice .nilS 0 []) rfl rfl (row := [B false, pa, ou]) (row' := [B false, .slice .nilS 0 [], ou]) (by simp [hlt]) rfl
  rw [this]; simp
 have hoX := hok
 rw [callL_go (show AP 61 = some c_frame_reader_close from rfl) rfl]
 simp (maxSteps := 1000000) only [go_sem, b_frame_reader_close, s1, s2, Nat.reduceEqDiff, reduceCtorEq, Nat.reduceAdd, ↓reduceIte]
theorem frame_reader_expected {m0 : Sig} {op : Bool} {pa : Sl Int} {ou : AV} {f : Fm} (hok : Ok m0) (k0 : ∀ q, (m0.push q).box d b = some [B op, pa.v rowI, ou]) (hpa : pa.ok 1) (hpl : pa.l.length ≤ 10000) (hf : f.data.ok 1) (hfl : 3 ≤ f.data.l.length) (hfl2 : f.data.l.length ≤ 1000) (hpb : ByteL pa.l) (hfb : ByteL f.data.l) :
  callL AP (.fn 60) [.ptr d b 0, .agg (rowFm f)] m0 = some (I (expE pa.l f.data.l), m0) := by
 have hoX := hok
 by_cases hn : pa.l = []
 ·have e : expE pa.l f.data.l = 0 := by unfold expE; rw [if_pos hn]
  have e2 : pa.l.length = 0 := by rw [hn]; rfl
  have d1 : decide ((pa.l.length : Int) = 0) = true := decide_eq_true (by omega)
  rw [e]
  simp only [Sl.v, rowFm] at k0 ⊢
  rw [callL_go (show AP 60 = some c_frame_reader_expected from rfl) rfl]
  simp (maxSteps := 1000000) only [go_sem, b_frame_reader_expected, k0, d1, reduceCtorEq, Nat.reduceAdd, ↓reduceIte]
 ·have e0 : 0 < pa.l.length := List.length_pos_iff.2 hn
  have d1 : decide ((pa.l.length : Int) = 0) = false := decide_eq_false (by omega)
  have hcat : catL [pa, f.data] = pa.l ++ f.data.l := by simp [catL]
  have hcc : ∀ m, Ok m → callL AP (.fn 62) [.slice .full 1 [[pa.v rowI], [f.data.v rowI]]] m = some (.slice .any 1 ((pa.l ++ f.data.l).map rowI), m) := fun m hm => by
   have := z_Concat_int (s := m) (xs := [pa, f.data]) hm (by simp [hpa, hf]) (by simp) (by rw [hcat]; simp; omega) (by rw [hcat]; simp; omega)
   rw [hcat] at this
   exact this
  obtain ⟨y, hy⟩ := get_some (l := pa.l ++ f.data.l) (k := 2) (by simp; omega)
  have hyb : 0 ≤ y ∧ y ≤ 255 := by
   rcases List.mem_append.1 (List.mem_of_getElem? hy) with h | h
   ·exact hpb y h
   ·exact hfb y h
  have hix : indexAddrOp none 1 (.slice .any 1 ((pa.l ++ f.data.l).map rowI)) (I 2) = some (.eptr (rowI y) 0) := ix_map (f := rowI) (o := .any) (es := 1) (k := 2) hy
  have e : expE pa.l f.data.l = if 3 + y - (pa.l.length : Int) < (f.data.l.length : Int) then 3 + y - (pa.l.length : Int) else 255 := by
   unfold expE; rw [if_neg hn, hy]; rfl
  have w1 := wrap_id (x := 3 + y) (by omega) (by omega)
  have w2 := wrap_id (x := 3 + y - (pa.l.length : Int)) (by omega) (by omega)
  rw [e]
  have c1 : closeAll [pa.v rowI] = some [pa.v rowI] := by simp only [closeAll_cons, closeAll_nil, Sl.close (f := rowI) hpa]; rfl
  have c2 : closeAll [f.data.v rowI] = some [f.data.v rowI] := by simp only [closeAll_cons, closeAll_nil, Sl.close (f := rowI) hf]; rfl
  simp only [Sl.v, rowFm] at k0 hcc c1 c2 ⊢
  generalize (pa.l ++ f.data.l).map rowI = Z at *
  by_cases hlt : 3 + y - (pa.l.length : Int) < (f.data.l.length : Int)
  ·rw [if_pos hlt]
   have d2 : decide (3 + y - (pa.l.length : Int) < (f.data.l.length : Int)) = true := decide_eq_true hlt
   rw [callL_go (show AP 60 = some c_frame_reader_expected from rfl) rfl]
   simp (maxSteps := 1000000) only [go_sem, b_frame_reader_expected, hoX, k0, d1, d2, hcc, hix, w1, w2, c1, c2, Nat.reduceEqDiff, reduceCtorEq, Nat.reduceAdd, ↓reduceIte]
  ·rw [if_neg hlt]
   have d2 : decide (3 + y - (pa.l.length : Int) < (f.data.l.length : Int)) = false := decide_eq_false hlt
   rw [callL_go (show AP 60 = some c_frame_reader_expected from rfl) rfl]
   simp (maxSteps := 1000000) only [go_sem, b_frame_reader_expected, hoX, k0, d1, d2, hcc, hix, w1, w2, c1, c2, Nat.reduceEqDiff, reduceCtorEq, Nat.reduceAdd, ↓reduceIte]
end
end Go.Ax.Sx.Ck
