/- A part of the proof. -/
import Derived.Test.YtehlallciamkoaaT11
namespace Go.Ax.Sx.Ck
open Go.Ax
set_option linter.unusedSimpArgs false
set_option linter.unusedVariables false
set_option maxRecDepth 100000
section
variable {AP : FuncId → Option AFn} {F : AExit → St → Option (AV × Sig)} {L : ACode} {ks : List K}
theorem loop_decx (P : Nat → (Nat → AV) → Sig → Prop) (R : Option (AV × Sig) → Prop)
  (step : ∀ d ρ m, P d ρ m → (∀ d' ρ' m', d' < d → P d' ρ' m' → R (go AP F (.c (.loop L) :: ks) ⟨ρ', m'⟩)) → R (go AP F (.c L :: .lp L :: ks) ⟨ρ, m⟩)) :
  ∀ d ρ m, P d ρ m → R (go AP F (.c (.loop L) :: ks) ⟨ρ, m⟩) := by
 intro d
 induction d using Nat.strongRecOn with
 | ind d ih =>
  intro ρ m h
  rw [go_loop]
  exact step d ρ m h fun d' ρ' m' hd h' => ih d' hd ρ' m' h'
end
def parseP : Nat → List Int → List Pk × List Int
 | 0, l => ([], l)
 | n + 1, a :: b :: c :: r => if r.length < c.toNat then ([], a :: b :: c :: r) else
   ((if a = 255 then [] else [⟨a, b, cpS 1 (r.take c.toNat)⟩]) ++ (parseP n (r.drop c.toNat)).1, (parseP n (r.drop c.toNat)).2)
 | _ + 1, l => ([], l)
abbrev anI (l : List Int) : AV := .slice .any 1 (l.map rowI)
theorem sl_mid {xs : List (List AV)} {lo hi : Nat} (h1 : lo ≤ hi) (h2 : hi ≤ xs.length) : sliceOp (.sl 1) (.slice .any 1 xs) (some (I (lo : Int))) (some (I (hi : Int))) none = some (.slice .any 1 ((xs.take hi).drop lo)) := by
 have a1 : asNat (I (hi : Int)) xs.length = some hi := by
  have : (0 : Int) ≤ (hi : Int) ∧ (hi : Int) ≤ (xs.length : Int) := by omega
  simp only [asNat, this, and_self, if_true, Int.toNat_natCast]
 have a2 : asNat (I (lo : Int)) hi = some lo := by
  have : (0 : Int) ≤ (lo : Int) ∧ (lo : Int) ≤ (hi : Int) := by omega
  simp only [asNat, this, and_self, if_true, Int.toNat_natCast]
 simp only [sliceOp, mxOf, hiOf, loOf, or_true, if_true, a1, a2, Option.bind_some, Option.map_some, Option.isSome_none, Bool.false_eq_true, if_false, slOwn, sliceOwn]
theorem sl_from {xs : List (List AV)} {lo : Nat} (h1 : lo ≤ xs.length) : sliceOp (.sl 1) (.slice .any 1 xs) (some (I (lo : Int))) none none = some (.slice .any 1 (xs.drop lo)) := by
 have a2 : asNat (I (lo : Int)) xs.length = some lo := by
  have : (0 : Int) ≤ (lo : Int) ∧ (lo : Int) ≤ (xs.length : Int) := by omega
  simp only [asNat, this, and_self, if_true, Int.toNat_natCast]
 simp only [sliceOp, mxOf, hiOf, loOf, or_true, if_true, a2, Option.bind_some, Option.map_some, Option.isSome_none, Bool.false_eq_true, if_false, slOwn, sliceOwn, List.take_length]
theorem slot_last {bx : List (List AV)} {tk : List (Option Nat)} {z : AV} {r : List AV} : slotL (bx ++ [[]]) tk 1 (z :: r) = some (bx.length, bx ++ [z :: r]) := by
 have h1 : (bx ++ [([] : List AV)]).length - 1 = bx.length := by simp
 unfold slotL
 simp [h1]
theorem z_Clone_any {s : Sig} {l : List Int} (hl : l.length ≤ 100000) : callL AP (.fn 28) [anI l] s = some ((cpS 1 l).v rowI, s) := by
 obtain ⟨x', t', h1, h2⟩ := copy_sl (s := s) (f := rowI) (r := ⟨[], []⟩) (x := ⟨.any, 1, l⟩) (es := 1) (.inr rfl) (by simp only; omega)
 have h3 := h2 (s.push ⟨[], t'⟩)
 have h4 : eqOp .slice (anI l) (.slice .nilS 0 []) = some false := rfl
 simp only [Sl.v, anI] at h1 h3 h4 ⊢
 generalize List.map rowI l = Z at h1 h4 ⊢
 rw [callL_go (show AP 28 = some c_z_Clone_int from rfl) rfl]
 simp (maxSteps := 1000000) only [go_sem, b_z_Clone_int, h1, h3, h4, Nat.reduceEqDiff, reduceCtorEq, ↓reduceIte]
section
variable {X : Rec → Sig} {d : Nat} {b : Nat}
theorem read_loop {bx : List (List AV)} {O : List Pk} {Q : List Int} (h : Mid X d) (hok : ∀ r, Ok (X r)) (hb : b < bx.length) :
  ∀ (n : Nat) ρ m, (∃ (l : List Int) (out : List Pk) (x : AV) (og : Option Nat) (tk : List (Option Nat)) (q : Rec), l.length < n ∧ l.length ≤ 10000 ∧ ByteL l ∧ ρ 0 = .ptr d b 0 ∧ m = (X ⟨bx.set b [B true, anI l, x], tk⟩).push q ∧ Acc d 3 (out.map rowPk) x og tk ∧ out.length + l.length ≤ 100000 ∧ out ++ (parseP n l).1 = O ∧ (parseP n l).2 = Q) →
   ∃ x og tk, go AP f_frame_reader_read (.c (.loop b_frame_reader_read_l0) :: k_frame_reader_read_0) ⟨ρ, m⟩ = some (.tuple [], X ⟨bx.set b [B true, anI Q, x], tk⟩) ∧ Acc d 3 (O.map rowPk) x og tk := by
 refine loop_decx _ (fun v => ∃ x og tk, v = some (.tuple [], X ⟨bx.set b [B true, anI Q, x], tk⟩) ∧ Acc d 3 (O.map rowPk) x og tk) ?_
 rintro n ρ m ⟨l, out, x, og, tk, q, hln, hl2, hbl, g0, rfl, hA, hol, hO, hQ⟩ ih
 have hrow : (bx.set b [B true, anI l, x])[b]? = some [B true, anI l, x] := by simp [hb]
 have k0 : ∀ q, ((X ⟨bx.set b [B true, anI l, x], tk⟩).push q).box d b = some [B true, anI l, x] := fun q => by rw [h.box]; exact hrow
 have hdlt := h.lt ⟨bx.set b [B true, anI l, x], tk⟩
 have hlr : ∀ q (g : Bool) n b' off, loadrOp ((X ⟨bx.set b [B true, anI l, x], tk⟩).push q) 1 g n (.ptr d b' off) = ((X ⟨bx.set b [B true, anI l, x], tk⟩).push q).load g n (.ptr d b' off) := fun q g n b' off => by
  unfold loadrOp
  have : ¬ d = (X ⟨bx.set b [B true, anI l, x], tk⟩).acts.length := by omega
  simp only [cur_push, this, false_and, if_false]
 obtain ⟨n, rfl⟩ : ∃ n', n = n' + 1 := ⟨n - 1, by omega⟩
 by_cases h3 : l.length < 3
 ·have hp : parseP (n + 1) l = ([], l) := by
   match l, h3 with
   | [], _ => rfl
   | [_], _ => rfl
   | [_, _], _ => rfl
   | _ :: _ :: _ :: _, h => simp at h; omega
  have d1 : decide ((3 : Int) ≤ (l.length : Int)) = false := decide_eq_false (by omega)
  rw [hp] at hO hQ
  simp only [List.append_nil] at hO
  subst hO hQ
  refine ⟨x, og, tk, ?_, hA⟩
  simp (maxSteps := 1000000) only [go_sem, b_frame_reader_read_l0, g0, k0, d1, Nat.reduceAdd, ↓reduceIte]
 ·obtain ⟨a, b1, c, r, rfl⟩ : ∃ a b1 c r, l = a :: b1 :: c :: r := by
   match l, h3 with
   | a :: b1 :: c :: r, _ => exact ⟨a, b1, c, r, rfl⟩
   | [], h => simp at h
   | [_], h => simp at h
   | [_, _], h => simp at h
  obtain ⟨cn, rfl⟩ : ∃ cn : Nat, c = cn := ⟨c.toNat, by have := (hbl c (by simp)).1; omega⟩
  have hcn : cn ≤ 255 := by have := (hbl (cn : Int) (by simp)).2; omega
  have hlen : (a :: b1 :: (cn : Int) :: r).length = r.length + 3 := rfl
  have d1 : decide ((3 : Int) ≤ ((a :: b1 :: (cn : Int) :: r).length : Int)) = true := decide_eq_true (by omega)
  have i2 : indexAddrOp none 1 (anI (a :: b1 :: (cn : Int) :: r)) (I 2) = some (.eptr [I cn] 0) := ix_map (f := rowI) (o := .any) (es := 1) (k := 2) rfl
  have i0 : indexAddrOp none 1 (anI (a :: b1 :: (cn : Int) :: r)) (I 0) = some (.eptr [I a] 0) := ix_map (f := rowI) (o := .any) (es := 1) (k := 0) rfl
  have i1 : indexAddrOp none 1 (anI (a :: b1 :: (cn : Int) :: r)) (I 1) = some (.eptr [I b1] 0) := ix_map (f := rowI) (o := .any) (es := 1) (k := 1) rfl
  have w1 : IntKind.i64.wrap (3 + (cn : Int)) = ((3 + cn : Nat) : Int) := by rw [wrap_id (by omega) (by omega)]; omega
  have hlo : lenOp false (anI (a :: b1 :: (cn : Int) :: r)) = some (I ((r.length + 3 : Nat) : Int)) := by simp [lenOp, AV.int]; omega
  rw [hlen] at d1 hl2 hln hol
  by_cases hsh : r.length < cn
  ·have hp : parseP (n + 1) (a :: b1 :: (cn : Int) :: r) = ([], a :: b1 :: (cn : Int) :: r) := by
    simp only [parseP, Int.toNat_natCast, hsh, if_true]
   rw [hp] at hO hQ
   simp only [List.append_nil] at hO
   subst hO hQ
   have d2 : decide (((r.length + 3 : Nat) : Int) < ((3 + cn : Nat) : Int)) = true := decide_eq_true (by omega)
   refine ⟨x, og, tk, ?_, hA⟩
   generalize anI (a :: b1 :: (cn : Int) :: r) = V at *
   simp (maxSteps := 1000000) only [go_sem, b_frame_reader_read_l0, g0, k0, hlo, d1, d2, i2, w1, Nat.reduceEqDiff, reduceCtorEq, Nat.reduceAdd, ↓reduceIte]
  ·have d2 : decide (((r.length + 3 : Nat) : Int) < ((3 + cn : Nat) : Int)) = false := decide_eq_false (by omega)
   have hp1 : (parseP (n + 1) (a :: b1 :: (cn : Int) :: r)).1 = (if a = 255 then [] else [⟨a, b1, cpS 1 (r.take cn)⟩]) ++ (parseP n (r.drop cn)).1 := by
    simp only [parseP, Int.toNat_natCast, hsh, if_false]
   have hp2 : (parseP (n + 1) (a :: b1 :: (cn : Int) :: r)).2 = (parseP n (r.drop cn)).2 := by
    simp only [parseP, Int.toNat_natCast, hsh, if_false]
   rw [hp1, ← List.append_assoc] at hO
   rw [hp2] at hQ
   have s1 : sliceOp (.sl 1) (anI (a :: b1 :: (cn : Int) :: r)) (some (I 3)) (some (I ((3 + cn : Nat) : Int))) none = some (anI (r.take cn)) := by
    have := sl_mid (xs := (a :: b1 :: (cn : Int) :: r).map rowI) (lo := 3) (hi := 3 + cn) (by omega) (by simp; omega)
    refine this.trans ?_
    rw [← List.map_take, ← List.map_drop, show 3 + cn = cn + 1 + 1 + 1 by omega]
    rfl
   have s2 : sliceOp (.sl 1) (anI (a :: b1 :: (cn : Int) :: r)) (some (I ((3 + cn : Nat) : Int))) none none = some (anI (r.drop cn)) := by
    have := sl_from (xs := (a :: b1 :: (cn : Int) :: r).map rowI) (lo := 3 + cn) (by simp; omega)
    refine this.trans ?_
    rw [← List.map_drop, show 3 + cn = cn + 1 + 1 + 1 by omega]
    rfl
   have hfc : ∀ q2 : Rec, fcallOp (callL AP) true ((X ⟨bx.set b [B true, anI (a :: b1 :: (cn : Int) :: r), x], tk⟩).push ⟨q2.boxes ++ [[]], q2.toks⟩) [[I 0, I 0, .slice .nilS 0 []]] (.fn 28) [anI (r.take cn)] = some ((cpS 1 (r.take cn)).v rowI, (X ⟨bx.set b [B true, anI (a :: b1 :: (cn : Int) :: r), x], tk⟩).push ⟨q2.boxes ++ [[]], q2.toks⟩) := fun q2 => fc_keep ((hok _).push _) (fun m _ => z_Clone_any (by simp; omega)) (by rw [tail_push]; simp [fills])
   have hcl : ∀ z, closeAll [I a, I b1, z] = (closeAll [z]).map (fun t => I a :: I b1 :: t) := fun z => by
    simp only [closeAll_cons, closeAll_nil, close_int, Option.bind_some, Option.map_some]
    cases z.close <;> rfl
   have hcp : closeAll [(cpS 1 (r.take cn)).v rowI] = some [(cpS 1 (r.take cn)).v rowI] := by
    simp only [closeAll_cons, closeAll_nil, Sl.close (f := rowI) (cpS_ok (es := 1) (l := r.take cn))]; rfl
   have hcl1 : closeAll [I a, I b1, (cpS 1 (r.take cn)).v rowI] = some [I a, I b1, (cpS 1 (r.take cn)).v rowI] := by rw [hcl, hcp]; rfl
   have hbr : ByteL (r.drop cn) := fun z hz => hbl z (by simp [List.mem_of_mem_drop hz])
   have hst : ∀ (x : AV) (tk : List (Option Nat)) (q : Rec), ((X ⟨bx.set b [B true, anI (a :: b1 :: (cn : Int) :: r), x], tk⟩).push q).store 1 (.ptr d b 1) (anI (r.drop cn)) = some ((X ⟨bx.set b [B true, anI (r.drop cn), x], tk⟩).push q) := fun x tk q => by
    have := h.store (r := ⟨bx.set b [B true, anI (a :: b1 :: (cn : Int) :: r), x], tk⟩) (r0 := q) (b := b) (off := 1) (n := 1) (y := anI (r.drop cn)) rfl rfl (row := [B true, anI (a :: b1 :: (cn : Int) :: r), x]) (row' := [B true, anI (r.drop cn), x]) (by simp [hb]) rfl
    rw [this]; simp
   obtain ⟨bq, tq⟩ := q
   have hfc2 := hfc ⟨bq, tq⟩
   simp only at hfc2
   by_cases ha : a = 255
   ·have d3 : decide (a = 255) = true := decide_eq_true ha
    rw [if_pos ha, List.append_nil] at hO
    have ih2 := fun ρ' q' (g : ρ' 0 = .ptr d b 0) => ih n ρ' ((X ⟨bx.set b [B true, anI (r.drop cn), x], tk⟩).push q') (by omega) ⟨r.drop cn, out, x, og, tk, q', by rw [List.length_drop]; omega, by rw [List.length_drop]; omega, hbr, g, rfl, hA, by rw [List.length_drop]; omega, hO, hQ⟩
    clear ih
    simp only [Sl.v] at hfc2 hcl1
    generalize anI (a :: b1 :: (cn : Int) :: r) = V at *
    simp (maxSteps := 1000000) only [go_sem, b_frame_reader_read_l0, g0, hok, k0, hlr, hlo, d1, d2, d3, i0, i1, i2, w1, s1, s2, rep1, hfc2, slot_last, Nat.add_sub_cancel, hst, decide_not, Bool.not_true, Nat.reduceEqDiff, reduceCtorEq, Nat.reduceAdd, ↓reduceIte, Nat.lt_add_one, ne_eq]
    exact ih2 _ _ g0
   ·have d3 : decide (a = 255) = false := decide_eq_false ha
    rw [if_neg ha] at hO
    obtain ⟨x1, m1, r0', x', og', tk', a1, a2, a3, a4, a5⟩ := Mid.appendAt h (r0 := ⟨bq ++ [[I a, I b1, (cpS 1 (r.take cn)).v rowI]], tq⟩) (r := ⟨bx.set b [B true, anI (a :: b1 :: (cn : Int) :: r), x], tk⟩) (b := b) (off := 2) hA .full (ys := [[I a, I b1, (cpS 1 (r.take cn)).v rowI]]) (by simp) (by simp; omega) (by simp [hb]) hrow (by simp)
    have e2 : (bx.set b [B true, anI (a :: b1 :: (cn : Int) :: r), x]).set b ([B true, anI (a :: b1 :: (cn : Int) :: r), x].set 2 x') = bx.set b [B true, anI (a :: b1 :: (cn : Int) :: r), x'] := by simp
    simp only [e2] at a2
    have k1 : ∀ q, ((X ⟨bx.set b [B true, anI (a :: b1 :: (cn : Int) :: r), x'], tk'⟩).push q).box d b = some [B true, anI (a :: b1 :: (cn : Int) :: r), x'] := fun q => by rw [h.box]; simp [hb]
    have ih2 := fun ρ' q' (g : ρ' 0 = .ptr d b 0) => ih n ρ' ((X ⟨bx.set b [B true, anI (r.drop cn), x'], tk'⟩).push q') (by omega) ⟨r.drop cn, out ++ [⟨a, b1, cpS 1 (r.take cn)⟩], x', og', tk', q', by rw [List.length_drop]; omega, by rw [List.length_drop]; omega, hbr, g, rfl, by rw [List.map_append]; exact a4, by rw [List.length_append, List.length_singleton, List.length_drop]; omega, hO, hQ⟩
    clear ih
    simp only [Sl.v] at hfc2 hcl1 a1
    generalize anI (a :: b1 :: (cn : Int) :: r) = V at *
    simp (maxSteps := 1000000) only [go_sem, b_frame_reader_read_l0, g0, hok, k0, k1, hlr, hlo, d1, d2, d3, i0, i1, i2, w1, s1, s2, rep1, hfc2, slot_last, Nat.add_sub_cancel, hcl1, hst, a1, a2, decide_not, Bool.not_false, Nat.reduceEqDiff, reduceCtorEq, Nat.reduceAdd, ↓reduceIte, Nat.lt_add_one, ne_eq]
    exact ih2 _ _ g0
end
end Go.Ax.Sx.Ck

namespace Go.Ax.Sx.Ck
open Go.Ax
set_option linter.unusedSimpArgs false
set_option linter.unusedVariables false
set_option maxRecDepth 100000
def readS (op : Bool) (part : List Int) (f : Fm) (fol : Bool) : Bool × List Int × List Pk :=
 if op = true ∧ fol = true ∧ f.first = expE part f.data.l then (true, (parseP 20000 (part ++ f.data.l)).2, (parseP 20000 (part ++ f.data.l)).1)
 else if f.first = 255 then (false, [], [])
 else (true, (parseP 20000 (f.data.l.drop f.first.toNat)).2, (parseP 20000 (f.data.l.drop f.first.toNat)).1)
theorem sl_fromS {x : Sl Int} {lo : Nat} (hx : x.ok 1) (hne : x.l ≠ []) (h1 : lo ≤ x.l.length) : sliceOp (.sl 1) (x.v rowI) (some (I (lo : Int))) none none = some (anI (x.l.drop lo)) ∨ sliceOp (.sl 1) (x.v rowI) (some (I (lo : Int))) none none = some (.slice .any 1 ((x.l.map rowI).drop lo)) := by
 obtain ⟨o, e, l⟩ := x
 have he : e = 1 := by rcases hx.1 with h | h; (exact absurd h hne); exact h
 subst he
 have a2 : asNat (I (lo : Int)) (l.map rowI).length = some lo := by
  have : (0 : Int) ≤ (lo : Int) ∧ (lo : Int) ≤ ((l.map rowI).length : Int) := by rw [List.length_map]; simp only at h1; omega
  simp only [asNat, this, and_self, if_true, Int.toNat_natCast]
 right
 rcases hx.2 with h | h | h
 ·simp only at h; subst h
  simp only [sliceOp, mxOf, hiOf, loOf, or_true, if_true, a2, Option.bind_some, Option.map_some, Option.isSome_none, Bool.false_eq_true, if_false, slOwn, sliceOwn, List.take_length]
 ·simp only at h; subst h
  simp only [sliceOp, mxOf, hiOf, loOf, or_true, if_true, a2, Option.bind_some, Option.map_some, Option.isSome_none, Bool.false_eq_true, if_false, slOwn, sliceOwn, List.take_length]
 ·exact absurd h.2 hne
section
variable {X : Rec → Sig} {d : Nat} {b : Nat}
theorem frame_reader_read {bx : List (List AV)} {tk : List (Option Nat)} {op fol : Bool} {pa : Sl Int} {x : AV} {og : Option Nat} {out : List Pk} {f : Fm} {L C : Int} (h : Mid X d) (hok : ∀ r, Ok (X r)) (hb : b < bx.length) (hpa : pa.ok 1) (hop : op = false → pa.l = []) (hpb : ByteL pa.l) (hpl : pa.l.length ≤ 5000)
  (hA : Acc d 3 (out.map rowPk) x og tk) (hol : out.length ≤ 50000) (hru : RuOk L C) (hf : f.Ok L C) :
  ∃ pa' : Sl Int, ∃ x' og' tk', callL AP (.fn 34) [.ptr d b 0, .agg (rowFm f), B fol] (X ⟨bx.set b [B op, pa.v rowI, x], tk⟩) = some (.tuple [], X ⟨bx.set b [B (readS op pa.l f fol).1, pa'.v rowI, x'], tk'⟩) ∧ pa'.ok 1 ∧ pa'.l = (readS op pa.l f fol).2.1 ∧ Acc d 3 ((out ++ (readS op pa.l f fol).2.2).map rowPk) x' og' tk' := by
 have hfl : 4 ≤ f.data.l.length ∧ f.data.l.length ≤ 24 := by have := hf.len; have := hru.l0; have := hru.l1; omega
 have hdne : f.data.l ≠ [] := by intro e; rw [e] at hfl; simp at hfl
 have k0 : ∀ o1 p1 q, ((X ⟨bx.set b [o1, p1, x], tk⟩).push q).box d b = some [o1, p1, x] := fun o1 p1 q => by rw [h.box]; simp [hb]
 obtain ⟨N, hN⟩ : ∃ N, ∀ r, (X r).acts.length = N := ⟨(X ⟨[], []⟩).acts.length, fun r => by
  have := h.on ⟨[], []⟩ (fun _ => r)
  have h2 : ((X ⟨[], []⟩).onRec d fun _ => r).acts.length = (X ⟨[], []⟩).acts.length := by simp [Sig.onRec]
  rw [this] at h2
  exact h2⟩
 have hne : (d == N) = false := by have := h.lt ⟨[], []⟩; rw [hN] at this; simp; omega
 have hBN : ∀ r q b', ((X r).push q).box N b' = q.boxes[b']? := fun r q b' => by rw [← hN r]; exact box_push _ _ _
 have hclose : callL AP (.fn 61) [.ptr d b 0] ((X ⟨bx.set b [B op, pa.v rowI, x], tk⟩).push ⟨[rowFm f], []⟩) = some (.tuple [], (X ⟨bx.set b [B false, .slice .nilS 0 [], x], tk⟩).push ⟨[rowFm f], []⟩) := by
  have hM2 : Mid (fun r => (X r).push ⟨[rowFm f], []⟩) d := ⟨fun r => by
   have := h.lt r
   simp only [Sig.push]
   rw [List.getElem?_append_left this]; exact h.get r, fun r g => h.onPush g, fun r => h.ro r⟩
  have := frame_reader_close (r := ⟨bx.set b [B op, pa.v rowI, x], tk⟩) (op := op) (pa := pa.v rowI) (ou := x) (b := b) hM2 (fun r => (hok r).push _) (by simp [hb])
  rw [this]; simp
 have stT : ∀ p1 q, ((X ⟨bx.set b [B false, p1, x], tk⟩).push q).store 1 (.ptr d b 0) (.v (.bool true)) = some ((X ⟨bx.set b [B true, p1, x], tk⟩).push q) := fun p1 q => by
  have := h.store (r := ⟨bx.set b [B false, p1, x], tk⟩) (r0 := q) (b := b) (off := 0) (n := 1) (y := .v (.bool true)) rfl rfl (row := [B false, p1, x]) (row' := [B true, p1, x]) (by simp [hb]) rfl
  rw [this]; simp
 have stP : ∀ p1 (l : List Int) q, ((X ⟨bx.set b [B true, p1, x], tk⟩).push q).store 1 (.ptr d b 1) (anI l) = some ((X ⟨bx.set b [B true, anI l, x], tk⟩).push q) := fun p1 l q => by
  have := h.store (r := ⟨bx.set b [B true, p1, x], tk⟩) (r0 := q) (b := b) (off := 1) (n := 1) (y := anI l) rfl rfl (row := [B true, p1, x]) (row' := [B true, anI l, x]) (by simp [hb]) rfl
  rw [this]; simp
 have fin : ∀ (total : List Int) ρ m, (ByteL total ∧ total.length ≤ 10000 ∧ ρ 0 = .ptr d b 0 ∧ ∃ q, m = (X ⟨bx.set b [B true, anI total, x], tk⟩).push q) →
   ∃ pa' : Sl Int, ∃ x' og' tk', go AP f_frame_reader_read (.c (.loop b_frame_reader_read_l0) :: k_frame_reader_read_0) ⟨ρ, m⟩ = some (.tuple [], X ⟨bx.set b [B true, pa'.v rowI, x'], tk'⟩) ∧ pa'.ok 1 ∧ pa'.l = (parseP 20000 total).2 ∧ Acc d 3 ((out ++ (parseP 20000 total).1).map rowPk) x' og' tk' := by
  rintro total ρ m ⟨t1, t2, t3, q, rfl⟩
  obtain ⟨x', og', tk', e1, e2⟩ := read_loop (bx := bx) (O := out ++ (parseP 20000 total).1) (Q := (parseP 20000 total).2) h hok hb 20000 ρ _ ⟨total, out, x, og, tk, q, by omega, t2, t1, t3, rfl, hA, by omega, rfl, rfl⟩
  exact ⟨⟨.any, 1, (parseP 20000 total).2⟩, x', og', tk', e1, ⟨.inr rfl, .inl rfl⟩, rfl, e2⟩
 have hexp : ∀ q, callL AP (.fn 60) [.ptr d b 0, .agg (rowFm f)] (roS ((X ⟨bx.set b [B op, pa.v rowI, x], tk⟩).push q)) = some (I (expE pa.l f.data.l), roS ((X ⟨bx.set b [B op, pa.v rowI, x], tk⟩).push q)) := fun q => frame_reader_expected (op := op) (ou := x) ok_roS (fun q2 => box_keep (by rw [roS_box]; exact k0 _ _ q) q2) hpa (by omega) hf.data (by omega) (by omega) hpb hf.bytes
 have hcat : ∀ (p1 p2 : Sl Int), p1.ok 1 → p2.ok 1 → 0 < p2.l.length → p1.l.length ≤ 5000 → p2.l.length ≤ 5000 → ∀ m, Ok m → callL AP (.fn 62) [.slice .full 1 [[p1.v rowI], [p2.v rowI]]] m = some (anI (p1.l ++ p2.l), m) := fun p1 p2 o1 o2 l0 l1 l2 m hm => by
  have e : catL [p1, p2] = p1.l ++ p2.l := by simp [catL]
  have := z_Concat_int (s := m) (xs := [p1, p2]) hm (by simp [o1, o2]) (by simp) (by rw [e, List.length_append]; omega) (by rw [e, List.length_append]; omega)
  rw [e] at this
  exact this
 have hcl1 : ∀ (p1 : Sl Int), p1.ok 1 → closeAll [p1.v rowI] = some [p1.v rowI] := fun p1 o1 => by simp only [closeAll_cons, closeAll_nil, Sl.close (f := rowI) o1]; rfl
 have c1 := hcl1 pa hpa
 have c2 := hcl1 f.data hf.data
 have n1 : (⟨.nilS, 0, []⟩ : Sl Int).ok 1 := ⟨.inl rfl, .inr (.inr ⟨rfl, rfl⟩)⟩
 have c3 : closeAll [AV.slice .nilS 0 []] = some [AV.slice .nilS 0 []] := rfl
 have c4 : ∀ l, closeAll [anI l] = some [anI l] := fun l => rfl
 have hdrop : ByteL (f.data.l.drop f.first.toNat) := fun z hz => hf.bytes z (List.mem_of_mem_drop hz)
 have hmx : ∀ r, Ok (X r) := hok
 cases op with
 | false =>
  have hrs : f.first = 255 → readS false pa.l f fol = (false, [], []) := fun q => by unfold readS; rw [if_neg (by simp), if_pos q]
  have hrt : ¬ f.first = 255 → readS false pa.l f fol = (true, (parseP 20000 (f.data.l.drop f.first.toNat)).2, (parseP 20000 (f.data.l.drop f.first.toNat)).1) := fun q => by unfold readS; rw [if_neg (by simp), if_neg q]
  by_cases h255 : f.first = 255
  ·have d5 : decide (f.first = 255) = true := decide_eq_true h255
   rw [hrs h255]
   simp only [Sl.v, rowFm] at c1 c2 hclose hexp ⊢
   refine ⟨pa, x, og, tk, ?_, hpa, hop rfl, by rw [List.append_nil]; exact hA⟩
   rw [callL_go (show AP 34 = some c_frame_reader_read from rfl) rfl]
   simp (maxSteps := 1000000) only [go_sem, b_frame_reader_read, k0, hN, hBN, d5, Nat.reduceEqDiff, reduceCtorEq, Nat.reduceAdd, ↓reduceIte]
  ·have d5 : decide (f.first = 255) = false := decide_eq_false h255
   rw [hrt h255]
   obtain ⟨fn, hfn⟩ : ∃ fn : Nat, f.first = fn := ⟨f.first.toNat, by rcases hf.first with q | q; omega; exact absurd q h255⟩
   have hfl2 : fn < f.data.l.length := by have := hf.len; rcases hf.first with q | q; omega; exact absurd q h255
   have s1 : sliceOp (.sl 1) (f.data.v rowI) (some (I f.first)) none none = some (anI (f.data.l.drop f.first.toNat)) := by
    rw [hfn]
    rcases sl_fromS (lo := fn) hf.data hdne (by omega) with q | q
    ·exact q
    ·rw [q, ← List.map_drop]; rfl
   have hcc := hcat pa ⟨.any, 1, f.data.l.drop f.first.toNat⟩ hpa ⟨.inr rfl, .inl rfl⟩ (by simp only [List.length_drop, hfn]; omega) (by omega) (by simp only [List.length_drop]; omega)
   simp only [hop rfl, List.nil_append] at hcc
   simp only [Sl.v, rowFm] at c1 c2 hclose hexp hcc s1 ⊢
   rw [callL_go (show AP 34 = some c_frame_reader_read from rfl) rfl]
   simp (maxSteps := 1000000) only [go_sem, b_frame_reader_read, hmx, k0, hN, hBN, hne, d5, c1, c4, Option.getD_some, Bool.true_or, Bool.or_true, Bool.true_and, s1, stT, stP, hcc, Bool.false_and, Bool.not_false, Nat.reduceEqDiff, reduceCtorEq, Nat.reduceAdd, ↓reduceIte, Nat.reduceLeDiff]
   exact fin _ _ _ ⟨hdrop, by rw [List.length_drop]; omega, rfl, _, rfl⟩
 | true =>
  cases fol with
  | false =>
    have hrs : f.first = 255 → readS true pa.l f false = (false, [], []) := fun q => by unfold readS; rw [if_neg (by simp), if_pos q]
    have hrt : ¬ f.first = 255 → readS true pa.l f false = (true, (parseP 20000 (f.data.l.drop f.first.toNat)).2, (parseP 20000 (f.data.l.drop f.first.toNat)).1) := fun q => by unfold readS; rw [if_neg (by simp), if_neg q]
    by_cases h255 : f.first = 255
    ·have d5 : decide (f.first = 255) = true := decide_eq_true h255
     rw [hrs h255]
     simp only [Sl.v, rowFm] at c1 c2 hclose hexp ⊢
     refine ⟨⟨.nilS, 0, []⟩, x, og, tk, ?_, n1, rfl, by rw [List.append_nil]; exact hA⟩
     rw [callL_go (show AP 34 = some c_frame_reader_read from rfl) rfl]
     simp (maxSteps := 1000000) only [go_sem, b_frame_reader_read, k0, hN, hBN, hclose, d5, Nat.reduceEqDiff, reduceCtorEq, Nat.reduceAdd, ↓reduceIte]
    ·have d5 : decide (f.first = 255) = false := decide_eq_false h255
     rw [hrt h255]
     obtain ⟨fn, hfn⟩ : ∃ fn : Nat, f.first = fn := ⟨f.first.toNat, by rcases hf.first with q | q; omega; exact absurd q h255⟩
     have hfl2 : fn < f.data.l.length := by have := hf.len; rcases hf.first with q | q; omega; exact absurd q h255
     have s1 : sliceOp (.sl 1) (f.data.v rowI) (some (I f.first)) none none = some (anI (f.data.l.drop f.first.toNat)) := by
      rw [hfn]
      rcases sl_fromS (lo := fn) hf.data hdne (by omega) with q | q
      ·exact q
      ·rw [q, ← List.map_drop]; rfl
     have hcc := hcat ⟨.nilS, 0, []⟩ ⟨.any, 1, f.data.l.drop f.first.toNat⟩ n1 ⟨.inr rfl, .inl rfl⟩ (by simp only [List.length_drop, hfn]; omega) (by simp) (by simp only [List.length_drop]; omega)
     simp only [List.nil_append, Sl.v, List.map_nil] at hcc
     simp only [Sl.v, rowFm] at c1 c2 hclose hexp hcc s1 ⊢
     rw [callL_go (show AP 34 = some c_frame_reader_read from rfl) rfl]
     simp (maxSteps := 1000000) only [go_sem, b_frame_reader_read, hmx, k0, hN, hBN, hne, hclose, d5, c3, c4, Option.getD_some, Bool.true_or, Bool.or_true, Bool.true_and, s1, stT, stP, hcc, Bool.false_and, Bool.not_false, Nat.reduceEqDiff, reduceCtorEq, Nat.reduceAdd, ↓reduceIte, Nat.reduceLeDiff]
     exact fin _ _ _ ⟨hdrop, by rw [List.length_drop]; omega, rfl, _, rfl⟩
  | true =>
   by_cases hex : f.first = expE pa.l f.data.l
   ·have d6 : decide (f.first = expE pa.l f.data.l) = true := decide_eq_true hex
    have hrd : readS true pa.l f true = (true, (parseP 20000 (pa.l ++ f.data.l)).2, (parseP 20000 (pa.l ++ f.data.l)).1) := by unfold readS; rw [if_pos ⟨rfl, rfl, hex⟩]
    rw [hrd]
    have hcc := hcat pa f.data hpa hf.data (by omega) (by omega) (by omega)
    have hba : ByteL (pa.l ++ f.data.l) := fun z hz => by
     rcases List.mem_append.1 hz with q | q
     ·exact hpb z q
     ·exact hf.bytes z q
    have hla : (pa.l ++ f.data.l).length ≤ 10000 := by rw [List.length_append]; omega
    simp only [Sl.v, rowFm] at c1 c2 hexp hcc ⊢
    rw [callL_go (show AP 34 = some c_frame_reader_read from rfl) rfl]
    simp (maxSteps := 1000000) only [go_sem, b_frame_reader_read, hmx, k0, hN, hBN, d6, decide_not, Bool.not_true, c1, c2, hexp, stP, hcc, Nat.reduceEqDiff, reduceCtorEq, Nat.reduceAdd, ↓reduceIte, ne_eq]
    exact fin _ _ _ ⟨hba, hla, rfl, _, rfl⟩
   ·have d6 : decide (f.first = expE pa.l f.data.l) = false := decide_eq_false hex
    have hrs : f.first = 255 → readS true pa.l f true = (false, [], []) := fun q => by unfold readS; rw [if_neg (by simp [hex]), if_pos q]
    have hrt : ¬ f.first = 255 → readS true pa.l f true = (true, (parseP 20000 (f.data.l.drop f.first.toNat)).2, (parseP 20000 (f.data.l.drop f.first.toNat)).1) := fun q => by unfold readS; rw [if_neg (by simp [hex]), if_neg q]
    by_cases h255 : f.first = 255
    ·have d5 : decide (f.first = 255) = true := decide_eq_true h255
     rw [hrs h255]
     simp only [Sl.v, rowFm] at c1 c2 hclose hexp ⊢
     refine ⟨⟨.nilS, 0, []⟩, x, og, tk, ?_, n1, rfl, by rw [List.append_nil]; exact hA⟩
     rw [callL_go (show AP 34 = some c_frame_reader_read from rfl) rfl]
     simp (maxSteps := 1000000) only [go_sem, b_frame_reader_read, k0, hN, hBN, hclose, d6, decide_not, Bool.not_false, d5, hexp, Nat.reduceEqDiff, reduceCtorEq, Nat.reduceAdd, ↓reduceIte, ne_eq]
    ·have d5 : decide (f.first = 255) = false := decide_eq_false h255
     rw [hrt h255]
     obtain ⟨fn, hfn⟩ : ∃ fn : Nat, f.first = fn := ⟨f.first.toNat, by rcases hf.first with q | q; omega; exact absurd q h255⟩
     have hfl2 : fn < f.data.l.length := by have := hf.len; rcases hf.first with q | q; omega; exact absurd q h255
     have s1 : sliceOp (.sl 1) (f.data.v rowI) (some (I f.first)) none none = some (anI (f.data.l.drop f.first.toNat)) := by
      rw [hfn]
      rcases sl_fromS (lo := fn) hf.data hdne (by omega) with q | q
      ·exact q
      ·rw [q, ← List.map_drop]; rfl
     have hcc := hcat ⟨.nilS, 0, []⟩ ⟨.any, 1, f.data.l.drop f.first.toNat⟩ n1 ⟨.inr rfl, .inl rfl⟩ (by simp only [List.length_drop, hfn]; omega) (by simp) (by simp only [List.length_drop]; omega)
     simp only [List.nil_append, Sl.v, List.map_nil] at hcc
     simp only [Sl.v, rowFm] at c1 c2 hclose hexp hcc s1 ⊢
     rw [callL_go (show AP 34 = some c_frame_reader_read from rfl) rfl]
     simp (maxSteps := 1000000) only [go_sem, b_frame_reader_read, hmx, k0, hN, hBN, hne, hclose, d6, decide_not, Bool.not_false, d5, c3, c4, hexp, Option.getD_some, Bool.true_or, Bool.or_true, Bool.not_true, Bool.true_and, s1, stT, stP, hcc, Bool.false_and, Bool.not_false, Nat.reduceEqDiff, reduceCtorEq, Nat.reduceAdd, ↓reduceIte, Nat.reduceLeDiff, ne_eq]
     exact fin _ _ _ ⟨hdrop, by rw [List.length_drop]; omega, rfl, _, rfl⟩
end
end Go.Ax.Sx.Ck

namespace Go.Ax.Sx.Ck
open Go.Ax
set_option linter.unusedSimpArgs false
set_option linter.unusedVariables false
set_option maxRecDepth 100000
abbrev rowNb (f : Fm) : List AV := [I f.ch, I f.cnt, I f.first, f.data.v rowI, I (f.cnt + 64)]
def Asc (l : List Fm) : Prop := ∀ (i : Nat) (a b : Fm), l[i]? = some a → l[i + 1]? = some b → a.cnt < b.cnt
section
variable {s : Sig}
theorem cmp_Compare_int {a b : Int} : callL AP (.fn 57) [I a, I b] s = some (I (if a < b then -1 else if b < a then 1 else 0), s) := by
 rw [callL_go (show AP 57 = some c_cmp_Compare_int from rfl) rfl]
 by_cases h1 : a < b
 ·have d1 : decide (a < b) = true := decide_eq_true h1
  rw [if_pos h1]
  simp (maxSteps := 1000000) only [go_sem, b_cmp_Compare_int, cmp_isNaN_int, d1, Nat.reduceEqDiff, reduceCtorEq, Int.reduceNeg, ↓reduceIte]
 ·have d1 : decide (a < b) = false := decide_eq_false h1
  rw [if_neg h1]
  by_cases h2 : b < a
  ·have d2 : decide (b < a) = true := decide_eq_true h2
   rw [if_pos h2]
   simp (maxSteps := 1000000) only [go_sem, b_cmp_Compare_int, cmp_isNaN_int, d1, d2, Nat.reduceEqDiff, reduceCtorEq, Int.reduceNeg, ↓reduceIte]
  ·have d2 : decide (b < a) = false := decide_eq_false h2
   rw [if_neg h2]
   simp (maxSteps := 1000000) only [go_sem, b_cmp_Compare_int, cmp_isNaN_int, d1, d2, Nat.reduceEqDiff, reduceCtorEq, Int.reduceNeg, ↓reduceIte]
theorem frame_ordered_1 {f g : Fm} (hs : Ok s) (h : g.cnt < f.cnt) : callL AP (.fn 56) [.agg (rowNb f), .agg (rowNb g)] s = some (I 1, s) := by
 have h1 : ∀ m, callL AP (.fn 57) [I (f.cnt + 64), I (g.cnt + 64)] m = some (I 1, m) := fun m => by
  rw [cmp_Compare_int, if_neg (by omega), if_pos (by omega)]
 rw [callL_go (show AP 56 = some c_frame_ordered_1 from rfl) rfl]
 simp only [rowNb]
 simp (maxSteps := 1000000) only [go_sem, b_frame_ordered_1, h1, Nat.reduceEqDiff, Nat.reduceAdd, ↓reduceIte]
theorem frame_ordered_2 {f g : Fm} (hs : Ok s) (h : g.cnt < f.cnt) : callL AP (.fn 59) [.agg (rowNb f), .agg (rowNb g)] s = some (B false, s) := by
 have d1 : decide (f.cnt + 64 = g.cnt + 64) = false := decide_eq_false (by omega)
 rw [callL_go (show AP 59 = some c_frame_ordered_2 from rfl) rfl]
 simp only [rowNb]
 simp (maxSteps := 1000000) only [go_sem, b_frame_ordered_2, d1, Nat.reduceEqDiff, Nat.reduceAdd, ↓reduceIte]
theorem z_insertionSort {o : Own} {e : Nat} {l : List Fm} (hs : Ok s) (he : l = [] ∨ e = 5) (hl : l.length ≤ 1000) (ha : Asc l) :
  callL AP (.fn 77) [.slice o e (l.map rowNb), I 0, I l.length, .fn 56 [] []] s = some (.tuple [], s) := by
 have key : ∀ (k : Nat) ρ m, k ≤ l.length - 1 → (ρ 0 = .slice o e (l.map rowNb) ∧ ρ 1 = I 0 ∧ ρ 2 = I l.length ∧ ρ 3 = .fn 56 [] [] ∧ ρ 8 = I ((k + 1 : Nat) : Int) ∧ m = s.push ⟨[], []⟩) →
   go AP f_z_insertionSortCmpFunc_numbered (.c (.loop b_z_insertionSortCmpFunc_numbered_l0) :: k_z_insertionSortCmpFunc_numbered_0) ⟨ρ, m⟩ = some (.tuple [], s) := by
  refine loop_up (l.length - 1) _ (fun _ => some (.tuple [], s)) ?_ ?_
  ·rintro k ρ m hk ⟨g0, g1, g2, g3, g8, rfl⟩ ih
   obtain ⟨a, h1⟩ := get_some (l := l) (k := k) (by omega)
   have he5 : e = 5 := by rcases he with h | h; (rw [h] at h1; simp at h1); exact h
   subst he5
   obtain ⟨b, h2⟩ := get_some (l := l) (k := k + 1) (by omega)
   have hlt := ha k a b h1 h2
   have x1 := ix_map (f := rowNb) (o := o) (es := 5) h1
   have x2 := ix_map (f := rowNb) (o := o) (es := 5) h2
   have d1 : decide (((k + 1 : Nat) : Int) < (l.length : Int)) = true := decide_eq_true (by omega)
   have d2 : decide ((0 : Int) < ((k + 1 : Nat) : Int)) = true := decide_eq_true (by omega)
   have w1 : IntKind.i64.wrap (((k + 1 : Nat) : Int) - 1) = (k : Int) := by rw [wrap_id (by omega) (by omega)]; omega
   have w2 : IntKind.i64.wrap (((k + 1 : Nat) : Int) + 1) = ((k + 1 + 1 : Nat) : Int) := by rw [wrap_id (by omega) (by omega)]; omega
   have hc : ∀ m, Ok m → callL AP (.fn 56) [.agg (rowNb b), .agg (rowNb a)] m = some (I 1, m) := fun m hm => frame_ordered_1 hm hlt
   simp only [rowNb, Sl.v] at x1 x2 hc g0
   simp (maxSteps := 1000000) only [go_sem, b_z_insertionSortCmpFunc_numbered_l0, g2, g8, d1, Nat.reduceEqDiff, ↓reduceIte]
   rw [go_loop]
   simp (maxSteps := 1000000) only [go_sem, b_z_insertionSortCmpFunc_numbered_l1, b_z_insertionSortCmpFunc_numbered_r0, g0, g1, g3, g8, d2, x1, x2, w1, w2, hc, hs, Nat.reduceEqDiff, reduceCtorEq, Int.reduceLT, ↓reduceIte]
   exact ih _ _ ⟨g0, g1, g2, g3, rfl, rfl⟩
  ·rintro ρ m ⟨g0, g1, g2, g3, g8, rfl⟩
   have d1 : decide (((l.length - 1 + 1 : Nat) : Int) < (l.length : Int)) = false := decide_eq_false (by omega)
   simp (maxSteps := 1000000) only [go_sem, b_z_insertionSortCmpFunc_numbered_l0, g2, g8, d1, Nat.reduceEqDiff, ↓reduceIte]
 rw [callL_go (show AP 77 = some c_z_insertionSortCmpFunc_numbered from rfl) rfl]
 simp (maxSteps := 1000000) only [go_sem, b_z_insertionSortCmpFunc_numbered, Int.reduceLT, Int.reduceLE, Int.reduceAdd, Int.reduceNeg, ↓reduceIte]
 exact key 0 _ _ (Nat.zero_le _) ⟨rfl, rfl, rfl, rfl, rfl, rfl⟩
theorem z_stable {o : Own} {e : Nat} {l : List Fm} (hs : Ok s) (he : l = [] ∨ e = 5) (hl : l.length ≤ 19) (ha : Asc l) :
  callL AP (.fn 72) [.slice o e (l.map rowNb), I l.length, .fn 56 [] []] s = some (.tuple [], s) := by
 have hc : ∀ r, callL AP (.fn 77) [.slice o e (l.map rowNb), I 0, I l.length, .fn 56 [] []] (s.push r) = some (.tuple [], s.push r) := fun r => z_insertionSort (hs.push r) he (by omega) ha
 have d1 : decide ((20 : Int) ≤ (l.length : Int)) = false := decide_eq_false (by omega)
 have d2 : decide ((20 : Int) < (l.length : Int)) = false := decide_eq_false (by omega)
 rw [callL_go (show AP 72 = some c_z_stableCmpFunc_numbered from rfl) rfl]
 simp (maxSteps := 1000000) only [go_sem, b_z_stableCmpFunc_numbered, Nat.reduceEqDiff, ↓reduceIte]
 rw [go_loop]
 simp (maxSteps := 1000000) only [go_sem, b_z_stableCmpFunc_numbered_l2, b_z_stableCmpFunc_numbered_r1, d1, hc, Nat.reduceEqDiff, reduceCtorEq, ↓reduceIte]
 rw [go_loop]
 simp (maxSteps := 1000000) only [go_sem, b_z_stableCmpFunc_numbered_l0, d2, Nat.reduceEqDiff, ↓reduceIte]
theorem z_SortStable {o : Own} {e : Nat} {l : List Fm} (hs : Ok s) (he : l = [] ∨ e = 5) (hl : l.length ≤ 19) (ha : Asc l) :
  callL AP (.fn 55) [.slice o e (l.map rowNb), .fn 56 [] []] s = some (.tuple [], s) := by
 have hc : ∀ r, callL AP (.fn 72) [.slice o e (l.map rowNb), I l.length, .fn 56 [] []] (s.push r) = some (.tuple [], s.push r) := fun r => z_stable (hs.push r) he hl ha
 rw [callL_go (show AP 55 = some c_z_SortStableFunc_numbered from rfl) rfl]
 simp (maxSteps := 1000000) only [go_sem, b_z_SortStableFunc_numbered, hc, Nat.reduceEqDiff, reduceCtorEq, ↓reduceIte]
theorem z_Compact {o : Own} {e : Nat} {l : List Fm} {v : AV} (hs : Ok s) (he : l = [] ∨ e = 5) (hl : l.length ≤ 1000) (ha : Asc l) (hlv : ∀ m, leaveVal m (.slice o e (l.map rowNb)) = some v) :
  callL AP (.fn 58) [.slice o e (l.map rowNb), .fn 59 [] []] s = some (v, s) := by
 have key : ∀ (k : Nat) ρ m, k ≤ l.length - 1 → (ρ 0 = .slice o e (l.map rowNb) ∧ ρ 1 = .fn 59 [] [] ∧ ρ 5 = I ((k + 1 : Nat) : Int) ∧ m = s.push ⟨[], []⟩) →
   go AP f_z_CompactFunc_numbered (.c (.loop b_z_CompactFunc_numbered_l0) :: k_z_CompactFunc_numbered_0) ⟨ρ, m⟩ = some (v, s) := by
  refine loop_up (l.length - 1) _ (fun _ => some (v, s)) ?_ ?_
  ·rintro k ρ m hk ⟨g0, g1, g5, rfl⟩ ih
   obtain ⟨a, h1⟩ := get_some (l := l) (k := k) (by omega)
   have he5 : e = 5 := by rcases he with h | h; (rw [h] at h1; simp at h1); exact h
   subst he5
   obtain ⟨b, h2⟩ := get_some (l := l) (k := k + 1) (by omega)
   have hlt := ha k a b h1 h2
   have x1 := ix_map (f := rowNb) (o := o) (es := 5) h1
   have x2 := ix_map (f := rowNb) (o := o) (es := 5) h2
   have d1 : decide (((k + 1 : Nat) : Int) < (l.length : Int)) = true := decide_eq_true (by omega)
   have w1 : IntKind.i64.wrap (((k + 1 : Nat) : Int) - 1) = (k : Int) := by rw [wrap_id (by omega) (by omega)]; omega
   have w2 : IntKind.i64.wrap (((k + 1 : Nat) : Int) + 1) = ((k + 1 + 1 : Nat) : Int) := by rw [wrap_id (by omega) (by omega)]; omega
   have hc : ∀ m, Ok m → callL AP (.fn 59) [.agg (rowNb b), .agg (rowNb a)] m = some (B false, m) := fun m hm => frame_ordered_2 hm hlt
   simp only [rowNb, Sl.v] at x1 x2 hc g0
   simp (maxSteps := 1000000) only [go_sem, b_z_CompactFunc_numbered_l0, b_z_CompactFunc_numbered_r1, g0, g1, g5, d1, x1, x2, w1, w2, hc, hs, Nat.reduceEqDiff, reduceCtorEq, ↓reduceIte]
   exact ih _ _ ⟨g0, g1, rfl, rfl⟩
  ·rintro ρ m ⟨g0, g1, g5, rfl⟩
   have d1 : decide (((l.length - 1 + 1 : Nat) : Int) < (l.length : Int)) = false := decide_eq_false (by omega)
   simp (maxSteps := 1000000) only [go_sem, b_z_CompactFunc_numbered_l0, b_z_CompactFunc_numbered_r0, g0, g5, d1, hlv, Nat.reduceEqDiff, reduceCtorEq, ↓reduceIte]
 by_cases h2 : l.length < 2
 ·have d1 : decide ((l.length : Int) < 2) = true := decide_eq_true (by omega)
  rw [callL_go (show AP 58 = some c_z_CompactFunc_numbered from rfl) rfl]
  simp (maxSteps := 1000000) only [go_sem, b_z_CompactFunc_numbered, d1, hlv, reduceCtorEq, ↓reduceIte]
 ·have d1 : decide ((l.length : Int) < 2) = false := decide_eq_false (by omega)
  rw [callL_go (show AP 58 = some c_z_CompactFunc_numbered from rfl) rfl]
  simp (maxSteps := 1000000) only [go_sem, b_z_CompactFunc_numbered, d1, reduceCtorEq, ↓reduceIte]
  exact key 0 _ _ (Nat.zero_le _) ⟨rfl, rfl, rfl, rfl⟩
end
end Go.Ax.Sx.Ck

namespace Go.Ax.Sx.Ck
open Go.Ax
set_option linter.unusedSimpArgs false
set_option linter.unusedVariables false
set_option maxRecDepth 100000
structure Row0 (l : List Fm) : Prop where
 ch : ∀ f ∈ l, f.ch = 0
 c0 : ∀ f ∈ l, 0 ≤ f.cnt
 c1 : ∀ f ∈ l, f.cnt ≤ 31
 asc : Asc l
 data : ∀ f ∈ l, f.data.ok 1
theorem rem_neg : ∀ n : Fin 32, n.val ≠ 0 → ((n.val : Int) - 64).tmod 64 = (n.val : Int) - 64 := by decide
theorem rem_pos : ∀ n : Fin 32, ((n.val : Int)).tmod 64 = (n.val : Int) := by decide
theorem ar_rn {x : Int} (h0 : 1 ≤ x) (h1 : x ≤ 31) : arithOp .rem (I (x - 64)) (I 64) = some (I (x - 64)) := by
 obtain ⟨n, rfl⟩ : ∃ n : Nat, x = n := ⟨x.toNat, by omega⟩
 have h2 := rem_neg ⟨n, by omega⟩ (by simp only; omega)
 simp only at h2
 simp only [arithOp, isShift, intOp, h2]
 rfl
theorem ar_rp {x : Int} (h0 : 0 ≤ x) (h1 : x ≤ 31) : arithOp .rem (I x) (I 64) = some (I x) := by
 obtain ⟨n, rfl⟩ : ∃ n : Nat, x = n := ⟨x.toNat, by omega⟩
 have h2 := rem_pos ⟨n, by omega⟩
 simp only at h2
 simp only [arithOp, isShift, intOp, h2]
 rfl
section
variable {s : Sig}
theorem frame_ordered {x : Sl Fm} (hs : Ok s) (hx : x.l = [] ∨ x.e = 4) (h : Row0 x.l) (hl : x.l.length ≤ 19) :
  callL AP (.fn 33) [I 0, x.v rowFm] s = some ((acS 5 x.l).v rowNb, s) := by
 have key : ∀ (k : Nat) ρ m, k ≤ x.l.length → (ρ 0 = I 0 ∧ ρ 11 = x.v rowFm ∧ ρ 12 = I x.l.length ∧ ρ 13 = I k ∧ ∃ bx tk y og, Acc s.acts.length 5 ((x.l.take k).map rowNb) y og tk ∧ ρ 5 = y ∧ m = s.push ⟨bx, tk⟩) →
   go AP f_frame_ordered (.c (.loop b_frame_ordered_l0) :: k_frame_ordered_0) ⟨ρ, m⟩ = some ((acS 5 x.l).v rowNb, s) := by
  refine loop_up x.l.length _ (fun _ => some ((acS 5 x.l).v rowNb, s)) ?_ ?_
  ·rintro k ρ m hk ⟨g0, g11, g12, g13, bx, tk, y, og, hA, g5, rfl⟩ ih
   obtain ⟨f, hf⟩ := get_some hk
   have hfm := List.mem_of_getElem? hf
   have hch := h.ch f hfm
   have hc0 := h.c0 f hfm
   have hc1 := h.c1 f hfm
   have hix := ixE (f := rowFm) hx hf
   have hwk := wrap_succ hk (show (x.l.length : Int) < _ by omega)
   have hlen := hA.len
   have htl : (x.l.take k).length = k := by rw [List.length_take]; omega
   rw [List.length_map, htl] at hlen
   obtain ⟨y', og', tk', a1, a2, -, -⟩ := hA.append hs .full (ys := [rowNb f]) (by simp) (by simp; omega)
   have hcl : closeAll (rowNb f) = some (rowNb f) := by
    simp only [rowNb, closeAll_cons, closeAll_nil, close_int, Sl.close (f := rowI) (h.data f hfm)]; rfl
   have hcl4 : closeAll (rowFm f) = some (rowFm f) := by
    simp only [rowFm, closeAll_cons, closeAll_nil, close_int, Sl.close (f := rowI) (h.data f hfm)]; rfl
   have w1 := wrap_id (x := f.cnt + 64) (by omega) (by omega)
   have hnext : (x.l.take (k + 1)).map rowNb = (x.l.take k).map rowNb ++ [rowNb f] := by rw [take_get hf, List.map_append]; rfl
   obtain ⟨oa, ea, rfl, hea⟩ := Acc.sl hA
   obtain ⟨ob, eb, rfl, heb⟩ := Acc.sl a2
   rw [← hnext] at a1 a2
   have ih2 := fun ρ' bx' (q0 : ρ' 0 = I 0) (q11 : ρ' 11 = x.v rowFm) (q12 : ρ' 12 = I x.l.length) (q13 : ρ' 13 = I ((k + 1 : Nat) : Int)) (q5 : ρ' 5 = .slice ob eb ((x.l.take (k + 1)).map rowNb)) => ih ρ' (s.push ⟨bx', tk'⟩) ⟨q0, q11, q12, q13, bx', tk', _, og', a2, q5, rfl⟩
   clear ih a2 hnext heb
   generalize (x.l.take (k + 1)).map rowNb = W at a1 ih2
   cases k with
   | zero =>
    have d1 : decide ((0 : Int) < ((0 : Nat) : Int)) = false := by decide
    have d2 : decide (f.ch = 0) = true := decide_eq_true hch
    have d0 : decide ((0 : Int) < (x.l.length : Int)) = true := decide_eq_true (by omega)
    have g13' : ρ 13 = I 0 := g13
    have hix : indexAddrOp none 4 (x.v rowFm) (I 0) = some (.eptr (rowFm f) 0) := hix
    have hwk : IntKind.i64.wrap (0 + 1) = ((0 + 1 : Nat) : Int) := hwk
    have d1' : decide ((0 : Int) < 0) = false := by decide
    have hlen : lenOp false (AV.slice oa ea ((x.l.take 0).map rowNb)) = some (I 0) := hlen
    clear g13 d1
    simp only [List.take_zero, List.map_nil] at hlen a1 g5
    simp only [rowFm, rowNb, Sl.v] at hix a1 hcl hcl4 g11 ih2
    simp (maxSteps := 1000000) only [go_sem, b_frame_ordered_l0, g0, g11, g12, g13', g5, hs, d0, hix, d2, decide_not, Bool.not_true, w1, hlen, hcl, a1, Nat.reduceEqDiff, reduceCtorEq, Nat.reduceAdd, Int.reduceLT, Int.reduceLE, Int.reduceAdd, Int.reduceNeg, ↓reduceIte, ne_eq]
    exact ih2 _ _ g0 g11 g12 rfl rfl
   | succ k =>
    obtain ⟨p, hp⟩ := get_some (l := x.l) (k := k) (by omega)
    have hpm := List.mem_of_getElem? hp
    have hlt := h.asc k p f hp hf
    have hp0 := h.c0 p hpm
    have he5 : ea = 5 := by
     rcases hea with q | q
     ·have := congrArg List.length q
      rw [List.length_map, htl] at this
      simp at this
     ·exact q
    subst he5
    have hix2 : indexAddrOp none 5 (.slice oa 5 ((x.l.take (k + 1)).map rowNb)) (I (k : Int)) = some (.eptr (rowNb p) 0) := ix_map (f := rowNb) (o := oa) (es := 5) (by rw [List.getElem?_take, if_pos (by omega)]; exact hp)
    have d1 : decide ((0 : Int) < ((k + 1 : Nat) : Int)) = true := decide_eq_true (by omega)
    have d2 : decide (f.ch = 0) = true := decide_eq_true hch
    have w2 : IntKind.i64.wrap (((k + 1 : Nat) : Int) - 1) = (k : Int) := by rw [wrap_id (by omega) (by omega)]; omega
    have w3 : IntKind.i64.wrap (f.cnt - (p.cnt + 64)) = (f.cnt - p.cnt) - 64 := by rw [wrap_id (by omega) (by omega)]; omega
    have r1 := ar_rn (x := f.cnt - p.cnt) (by omega) (by omega)
    have w4 : IntKind.i64.wrap (f.cnt - p.cnt - 64 + 64) = f.cnt - p.cnt := by rw [wrap_id (by omega) (by omega)]; omega
    have r2 := ar_rp (x := f.cnt - p.cnt) (by omega) (by omega)
    have d3 : decide ((32 : Int) < f.cnt - p.cnt) = false := decide_eq_false (by omega)
    have w5 : IntKind.i64.wrap (p.cnt + 64 + (f.cnt - p.cnt)) = f.cnt + 64 := by rw [wrap_id (by omega) (by omega)]; omega
    simp only [rowFm, rowNb, Sl.v] at hix hix2 a1 hcl hcl4 g11 ih2
    simp (maxSteps := 1000000) only [go_sem, b_frame_ordered_l0, g0, g11, g12, g13, g5, hs, lt_dec hk, hix, hix2, d1, d2, d3, decide_not, Bool.not_true, w1, w2, w3, w4, w5, r1, r2, hlen, hcl, a1, hwk, Nat.reduceEqDiff, reduceCtorEq, Nat.reduceAdd, ↓reduceIte, ne_eq]
    exact ih2 _ _ g0 g11 g12 rfl rfl
  ·rintro ρ m ⟨g0, g11, g12, g13, bx, tk, y, og, hA, g5, rfl⟩
   rw [List.take_length] at hA
   obtain ⟨oa, ea, rfl, hea⟩ := Acc.sl hA
   have hlv := hA.leave
   have e1 : ∀ r, callL AP (.fn 55) [.slice oa ea (x.l.map rowNb), .fn 56 [] []] (s.push r) = some (.tuple [], s.push r) := fun r => z_SortStable (hs.push r) (by rcases hea with q | q; exact .inl (by simpa using q); exact .inr q) hl h.asc
   have e2 : ∀ r, callL AP (.fn 58) [.slice oa ea (x.l.map rowNb), .fn 59 [] []] (s.push r) = some ((acS 5 x.l).v rowNb, s.push r) := fun r => z_Compact (hs.push r) (by rcases hea with q | q; exact .inl (by simpa using q); exact .inr q) (by omega) h.asc (fun m => by rw [hlv, acS_v])
   have e3 : ∀ m, leaveVal m ((acS 5 x.l).v rowNb) = some ((acS 5 x.l).v rowNb) := fun m => Sl.leave acS_ok
   simp only [Sl.v] at e2 e3 ⊢
   simp (maxSteps := 1000000) only [go_sem, b_frame_ordered_l0, b_frame_ordered_r0, g12, g13, g5, ge_dec, e1, e2, e3, Nat.reduceEqDiff, ↓reduceIte]
 rw [callL_go (show AP 33 = some c_frame_ordered from rfl) rfl]
 simp only [Sl.v] at key ⊢
 simp (maxSteps := 1000000) only [go_sem, b_frame_ordered, Nat.reduceEqDiff, ↓reduceIte]
 exact key 0 _ _ (Nat.zero_le _) ⟨rfl, rfl, rfl, rfl, _, _, _, none, Acc.start, rfl, rfl⟩
end
end Go.Ax.Sx.Ck

namespace Go.Ax.Sx.Ck
open Go.Ax
set_option linter.unusedSimpArgs false
set_option linter.unusedVariables false
set_option maxRecDepth 100000
theorem parse_mem : ∀ {n : Nat} {l : List Int} {z : Int}, z ∈ (parseP n l).2 → z ∈ l
 | 0, l, z, h => h
 | n + 1, [], z, h => h
 | n + 1, [_], z, h => h
 | n + 1, [_, _], z, h => h
 | n + 1, a :: b :: c :: r, z, h => by
  simp only [parseP] at h
  split at h
  ·exact h
  ·have := parse_mem (n := n) h
   have := List.mem_of_mem_drop this
   simp [this]
theorem parse_len : ∀ {n : Nat} {l : List Int}, (parseP n l).1.length + (parseP n l).2.length ≤ l.length
 | 0, l => by simp [parseP]
 | n + 1, [] => by simp [parseP]
 | n + 1, [_] => by simp [parseP]
 | n + 1, [_, _] => by simp [parseP]
 | n + 1, a :: b :: c :: r => by
  simp only [parseP]
  split
  ·simp
  ·have h := parse_len (n := n) (l := r.drop c.toNat)
   rw [List.length_drop] at h
   simp only [List.length_append, List.length_cons]
   have : (if a = 255 then ([] : List Pk) else [⟨a, b, cpS 1 (r.take c.toNat)⟩]).length ≤ 1 := by split <;> simp
   omega
theorem readS_false {op : Bool} {part : List Int} {f : Fm} {fol : Bool} (h : (readS op part f fol).1 = false) : (readS op part f fol).2.1 = [] := by
 unfold readS at h ⊢
 split at h
 ·cases h
 ·rename_i h1
  split at h
  ·rename_i h2; rw [if_neg h1, if_pos h2]
  ·cases h
theorem readS_bytes {op : Bool} {part : List Int} {f : Fm} {fol : Bool} (h1 : ByteL part) (h2 : ByteL f.data.l) : ByteL (readS op part f fol).2.1 := by
 unfold readS
 split
 ·intro z hz
  rcases List.mem_append.1 (parse_mem hz) with q | q
  ·exact h1 z q
  ·exact h2 z q
 ·split
  ·intro z hz; simp at hz
  ·intro z hz
   exact h2 z (List.mem_of_mem_drop (parse_mem hz))
theorem readS_len {op : Bool} {part : List Int} {f : Fm} {fol : Bool} : (readS op part f fol).2.1.length ≤ part.length + f.data.l.length ∧ (readS op part f fol).2.2.length ≤ part.length + f.data.l.length := by
 unfold readS
 split
 ·have := parse_len (n := 20000) (l := part ++ f.data.l)
  rw [List.length_append] at this
  exact ⟨by simp only; omega, by simp only; omega⟩
 ·split
  ·exact ⟨by simp, by simp⟩
  ·have := parse_len (n := 20000) (l := f.data.l.drop f.first.toNat)
   rw [List.length_drop] at this
   exact ⟨by simp only; omega, by simp only; omega⟩
def stepX (S : Bool × List Int × List Pk × Int) (f : Fm) : Bool × List Int × List Pk × Int :=
 ((readS S.1 S.2.1 f (decide (f.cnt + 64 = S.2.2.2 + 1))).1, (readS S.1 S.2.1 f (decide (f.cnt + 64 = S.2.2.2 + 1))).2.1, S.2.2.1 ++ (readS S.1 S.2.1 f (decide (f.cnt + 64 = S.2.2.2 + 1))).2.2, f.cnt + 64)
def exS (l : List Fm) : Bool × List Int × List Pk × Int := l.foldl stepX (false, [], [], 0)
theorem exS_s {l : List Fm} {k : Nat} {f : Fm} (h : l[k]? = some f) : exS (l.take (k + 1)) = stepX (exS (l.take k)) f := by
 unfold exS
 rw [take_get h, List.foldl_append]; rfl
def extracted (l : List Fm) : List Pk := (exS l).2.2.1
section
variable {s : Sig}
theorem frame_Extracted {x : Sl Fm} {L C : Int} (hs : Ok s) (hr : RuOk L C) (hx : x.l = [] ∨ x.e = 4) (h : Row0 x.l) (hp : ∀ f ∈ x.l, f.Ok L C) (hl : x.l.length ≤ 19) :
  callL AP (.fn 10) [rulesV L C, I 0, x.v rowFm] s = some (.tuple [(acS 3 (extracted x.l)).v rowPk, I 0], s) := by
 have hM := mid_here hs
 have hokX : ∀ r, Ok (s.push r) := fun r => hs.push r
 have key : ∀ (k : Nat) ρ m, k ≤ x.l.length → (ρ 10 = .ptr s.acts.length 2 0 ∧ ρ 26 = (acS 5 x.l).v rowNb ∧ ρ 27 = I x.l.length ∧ ρ 28 = I k ∧ ρ 11 = I (exS (x.l.take k)).2.2.2 ∧ (exS (x.l.take k)).2.2.2 ≤ 1000 ∧ 0 ≤ (exS (x.l.take k)).2.2.2 ∧
   ∃ (bx : List (List AV)) (tk : List (Option Nat)) (pa : Sl Int) (y : AV) (og : Option Nat), 2 < bx.length ∧ m = s.push ⟨bx.set 2 [B (exS (x.l.take k)).1, pa.v rowI, y], tk⟩ ∧ pa.ok 1 ∧ pa.l = (exS (x.l.take k)).2.1 ∧ ((exS (x.l.take k)).1 = false → pa.l = []) ∧ ByteL pa.l ∧ pa.l.length ≤ 24 * k ∧
    Acc s.acts.length 3 ((exS (x.l.take k)).2.2.1.map rowPk) y og tk ∧ (exS (x.l.take k)).2.2.1.length ≤ 500 * k) →
   go AP f_frame_Extracted (.c (.loop b_frame_Extracted_l0) :: k_frame_Extracted_0) ⟨ρ, m⟩ = some (.tuple [(acS 3 (extracted x.l)).v rowPk, I 0], s) := by
  refine loop_up x.l.length _ (fun _ => some (.tuple [(acS 3 (extracted x.l)).v rowPk, I 0], s)) ?_ ?_
  ·rintro k ρ m hk ⟨g10, g26, g27, g28, g11, hll, hl0, bx, tk, pa, y, og, hbl, rfl, hpa, hpal, hpf, hpb, hpn, hA, hon⟩ ih
   obtain ⟨f, hf⟩ := get_some hk
   have hfo := hp f (List.mem_of_getElem? hf)
   have hf1 := h.c1 f (List.mem_of_getElem? hf)
   have hix := Sl.ix (f := rowNb) (acS_ok (es := 5) (l := x.l)) (by rw [acS_l]; exact hf)
   have hwk := wrap_succ hk (show (x.l.length : Int) < _ by omega)
   have hex := exS_s hf
   obtain ⟨op, hopE⟩ : ∃ op, op = (exS (x.l.take k)).1 := ⟨_, rfl⟩
   obtain ⟨la, hlaE⟩ : ∃ la, la = (exS (x.l.take k)).2.2.2 := ⟨_, rfl⟩
   obtain ⟨fol, hfolE⟩ : ∃ fol, fol = decide (f.cnt + 64 = la + 1) := ⟨_, rfl⟩
   have hrd := fun (bx2 : List (List AV)) (hb2 : 2 < bx2.length) => frame_reader_read (X := fun r => s.push r) (bx := bx2) (b := 2) (tk := tk) (op := op) (fol := fol) (pa := pa) (x := y) (og := og) (f := f) (L := L) (C := C) hM hokX hb2 hpa (by rw [hopE]; exact hpf) hpb (by omega) hA (by omega) hr hfo
   have w1 : IntKind.i64.wrap (la + 1) = la + 1 := wrap_id (by omega) (by omega)
   obtain ⟨pa', x', og', tk', e1, o1, o2, o3⟩ := hrd (bx ++ [rowNb f]) (by simp; omega)
   have hset : ∀ v : List AV, (bx ++ [rowNb f]).set 2 v = bx.set 2 v ++ [rowNb f] := fun v => List.set_append_left _ _ hbl
   have hf0 := h.c0 f (List.mem_of_getElem? hf)
   have hd : (f.data.l.length : Int) ≤ 24 := by have := hfo.len; have := hr.l1; omega
   have hRl := readS_len (op := op) (part := pa.l) (f := f) (fol := fol)
   have hfin : ∀ ρ', ρ' 10 = .ptr s.acts.length 2 0 → ρ' 26 = (acS 5 x.l).v rowNb → ρ' 27 = I x.l.length → ρ' 28 = I ((k + 1 : Nat) : Int) → ρ' 11 = I (f.cnt + 64) →
     go AP f_frame_Extracted (.c (.loop b_frame_Extracted_l0) :: k_frame_Extracted_0) ⟨ρ', s.push ⟨(bx ++ [rowNb f]).set 2 [B (readS op pa.l f fol).1, pa'.v rowI, x'], tk'⟩⟩ = some (.tuple [(acS 3 (extracted x.l)).v rowPk, I 0], s) := fun ρ' q10 q26 q27 q28 q11 => by
    refine ih ρ' _ ⟨q10, q26, q27, q28, ?_, ?_, ?_, bx ++ [rowNb f], tk', pa', x', og', by simp; omega, ?_, o1, ?_, ?_, ?_, ?_, ?_, ?_⟩
    ·rw [hex]; exact q11
    ·rw [hex]; show f.cnt + 64 ≤ 1000; omega
    ·rw [hex]; show 0 ≤ f.cnt + 64; omega
    ·rw [hex]; simp only [stepX, ← hopE, ← hlaE, ← hfolE, ← hpal]
    ·rw [hex]; simp only [stepX, ← hopE, ← hlaE, ← hfolE, ← hpal]; exact o2
    ·rw [hex]; simp only [stepX, ← hopE, ← hlaE, ← hfolE, ← hpal]; intro q; rw [o2]; exact readS_false q
    ·rw [o2]; exact readS_bytes hpb hfo.bytes
    ·rw [o2]; omega
    ·rw [hex]; simp only [stepX, ← hopE, ← hlaE, ← hfolE, ← hpal]; exact o3
    ·rw [hex]; simp only [stepX, ← hopE, ← hlaE, ← hfolE, ← hpal, List.length_append]; omega
   clear ih hrd
   rw [← hlaE] at g11
   rw [← hopE]
   simp only [hset] at e1 hfin
   have hW : (bx.set 2 [B (readS op pa.l f fol).1, pa'.v rowI, x'] ++ [rowNb f])[bx.length]? = some (rowNb f) := by
    have : (bx.set 2 [B (readS op pa.l f fol).1, pa'.v rowI, x']).length = bx.length := by simp
    rw [← this]; simp
   have hZ : (bx.set 2 [B op, pa.v rowI, y]).length = bx.length := by simp
   generalize bx.set 2 [B (readS op pa.l f fol).1, pa'.v rowI, x'] ++ [rowNb f] = W at *
   generalize bx.set 2 [B op, pa.v rowI, y] = Z at *
   rw [← hZ] at hW
   simp only [rowNb, Sl.v] at hix
   simp only [rowNb, rowFm, Sl.v] at e1 hW g26
   generalize hVn : AV.slice (acS 5 x.l).o (acS 5 x.l).e _ = Vn at *
   simp only [Sl.v] at hfin
   rw [hfolE] at e1
   simp (maxSteps := 1000000) only [go_sem, b_frame_Extracted_l0, g10, g26, g27, g28, g11, lt_dec hk, hs, hix, w1, e1, hW, hwk, Nat.reduceEqDiff, Nat.reduceAdd, ↓reduceIte]
   exact hfin _ g10 (g26.trans hVn.symm) g27 rfl rfl
  ·rintro ρ m ⟨g10, g26, g27, g28, g11, hll, hl0, bx, tk, pa, y, og, hbl, rfl, hpa, hpal, hpf, hpb, hpn, hA, hon⟩
   rw [List.take_length] at *
   have hlv := hA.leave
   rw [← acS_v] at hlv
   have k0 : (bx.set 2 [B (exS x.l).1, pa.v rowI, y])[2]? = some [B (exS x.l).1, pa.v rowI, y] := by simp [hbl]
   generalize bx.set 2 [B (exS x.l).1, pa.v rowI, y] = Z at *
   simp only [Sl.v] at g26
   unfold extracted
   simp (maxSteps := 1000000) only [go_sem, b_frame_Extracted_l0, b_frame_Extracted_r0, g10, g27, g28, ge_dec, k0, hlv, Nat.reduceEqDiff, Nat.reduceAdd, ↓reduceIte]
 have e1 : ∀ r, callL AP (.fn 32) [rulesV L C, I 0, x.v rowFm] (s.push r) = some (.tuple [rulesV L C, I 0], s.push r) := fun r => frame_openFrames (hs.push r) hr (by omega) (by have := hr.c0; omega) hx hp (by omega)
 have e2 : ∀ r, callL AP (.fn 33) [I 0, x.v rowFm] (s.push r) = some ((acS 5 x.l).v rowNb, s.push r) := fun r => frame_ordered (hs.push r) hx h hl
 have e3 : lenOp false ((acS 5 x.l).v rowNb) = some (I x.l.length) := by
  have : (acS 5 x.l).l.length = x.l.length := by rw [acS_l]
  simp [lenOp, AV.int, this]
 generalize (acS 5 x.l).v rowNb = Vn at *
 simp only [Sl.v] at e1 e2
 rw [callL_go (show AP 10 = some c_frame_Extracted from rfl) rfl]
 simp only [Sl.v]
 simp (maxSteps := 1000000) only [go_sem, b_frame_Extracted, hs, e1, e2, e3, Nat.reduceEqDiff, Nat.reduceAdd, ↓reduceIte, ne_eq, not_true]
 refine key 0 _ _ (Nat.zero_le _) ⟨rfl, rfl, rfl, rfl, rfl, by simp [exS], by simp [exS], [[I L, I C], [I L, I C], [B false, .slice .nilS 0 [], .slice .nilS 0 []]], [], ⟨.nilS, 0, []⟩, .slice .nilS 0 [], none, by simp, rfl, ⟨.inl rfl, .inr (.inr ⟨rfl, rfl⟩)⟩, rfl, fun _ => rfl, fun z hz => by simp at hz, by simp, Acc.start, by simp [exS]⟩
end
end Go.Ax.Sx.Ck

namespace Go.Ax.Sx.Ck
open Go.Ax
set_option linter.unusedSimpArgs false
set_option linter.unusedVariables false
set_option maxRecDepth 100000
structure Pr.Ok (p : Pr) : Prop where
 c0 : 0 ≤ p.cnt
 c1 : p.cnt ≤ 1000000
 l0 : 0 ≤ p.lo
 le : p.lo ≤ p.hi
 h1 : p.hi ≤ 1000000000000
def AscP (l : List Pr) : Prop := ∀ (i : Nat) (a b : Pr), l[i]? = some a → l[i + 1]? = some b → a.cnt < b.cnt
structure PsOk (l : List Pr) : Prop where
 n1 : 1 ≤ l.length
 n20 : l.length ≤ 20
 ok : ∀ p ∈ l, p.Ok
 asc : AscP l
section
variable {s : Sig}
theorem frame_CheckPairs_1 {a : Int} : callL AP (.fn 63) [I a] s = some (B (wi a 0 1000000000000), s) := by
 rw [callL_go (show AP 63 = some c_frame_CheckPairs_1 from rfl) rfl]
 simp (maxSteps := 1000000) only [go_sem, b_frame_CheckPairs_1, frame_within, reduceCtorEq, ↓reduceIte]
theorem frame_CheckPairs {x : Sl Pr} (hs : Ok s) (hx : x.ok 3) (h : PsOk x.l) : callL AP (.fn 35) [x.v rowPr] s = some (.tuple [I 0, I 0], s) := by
 have key : ∀ (k : Nat) ρ m, k ≤ x.l.length → (ρ 5 = .fn 63 [] [] ∧ ρ 24 = x.v rowPr ∧ ρ 25 = I x.l.length ∧ ρ 26 = I k ∧ (∃ la, ρ 6 = I la ∧ ∀ p, x.l[k]? = some p → la < p.cnt) ∧ ∃ bx, m = s.push ⟨bx, []⟩) →
   go AP f_frame_CheckPairs (.c (.loop b_frame_CheckPairs_l0) :: k_frame_CheckPairs_0) ⟨ρ, m⟩ = some (.tuple [I 0, I 0], s) := by
  refine loop_up x.l.length _ (fun _ => some (.tuple [I 0, I 0], s)) ?_ ?_
  ·rintro k ρ m hk ⟨g5, g24, g25, g26, ⟨la, g6, hla⟩, bx, rfl⟩ ih
   obtain ⟨p, hp⟩ := get_some hk
   have hpo := h.ok p (List.mem_of_getElem? hp)
   have hlt := hla p hp
   have hix := Sl.ix (f := rowPr) hx hp
   have hwk := wrap_succ hk (show (x.l.length : Int) < _ by have := h.n20; omega)
   have c1 : ∀ m, callL AP (.fn 38) [I p.cnt, I 0, I 1000000] m = some (B true, m) := fun m => by rw [frame_within, wi_t hpo.c0 hpo.c1]
   have c2 : ∀ m, callL AP (.fn 63) [I p.lo] m = some (B true, m) := fun m => by rw [frame_CheckPairs_1, wi_t hpo.l0 (by have := hpo.le; have := hpo.h1; omega)]
   have c3 : ∀ m, callL AP (.fn 63) [I p.hi] m = some (B true, m) := fun m => by rw [frame_CheckPairs_1, wi_t (by have := hpo.le; have := hpo.l0; omega) hpo.h1]
   have d1 : decide (p.lo ≤ p.hi) = true := decide_eq_true hpo.le
   have d2 : decide (la < p.cnt) = true := decide_eq_true hlt
   simp only [rowPr, Sl.v] at hix g24
   simp (maxSteps := 1000000) only [go_sem, b_frame_CheckPairs_l0, g5, g24, g25, g26, g6, hs, lt_dec hk, hix, c1, c2, c3, d1, d2, hwk, frame_unless, frame_first2, firstErr, Nat.reduceEqDiff, Nat.reduceAdd, ↓reduceIte, ne_eq, not_true]
   refine ih _ _ ⟨g5, g24, g25, rfl, ⟨p.cnt, rfl, fun q hq => h.asc k p q hp hq⟩, _, rfl⟩
  ·rintro ρ m ⟨g5, g24, g25, g26, ⟨la, g6, hla⟩, bx, rfl⟩
   simp (maxSteps := 1000000) only [go_sem, b_frame_CheckPairs_l0, b_frame_CheckPairs_r0, g25, g26, ge_dec, Nat.reduceEqDiff, ↓reduceIte]
 have d1 : decide ((0 : Int) < (x.l.length : Int)) = true := decide_eq_true (by have := h.n1; omega)
 have d2 : decide ((x.l.length : Int) ≤ 20) = true := decide_eq_true (by have := h.n20; omega)
 rw [callL_go (show AP 35 = some c_frame_CheckPairs from rfl) rfl]
 simp only [Sl.v] at key ⊢
 simp (maxSteps := 1000000) only [go_sem, b_frame_CheckPairs, d1, d2, frame_unless, frame_first2, firstErr, Nat.reduceEqDiff, reduceCtorEq, Int.reduceNeg, ↓reduceIte, ne_eq, not_true]
 exact key 0 _ _ (Nat.zero_le _) ⟨rfl, rfl, rfl, rfl, ⟨-1, rfl, fun p hp => by have := (h.ok p (List.mem_of_getElem? hp)).c0; omega⟩, _, rfl⟩
theorem frame_less {a b c d : Int} (h1 : -1000000000000 ≤ a) (h2 : a ≤ 1000000000000) (h3 : -1000000000000 ≤ c) (h4 : c ≤ 1000000000000) (b0 : 0 ≤ b) (b1 : b ≤ 1000000) (d0 : 0 ≤ d) (d1 : d ≤ 1000000) :
  callL AP (.fn 65) [.agg [I a, I b], .agg [I c, I d]] s = some (B (decide (a * d < c * b)), s) := by
 have bound : ∀ {u v : Int}, -1000000000000 ≤ u → u ≤ 1000000000000 → 0 ≤ v → v ≤ 1000000 → -1000000000000000000 ≤ u * v ∧ u * v ≤ 1000000000000000000 := fun {u v} q1 q2 q3 q4 => by
  constructor
  ·calc (-1000000000000000000 : Int) = -1000000000000 * 1000000 := by decide
    _ ≤ -1000000000000 * v := by omega
    _ ≤ u * v := Int.mul_le_mul_of_nonneg_right q1 q3
  ·calc u * v ≤ 1000000000000 * v := Int.mul_le_mul_of_nonneg_right q2 q3
    _ ≤ 1000000000000000000 := by omega
 obtain ⟨p1, p2⟩ := bound h1 h2 d0 d1
 obtain ⟨p3, p4⟩ := bound h3 h4 b0 b1
 have w1 := wrap_id (x := a * d) (by omega) (by omega)
 have w2 := wrap_id (x := c * b) (by omega) (by omega)
 rw [callL_go (show AP 65 = some c_frame_less from rfl) rfl]
 simp (maxSteps := 1000000) only [go_sem, b_frame_less, w1, w2, Nat.reduceEqDiff, Nat.reduceAdd, ↓reduceIte]
end
end Go.Ax.Sx.Ck

namespace Go.Ax.Sx.Ck
open Go.Ax
set_option linter.unusedSimpArgs false
set_option linter.unusedVariables false
set_option maxRecDepth 100000
def gcdF (num : Int) (D : Nat) : Nat := Nat.gcd D num.natAbs
def lowA (num : Int) (D : Nat) : Int := num.tdiv (gcdF num D)
def lowB (num : Int) (D : Nat) : Nat := D / gcdF num D
theorem gcdF_pos {num : Int} {D : Nat} (h : 1 ≤ D) : 1 ≤ gcdF num D := Nat.gcd_pos_of_pos_left _ h
theorem lowA_mul {num : Int} {D : Nat} : lowA num D * gcdF num D = num := by
 unfold lowA
 exact Int.tdiv_mul_cancel (Int.ofNat_dvd_left.2 (Nat.gcd_dvd_right _ _))
theorem lowB_mul {num : Int} {D : Nat} : lowB num D * gcdF num D = D := Nat.div_mul_cancel (Nat.gcd_dvd_left _ _)
section
variable {s : Sig}
theorem ar_quo {a : Int} {b : Nat} (hb : 0 < b) (h1 : -1000000000000 ≤ a) (h2 : a ≤ 1000000000000) : arithOp .quo (I a) (I (b : Int)) = some (I (a.tdiv b)) := by
 have h3 : ¬ (b : Int) = 0 := by omega
 have h4 : (a.tdiv b).natAbs ≤ a.natAbs := by
  rw [Int.natAbs_tdiv]; exact Nat.div_le_self _ _
 have h5 := wrap_id (x := a.tdiv b) (by omega) (by omega)
 simp only [arithOp, isShift, intOp, h3, if_false, h5]
 rfl
theorem frame_lowest {num : Int} {D : Nat} (hs : Ok s) (h1 : -1000000000000 ≤ num) (h2 : num ≤ 1000000000000) (d1 : 1 ≤ D) (d2 : D ≤ 1000000) :
  callL AP (.fn 74) [I num, I D] s = some (.agg [I (lowA num D), I (lowB num D)], s) := by
 have key : ∀ (b : Nat) ρ m, (ρ 0 = I num ∧ ρ 1 = I D ∧ ρ 4 = .ptr s.acts.length 0 0 ∧ m = s.push ⟨[[I 0, I 0]], []⟩ ∧ b ≤ 1000000000000 ∧ ρ 6 = I b ∧ ∃ a : Nat, 1 ≤ a ∧ a ≤ 1000000000000 ∧ ρ 5 = I a ∧ Nat.gcd a b = gcdF num D) →
   go AP f_frame_lowest (.c (.loop b_frame_lowest_l0) :: k_frame_lowest_0) ⟨ρ, m⟩ = some (.agg [I (lowA num D), I (lowB num D)], s) := by
  refine loop_dec _ (some (.agg [I (lowA num D), I (lowB num D)], s)) ?_
  rintro b ρ m ⟨g0, g1, g4, rfl, hb, g6, a, ha1, ha2, g5, hg⟩ ih
  by_cases hz : b = 0
  ·subst hz
   rw [Nat.gcd_zero_right] at hg
   have q1 := ar_quo (a := num) (b := a) (by omega) h1 h2
   have q2 := ar_quon (a := D) (b := a) (by omega) (by omega)
   have dz : decide ((0 : Int) = 0) = true := by decide
   have g6' : ρ 6 = I 0 := g6
   unfold lowA lowB
   rw [← hg]
   simp (maxSteps := 1000000) only [go_sem, b_frame_lowest_l0, b_frame_lowest_r0, g0, g1, g4, g5, g6', hs, q1, q2, Nat.reduceEqDiff, reduceCtorEq, ↓reduceIte, ne_eq, not_true]
   done
  ·have dz : decide ((b : Int) = 0) = false := decide_eq_false (by omega)
   have q1 := ar_remn (a := a) (b := b) (by omega) (by omega)
   have hlt := Nat.mod_lt a (show 0 < b by omega)
   simp (maxSteps := 1000000) only [go_sem, b_frame_lowest_l0, g5, g6, q1, dz, decide_not, Bool.not_false, Nat.reduceEqDiff, ↓reduceIte, ne_eq]
   refine ih (a % b) _ _ hlt ⟨g0, g1, g4, rfl, by omega, rfl, b, by omega, hb, rfl, ?_⟩
   rw [← hg, Nat.gcd_comm, ← Nat.gcd_rec, Nat.gcd_comm]
 have w1 : IntKind.i64.wrap (-num) = -num := wrap_id (by omega) (by omega)
 have hmx : max num (-num) = (num.natAbs : Int) := by omega
 rw [callL_go (show AP 74 = some c_frame_lowest from rfl) rfl]
 simp (maxSteps := 1000000) only [go_sem, b_frame_lowest, w1, hmx, Nat.reduceEqDiff, reduceCtorEq, ↓reduceIte]
 exact key num.natAbs _ _ ⟨rfl, rfl, rfl, rfl, by omega, rfl, D, d1, by omega, rfl, rfl⟩
end
end Go.Ax.Sx.Ck

namespace Go.Ax.Sx.Ck
open Go.Ax
set_option linter.unusedSimpArgs false
set_option linter.unusedVariables false
set_option maxRecDepth 100000
structure Ch where
 c1 : Int
 t1 : Int
 c2 : Int
 t2 : Int
abbrev rowCh (c : Ch) : List AV := [I c.c1, I c.t1, I c.c2, I c.t2]
def Ch.den (c : Ch) : Int := c.c2 - c.c1
def Ch.at_ (c : Ch) (n : Int) : Int := c.t1 * c.den + (c.t2 - c.t1) * (n - c.c1)
structure Ch.Ok (c : Ch) : Prop where
 a0 : 0 ≤ c.c1
 ab : c.c1 < c.c2
 b1 : c.c2 ≤ 1000000
 u0 : 0 ≤ c.t1
 u1 : c.t1 ≤ 1000000000000
 v0 : 0 ≤ c.t2
 v1 : c.t2 ≤ 1000000000000
theorem mul_bound {u v A B : Int} (q1 : -A ≤ u) (q2 : u ≤ A) (q3 : -B ≤ v) (q4 : v ≤ B) : -(A * B) ≤ u * v ∧ u * v ≤ A * B := by
 have hA : 0 ≤ A := by omega
 have hB : 0 ≤ B := by omega
 have h1 : (A - u) * (B - v) + (A + u) * (B + v) = 2 * (A * B) + 2 * (u * v) := by
  simp only [Int.sub_mul, Int.mul_sub, Int.add_mul, Int.mul_add]; omega
 have h2 : (A - u) * (B + v) + (A + u) * (B - v) = 2 * (A * B) - 2 * (u * v) := by
  simp only [Int.sub_mul, Int.mul_sub, Int.add_mul, Int.mul_add]; omega
 have p1 := Int.mul_nonneg (show 0 ≤ A - u by omega) (show 0 ≤ B - v by omega)
 have p2 := Int.mul_nonneg (show 0 ≤ A + u by omega) (show 0 ≤ B + v by omega)
 have p3 := Int.mul_nonneg (show 0 ≤ A - u by omega) (show 0 ≤ B + v by omega)
 have p4 := Int.mul_nonneg (show 0 ≤ A + u by omega) (show 0 ≤ B - v by omega)
 omega
section
variable {s : Sig}
theorem frame_chord_den {c : Ch} (h : c.Ok) : callL AP (.fn 42) [.agg (rowCh c)] s = some (I c.den, s) := by
 have w1 := wrap_id (x := c.c2 - c.c1) (by have := h.ab; omega) (by have := h.a0; have := h.b1; omega)
 unfold Ch.den
 rw [callL_go (show AP 42 = some c_frame_chord_den from rfl) rfl]
 simp only [rowCh]
 simp (maxSteps := 1000000) only [go_sem, b_frame_chord_den, w1, Nat.reduceEqDiff, Nat.reduceAdd, ↓reduceIte]
theorem frame_chord_at {c : Ch} {n : Int} (h : c.Ok) (n0 : 0 ≤ n) (n1 : n ≤ 1000000) : callL AP (.fn 40) [.agg (rowCh c), I n] s = some (I (c.at_ n), s) := by
 obtain ⟨a0, ab, b1, u0, u1, v0, v1⟩ := h
 have e1 : ∀ m, callL AP (.fn 42) [.agg (rowCh c)] m = some (I c.den, m) := fun m => frame_chord_den ⟨a0, ab, b1, u0, u1, v0, v1⟩
 have hden : 0 ≤ c.den ∧ c.den ≤ 1000000 := by unfold Ch.den; omega
 have m1 := mul_bound (u := c.t1) (v := c.den) (A := 1000000000000) (B := 1000000) (by omega) (by omega) (by omega) (by omega)
 have m2 := mul_bound (u := c.t2 - c.t1) (v := n - c.c1) (A := 1000000000000) (B := 1000000) (by omega) (by omega) (by omega) (by omega)
 have w1 := wrap_id (x := c.t1 * c.den) (by omega) (by omega)
 have w2 := wrap_id (x := c.t2 - c.t1) (by omega) (by omega)
 have w3 := wrap_id (x := n - c.c1) (by omega) (by omega)
 have w4 := wrap_id (x := (c.t2 - c.t1) * (n - c.c1)) (by omega) (by omega)
 have w5 := wrap_id (x := c.t1 * c.den + (c.t2 - c.t1) * (n - c.c1)) (by omega) (by omega)
 unfold Ch.at_
 rw [callL_go (show AP 40 = some c_frame_chord_at from rfl) rfl]
 simp only [rowCh] at e1 ⊢
 simp (maxSteps := 1000000) only [go_sem, b_frame_chord_at, e1, w1, w2, w3, w4, w5, Nat.reduceEqDiff, Nat.reduceAdd, ↓reduceIte]
end
end Go.Ax.Sx.Ck

namespace Go.Ax.Sx.Ck
open Go.Ax
set_option linter.unusedSimpArgs false
set_option linter.unusedVariables false
set_option maxRecDepth 100000
section
variable {s : Sig}
theorem tdm {n b : Int} (hb : 0 < b) : n = b * n.tdiv b + n.tmod b ∧ n.tmod b < b ∧ -b < n.tmod b := by
 refine ⟨(Int.mul_tdiv_add_tmod n b).symm, Int.tmod_lt_of_pos n hb, ?_⟩
 have := Int.tmod_lt_of_pos (-n) hb
 rw [Int.neg_tmod] at this
 omega
theorem floor_neg {n b : Int} (hb : 0 < b) (h : n.tmod b < 0) : n.tdiv b - 1 = n / b := by
 obtain ⟨h1, h2, h3⟩ := tdm (n := n) hb
 have := (Int.ediv_emod_unique (a := n) (r := n.tmod b + b) (q := n.tdiv b - 1) hb).2 ⟨by rw [Int.mul_sub]; omega, by omega, by omega⟩
 exact this.1.symm
theorem floor_pos {n b : Int} (hb : 0 < b) (h : ¬ n.tmod b < 0) : n.tdiv b = n / b := by
 obtain ⟨h1, h2, h3⟩ := tdm (n := n) hb
 have := (Int.ediv_emod_unique (a := n) (r := n.tmod b) (q := n.tdiv b) hb).2 ⟨by omega, by omega, by omega⟩
 exact this.1.symm
theorem frame_floor {n b : Int} (h1 : -4000000000000000000 ≤ n) (h2 : n ≤ 4000000000000000000) (b0 : 0 < b) (b1 : b ≤ 1000000) : callL AP (.fn 41) [I n, I b] s = some (I (n / b), s) := by
 have hz : ¬ b = 0 := by omega
 have hq : (n.tdiv b).natAbs ≤ n.natAbs := by rw [Int.natAbs_tdiv]; exact Nat.div_le_self _ _
 obtain ⟨_, t2, t3⟩ := tdm (n := n) b0
 have w1 := wrap_id (x := n.tdiv b) (by omega) (by omega)
 have w2 := wrap_id (x := n.tmod b) (by omega) (by omega)
 have w3 := wrap_id (x := n.tdiv b - 1) (by omega) (by omega)
 have q1 : arithOp .quo (I n) (I b) = some (I (n.tdiv b)) := by
  simp only [arithOp, isShift, intOp, hz, if_false, w1]; rfl
 have q2 : arithOp .rem (I n) (I b) = some (I (n.tmod b)) := by
  simp only [arithOp, isShift, intOp, hz, if_false]; rfl
 by_cases h : n.tmod b < 0
 ·have d1 : decide (n.tmod b < 0) = true := decide_eq_true h
  rw [← floor_neg b0 h]
  rw [callL_go (show AP 41 = some c_frame_floor from rfl) rfl]
  simp (maxSteps := 1000000) only [go_sem, b_frame_floor, q1, q2, d1, w3, Nat.reduceEqDiff, reduceCtorEq, ↓reduceIte]
 ·have d1 : decide (n.tmod b < 0) = false := decide_eq_false h
  rw [← floor_pos b0 h]
  rw [callL_go (show AP 41 = some c_frame_floor from rfl) rfl]
  simp (maxSteps := 1000000) only [go_sem, b_frame_floor, q1, q2, d1, Nat.reduceEqDiff, reduceCtorEq, ↓reduceIte]
def fitP (c : Ch) (p : Pr) : Bool := wi (c.at_ p.cnt) (p.lo * c.den) (p.hi * c.den)
theorem frame_chord_fits {c : Ch} {x : Sl Pr} (hs : Ok s) (hc : c.Ok) (hx : x.ok 3) (hp : ∀ p ∈ x.l, p.Ok) (hl : x.l.length ≤ 1000) : callL AP (.fn 67) [.agg (rowCh c), x.v rowPr] s = some (B (x.l.all (fitP c)), s) := by
 have key : ∀ (k : Nat) ρ m, k ≤ x.l.length → (ρ 2 = .ptr s.acts.length 0 0 ∧ ρ 7 = x.v rowPr ∧ ρ 8 = I x.l.length ∧ ρ 9 = I k ∧ ∃ bx, m = s.push ⟨rowCh c :: bx, []⟩) →
   go AP f_frame_chord_fits (.c (.loop b_frame_chord_fits_l0) :: k_frame_chord_fits_0) ⟨ρ, m⟩ = some (B ((x.l.drop k).all (fitP c)), s) := by
  refine loop_up x.l.length _ (fun k => some (B ((x.l.drop k).all (fitP c)), s)) ?_ ?_
  ·rintro k ρ m hk ⟨g2, g7, g8, g9, bx, rfl⟩ ih
   obtain ⟨p, hpk⟩ := get_some hk
   obtain ⟨c0, c1, l0, le, h1⟩ := hp p (List.mem_of_getElem? hpk)
   have hix := Sl.ix (f := rowPr) hx hpk
   have hwk := wrap_succ hk (show (x.l.length : Int) < _ by omega)
   have hden : 0 ≤ c.den ∧ c.den ≤ 1000000 := by have := hc.a0; have := hc.ab; have := hc.b1; unfold Ch.den; omega
   have m1 := mul_bound (u := p.lo) (v := c.den) (A := 1000000000000) (B := 1000000) (by omega) (by omega) (by omega) (by omega)
   have m2 := mul_bound (u := p.hi) (v := c.den) (A := 1000000000000) (B := 1000000) (by omega) (by omega) (by omega) (by omega)
   have w1 := wrap_id (x := p.lo * c.den) (by omega) (by omega)
   have w2 := wrap_id (x := p.hi * c.den) (by omega) (by omega)
   have e1 : ∀ m, callL AP (.fn 40) [.agg (rowCh c), I p.cnt] m = some (I (c.at_ p.cnt), m) := fun m => frame_chord_at hc c0 c1
   have e2 : ∀ m, callL AP (.fn 42) [.agg (rowCh c)] m = some (I c.den, m) := fun m => frame_chord_den hc
   have e3 : ∀ m, callL AP (.fn 38) [I (c.at_ p.cnt), I (p.lo * c.den), I (p.hi * c.den)] m = some (B (fitP c p), m) := fun m => frame_within
   rw [drop_get hpk, List.all_cons]
   simp only [rowPr, rowCh, Sl.v] at hix g7 e1 e2 ⊢
   cases hf : fitP c p with
   | true =>
    rw [hf] at e3
    simp (maxSteps := 1000000) only [go_sem, b_frame_chord_fits_l0, g2, g7, g8, g9, hs, lt_dec hk, hix, e1, e2, e3, w1, w2, hwk, List.length_cons, Nat.reduceEqDiff, Nat.reduceAdd, ↓reduceIte]
    exact ih _ _ ⟨g2, g7, g8, rfl, _, rfl⟩
   | false =>
    rw [hf] at e3
    simp (maxSteps := 1000000) only [go_sem, b_frame_chord_fits_l0, g2, g7, g8, g9, hs, lt_dec hk, hix, e1, e2, e3, w1, w2, List.length_cons, Nat.reduceEqDiff, Nat.reduceAdd, ↓reduceIte]
    rfl
  ·rintro ρ m ⟨g2, g7, g8, g9, bx, rfl⟩
   rw [List.drop_length]
   simp (maxSteps := 1000000) only [go_sem, b_frame_chord_fits_l0, b_frame_chord_fits_r0, g8, g9, ge_dec, ↓reduceIte]
 rw [callL_go (show AP 67 = some c_frame_chord_fits from rfl) rfl]
 simp only [Sl.v, rowCh] at key ⊢
 simp (maxSteps := 1000000) only [go_sem, b_frame_chord_fits, Nat.reduceEqDiff, Nat.reduceAdd, ↓reduceIte]
 exact key 0 _ _ (Nat.zero_le _) ⟨rfl, rfl, rfl, rfl, _, rfl⟩
end
end Go.Ax.Sx.Ck

namespace Go.Ax.Sx.Ck
open Go.Ax
set_option linter.unusedSimpArgs false
set_option linter.unusedVariables false
set_option maxRecDepth 100000
section
variable {s : Sig}
theorem r_RulesErr {L C : Int} (hs : Ok s) : ∃ e, callL AP (.fn 5) [rulesV L C] s = some (I e, s) ∧ (e = 0 → RuOk L C) := by
 have e1 : ∀ m, callL AP (.fn 11) [I L, I 4, I 24] m = some (B (wi L 4 24), m) := fun m => b_Within
 have e2 : ∀ m, callL AP (.fn 11) [I C, I 1, I 4] m = some (B (wi C 1 4), m) := fun m => b_Within
 cases h1 : wi L 4 24 with
 | false =>
  rw [h1] at e1
  refine ⟨2, ?_, fun q => by omega⟩
  rw [callL_go (show AP 5 = some c_r_RulesErr from rfl) rfl]
  simp (maxSteps := 1000000) only [go_sem, b_r_RulesErr, e1, Nat.reduceEqDiff, Nat.reduceAdd, ↓reduceIte]
 | true =>
  rw [h1] at e1
  cases h2 : wi C 1 4 with
  | false =>
   rw [h2] at e2
   refine ⟨2, ?_, fun q => by omega⟩
   rw [callL_go (show AP 5 = some c_r_RulesErr from rfl) rfl]
   simp (maxSteps := 1000000) only [go_sem, b_r_RulesErr, e1, e2, Nat.reduceEqDiff, Nat.reduceAdd, ↓reduceIte]
  | true =>
   rw [h2] at e2
   refine ⟨0, ?_, fun _ => ⟨(wi_iff.1 h1).1, (wi_iff.1 h1).2, (wi_iff.1 h2).1, (wi_iff.1 h2).2⟩⟩
   rw [callL_go (show AP 5 = some c_r_RulesErr from rfl) rfl]
   simp (maxSteps := 1000000) only [go_sem, b_r_RulesErr, e1, e2, Nat.reduceEqDiff, Nat.reduceAdd, ↓reduceIte]
def OkTo (l : List Pr) (k : Nat) : Prop := (∀ (i : Nat) (a : Pr), i < k → l[i]? = some a → a.Ok) ∧ ∀ (i : Nat) (a b : Pr), i + 1 < k → l[i]? = some a → l[i + 1]? = some b → a.cnt < b.cnt
theorem r_CheckPairs {x : Sl Pr} (hs : Ok s) (hx : x.ok 3) (hl : x.l.length ≤ 1000000) : ∃ i e, callL AP (.fn 19) [x.v rowPr] s = some (.tuple [I i, I e], s) ∧ (e = 0 → PsOk x.l) := by
 by_cases h0 : x.l.length = 0
 ·have d1 : decide ((x.l.length : Int) = 0) = true := decide_eq_true (by omega)
  refine ⟨0, 10, ?_, fun q => by omega⟩
  simp only [Sl.v]
  rw [callL_go (show AP 19 = some c_r_CheckPairs from rfl) rfl]
  simp (maxSteps := 1000000) only [go_sem, b_r_CheckPairs, d1, Nat.reduceEqDiff, reduceCtorEq, ↓reduceIte]
 ·have d1 : decide ((x.l.length : Int) = 0) = false := decide_eq_false (by omega)
  by_cases h20 : 20 < x.l.length
  ·have d2 : decide ((20 : Int) < (x.l.length : Int)) = true := decide_eq_true (by omega)
   refine ⟨0, 8, ?_, fun q => by omega⟩
   simp only [Sl.v]
   rw [callL_go (show AP 19 = some c_r_CheckPairs from rfl) rfl]
   simp (maxSteps := 1000000) only [go_sem, b_r_CheckPairs, d1, d2, Nat.reduceEqDiff, reduceCtorEq, ↓reduceIte]
  ·have d2 : decide ((20 : Int) < (x.l.length : Int)) = false := decide_eq_false (by omega)
   have key : ∀ (k : Nat) ρ m, k ≤ x.l.length → (ρ 0 = x.v rowPr ∧ ρ 4 = I k ∧ m = s.push ⟨[], []⟩ ∧ OkTo x.l k) →
     ∃ i e, go AP f_r_CheckPairs (.c (.loop b_r_CheckPairs_l0) :: k_r_CheckPairs_0) ⟨ρ, m⟩ = some (.tuple [I i, I e], s) ∧ (e = 0 → PsOk x.l) := by
    refine loop_ex x.l.length _ (fun v => ∃ i e, v = some (.tuple [I i, I e], s) ∧ (e = 0 → PsOk x.l)) ?_ ?_
    ·rintro k ρ m hk ⟨g0, g4, rfl, hok⟩ ih
     obtain ⟨p, hp⟩ := get_some hk
     have hix := Sl.ix (f := rowPr) hx hp
     have hwk := wrap_succ hk (show (x.l.length : Int) < _ by omega)
     have e1 : ∀ m, callL AP (.fn 11) [I p.cnt, I 0, I 1000000] m = some (B (wi p.cnt 0 1000000), m) := fun m => b_Within
     have e2 : ∀ m, callL AP (.fn 11) [I p.lo, I 0, I 1000000000000] m = some (B (wi p.lo 0 1000000000000), m) := fun m => b_Within
     have e3 : ∀ m, callL AP (.fn 11) [I p.hi, I 0, I 1000000000000] m = some (B (wi p.hi 0 1000000000000), m) := fun m => b_Within
     simp only [rowPr, Sl.v] at hix g0
     cases h1 : wi p.cnt 0 1000000 with
     | false =>
      rw [h1] at e1
      refine ⟨k, 2, ?_, fun q => by omega⟩
      simp (maxSteps := 1000000) only [go_sem, b_r_CheckPairs_l0, g0, g4, lt_dec hk, hix, e1, Nat.reduceEqDiff, reduceCtorEq, Nat.reduceAdd, ↓reduceIte]
     | true =>
     rw [h1] at e1
     cases h2 : wi p.lo 0 1000000000000 with
     | false =>
      rw [h2] at e2
      refine ⟨k, 2, ?_, fun q => by omega⟩
      simp (maxSteps := 1000000) only [go_sem, b_r_CheckPairs_l0, g0, g4, lt_dec hk, hix, e1, e2, Nat.reduceEqDiff, reduceCtorEq, Nat.reduceAdd, ↓reduceIte]
     | true =>
     rw [h2] at e2
     cases h3 : wi p.hi 0 1000000000000 with
     | false =>
      rw [h3] at e3
      refine ⟨k, 2, ?_, fun q => by omega⟩
      simp (maxSteps := 1000000) only [go_sem, b_r_CheckPairs_l0, g0, g4, lt_dec hk, hix, e1, e2, e3, Nat.reduceEqDiff, reduceCtorEq, Nat.reduceAdd, ↓reduceIte]
     | true =>
     rw [h3] at e3
     by_cases h4 : p.hi < p.lo
     ·have d4 : decide (p.hi < p.lo) = true := decide_eq_true h4
      refine ⟨k, 9, ?_, fun q => by omega⟩
      simp (maxSteps := 1000000) only [go_sem, b_r_CheckPairs_l0, g0, g4, lt_dec hk, hix, e1, e2, e3, d4, Nat.reduceEqDiff, reduceCtorEq, Nat.reduceAdd, ↓reduceIte]
     ·have d4 : decide (p.hi < p.lo) = false := decide_eq_false h4
      have hpo : p.Ok := ⟨(wi_iff.1 h1).1, (wi_iff.1 h1).2, (wi_iff.1 h2).1, by omega, (wi_iff.1 h3).2⟩
      have hok1 : ∀ (i : Nat) (a : Pr), i < k + 1 → x.l[i]? = some a → a.Ok := fun i a hi ha => by
       rcases Nat.lt_or_ge i k with q | q
       ·exact hok.1 i a q ha
       ·have : i = k := by omega
        subst this; rw [hp] at ha; injection ha with ha; subst ha; exact hpo
      by_cases hk0 : k = 0
      ·subst hk0
       have d5 : decide ((0 : Int) < 0) = false := by decide
       have g4' : ρ 4 = I 0 := g4
       have hix' : indexAddrOp none 3 (.slice x.o x.e (List.map rowPr x.l)) (I 0) = some (.eptr (rowPr p) 0) := hix
       have hwk' : IntKind.i64.wrap (0 + 1) = ((0 + 1 : Nat) : Int) := hwk
       have d0 : decide ((0 : Int) < (x.l.length : Int)) = true := decide_eq_true (by omega)
       clear g4 hix hwk
       simp only [rowPr] at hix'
       have ih2 := fun ρ' (q0 : ρ' 0 = x.v rowPr) (q4 : ρ' 4 = I ((0 + 1 : Nat) : Int)) => ih ρ' _ ⟨q0, q4, rfl, hok1, fun i a b hi => by omega⟩
       simp (maxSteps := 1000000) only [go_sem, b_r_CheckPairs_l0, g0, g4', d0, hix', e1, e2, e3, d4, Nat.reduceEqDiff, reduceCtorEq, Nat.reduceAdd, Int.reduceLT, Int.reduceLE, Int.reduceAdd, Int.reduceNeg, ↓reduceIte]
       exact ih2 _ g0 rfl
      ·obtain ⟨j, rfl⟩ : ∃ j, k = j + 1 := ⟨k - 1, by omega⟩
       obtain ⟨r, hr⟩ := get_some (l := x.l) (k := j) (by omega)
       have hix2 := Sl.ix (f := rowPr) hx hr
       have d5 : decide ((0 : Int) < ((j + 1 : Nat) : Int)) = true := decide_eq_true (by omega)
       have w1 : IntKind.i64.wrap (((j + 1 : Nat) : Int) - 1) = (j : Int) := by rw [wrap_id (by omega) (by omega)]; omega
       simp only [rowPr, Sl.v] at hix2
       by_cases h6 : p.cnt ≤ r.cnt
       ·have d6 : decide (p.cnt ≤ r.cnt) = true := decide_eq_true h6
        refine ⟨(j + 1 : Nat), 9, ?_, fun q => by omega⟩
        simp (maxSteps := 1000000) only [go_sem, b_r_CheckPairs_l0, g0, g4, lt_dec hk, hix, e1, e2, e3, d4, d5, d6, hix2, w1, Nat.reduceEqDiff, reduceCtorEq, Nat.reduceAdd, ↓reduceIte]
       ·have d6 : decide (p.cnt ≤ r.cnt) = false := decide_eq_false h6
        have ih2 := fun ρ' (q0 : ρ' 0 = x.v rowPr) (q4 : ρ' 4 = I ((j + 1 + 1 : Nat) : Int)) => ih ρ' _ ⟨q0, q4, rfl, hok1, fun i a b hi ha hb => by
         rcases Nat.lt_or_ge (i + 1) (j + 1) with q | q
         ·exact hok.2 i a b q ha hb
         ·have : i = j := by omega
          subst this
          rw [hr] at ha; injection ha with ha; subst ha
          rw [hp] at hb; injection hb with hb; subst hb
          omega⟩
        simp (maxSteps := 1000000) only [go_sem, b_r_CheckPairs_l0, g0, g4, lt_dec hk, hix, e1, e2, e3, d4, d5, d6, hix2, w1, hwk, Nat.reduceEqDiff, reduceCtorEq, Nat.reduceAdd, ↓reduceIte]
        exact ih2 _ g0 rfl
    ·rintro ρ m ⟨g0, g4, rfl, hok⟩
     refine ⟨0, 0, ?_, fun _ => ⟨by omega, by omega, fun p hp => ?_, fun i a b h1 h2 => hok.2 i a b (List.getElem?_eq_some_iff.1 h2).1 h1 h2⟩⟩
     ·simp only [Sl.v] at g0
      simp (maxSteps := 1000000) only [go_sem, b_r_CheckPairs_l0, b_r_CheckPairs_r0, g0, g4, ge_dec, Nat.reduceEqDiff, reduceCtorEq, ↓reduceIte]
     ·obtain ⟨i, hi⟩ := List.getElem?_of_mem hp
      exact hok.1 i p (List.getElem?_eq_some_iff.1 hi).1 hi
   simp only [Sl.v] at key ⊢
   rw [callL_go (show AP 19 = some c_r_CheckPairs from rfl) rfl]
   simp (maxSteps := 1000000) only [go_sem, b_r_CheckPairs, d1, d2, reduceCtorEq, ↓reduceIte]
   exact key 0 _ _ (Nat.zero_le _) ⟨rfl, rfl, rfl, fun i a h => by omega, fun i a b h => by omega⟩
theorem r_PairsErr {x : Sl Pr} (hs : Ok s) (hx : x.ok 3) (hl : x.l.length ≤ 1000000) : ∃ e, callL AP (.fn 6) [x.v rowPr] s = some (I e, s) ∧ (e = 0 → PsOk x.l) := by
 obtain ⟨i, e, h1, h2⟩ := r_CheckPairs (s := s.push ⟨[], []⟩) (hs.push _) hx hl
 refine ⟨e, ?_, h2⟩
 simp only [Sl.v] at h1 ⊢
 rw [callL_go (show AP 6 = some c_r_PairsErr from rfl) rfl]
 simp (maxSteps := 1000000) only [go_sem, b_r_PairsErr, h1, Nat.reduceEqDiff, reduceCtorEq, ↓reduceIte]
end
end Go.Ax.Sx.Ck

namespace Go.Ax.Sx.Ck
open Go.Ax
set_option linter.unusedSimpArgs false
set_option linter.unusedVariables false
set_option maxRecDepth 100000
section
variable {s : Sig}
def exPk : Sl Pk := ⟨.full, 3, [⟨9, 0, ⟨.full, 1, [1, 2]⟩⟩, ⟨9, 1, ⟨.full, 1, [3]⟩⟩]⟩
def exPr : Sl Pr := ⟨.full, 3, [⟨0, 10, 12⟩, ⟨10, 30, 32⟩, ⟨20, 50, 51⟩]⟩
theorem l_Rules (hs : Ok s) : callL AP (.fn 15) [] s = some (rulesV 4 2, s) := by
 rw [callL_go (show AP 15 = some c_l_Rules from rfl) rfl]
 simp (maxSteps := 1000000) only [go_sem, b_l_Rules, hs, reduceCtorEq, ↓reduceIte]
theorem l_Packets : callL AP (.fn 16) [] s = some (exPk.v rowPk, s) := by
 rw [callL_go (show AP 16 = some c_l_Packets from rfl) rfl]
 simp (maxSteps := 1000000) only [go_sem, b_l_Packets, Nat.reduceEqDiff, ↓reduceIte]
 rfl
theorem l_Pairs : callL AP (.fn 17) [] s = some (exPr.v rowPr, s) := by
 rw [callL_go (show AP 17 = some c_l_Pairs from rfl) rfl]
 simp (maxSteps := 1000000) only [go_sem, b_l_Pairs, Nat.reduceEqDiff, ↓reduceIte]
 rfl
theorem b_Ranges_ex {o o' : Own} : callL AP (.fn 18) [.slice o 2 [[I 0, I 2]], .slice o' 2 [[I 0, I 2]]] s = some (B true, s) := by
 have x1 : ∀ o : Own, indexAddrOp none 2 (.slice o 2 [[I 0, I 2]]) (I 0) = some (.eptr [I 0, I 2] 0) := fun o => rfl
 have e1 : ∀ o : Own, lenOp false (.slice o 2 [[I 0, I 2]]) = some (I 1) := fun o => rfl
 have e2 : eqOp (.agg [.int, .int]) (.agg [I 0, I 2]) (.agg [I 0, I 2]) = some true := rfl
 have d1 : decide ((0 : Int) < 1) = true := by decide
 have d2 : decide ((1 : Int) < 1) = false := by decide
 have d3 : decide ((1 : Int) = 1) = true := by decide
 have w1 : IntKind.i64.wrap (0 + 1) = 1 := by rw [wrap_id (by omega) (by omega)]; rfl
 rw [callL_go (show AP 18 = some c_b_Ranges from rfl) rfl]
 simp (maxSteps := 1000000) only [go_sem, b_b_Ranges, e1, Nat.reduceEqDiff, reduceCtorEq, ↓reduceIte, ne_eq, not_true]
 rw [go_loop]
 simp (maxSteps := 1000000) only [go_sem, b_b_Ranges_l0, e1, x1, e2, Bool.not_true, Nat.reduceEqDiff, reduceCtorEq, Int.reduceLT, Int.reduceLE, Int.reduceAdd, Int.reduceNeg, ↓reduceIte]
 rw [go_loop]
 simp (maxSteps := 1000000) only [go_sem, b_b_Ranges_r0, e1, Nat.reduceEqDiff, reduceCtorEq, Int.reduceLT, ↓reduceIte]
end
end Go.Ax.Sx.Ck

namespace Go.Ax.Sx.Ck
open Go.Ax
set_option linter.unusedSimpArgs false
set_option linter.unusedVariables false
set_option maxRecDepth 100000
section
variable {s : Sig}
theorem frame_linesErr {x : Sl Pr} {b : Bool} (hs : Ok s) (hx : x.ok 3) (h : PsOk x.l) (h2 : 2 ≤ x.l.length) (hline : ∀ m, Ok m → callL AP (.fn 36) [x.v rowPr] m = some (B b, m)) :
  callL AP (.fn 37) [x.v rowPr] s = some (I (cond b 0 13), s) := by
 have e1 : ∀ r, callL AP (.fn 35) [x.v rowPr] (s.push r) = some (.tuple [I 0, I 0], s.push r) := fun r => frame_CheckPairs (hs.push r) hx h
 have d1 : decide ((1 : Int) < (x.l.length : Int)) = true := decide_eq_true (by omega)
 simp only [Sl.v] at e1 hline ⊢
 cases b with
 | true =>
  rw [callL_go (show AP 37 = some c_frame_linesErr from rfl) rfl]
  simp (maxSteps := 1000000) only [go_sem, b_frame_linesErr, e1, hline, hs, d1, frame_unless, frame_first2, firstErr, Nat.reduceEqDiff, reduceCtorEq, ↓reduceIte, ne_eq, not_true]
 | false =>
  rw [callL_go (show AP 37 = some c_frame_linesErr from rfl) rfl]
  simp (maxSteps := 1000000) only [go_sem, b_frame_linesErr, e1, hline, hs, d1, frame_unless, frame_first2, firstErr, Nat.reduceEqDiff, reduceCtorEq, Int.reduceEq, ↓reduceIte, ne_eq, not_true]
theorem frame_isLine {x : Sl Pr} {b : Bool} {n0 n1 : Int} {d0 d1 : Int} (hs : Ok s) (h2 : 2 ≤ x.l.length)
  (hr : ∀ m, Ok m → callL AP (.fn 64) [x.v rowPr] m = some (.agg [I n0, I d0, I n1, I d1], m))
  (hl : ∀ m, callL AP (.fn 65) [.agg [I n1, I d1], .agg [I n0, I d0]] m = some (B b, m)) :
  callL AP (.fn 36) [x.v rowPr] s = some (B (!b), s) := by
 have q1 : decide ((x.l.length : Int) < 2) = false := decide_eq_false (by omega)
 simp only [Sl.v] at hr ⊢
 rw [callL_go (show AP 36 = some c_frame_isLine from rfl) rfl]
 simp (maxSteps := 1000000) only [go_sem, b_frame_isLine, hr, hl, hs, q1, Nat.reduceEqDiff, reduceCtorEq, Nat.reduceAdd, Nat.reduceMul, Int.reduceLT, Int.reduceLE, Int.reduceToNat, Int.cast_ofNat_Int, ↓reduceIte]
end
end Go.Ax.Sx.Ck

namespace Go.Ax.Sx.Ck
open Go.Ax
set_option linter.unusedSimpArgs false
set_option linter.unusedVariables false
set_option maxRecDepth 100000
def dC (q p : Pr) : Nat := (q.cnt - p.cnt).toNat
def slowF (q p : Pr) : Int × Int := (lowA (q.lo - p.hi) (dC q p), (lowB (q.lo - p.hi) (dC q p) : Nat))
def fastF (q p : Pr) : Int × Int := (lowA (q.hi - p.lo) (dC q p), (lowB (q.hi - p.lo) (dC q p) : Nat))
def lessF (a b : Int × Int) : Bool := decide (a.1 * b.2 < b.1 * a.2)
theorem lowA_b {num : Int} {D : Nat} {A : Int} (h1 : -A ≤ num) (h2 : num ≤ A) : -A ≤ lowA num D ∧ lowA num D ≤ A := by
 have h4 : (lowA num D).natAbs ≤ num.natAbs := by
  unfold lowA; rw [Int.natAbs_tdiv]; exact Nat.div_le_self _ _
 omega
theorem lowB_b {num : Int} {D : Nat} (h : 1 ≤ D) : 1 ≤ lowB num D ∧ lowB num D ≤ D := by
 refine ⟨?_, Nat.div_le_self _ _⟩
 have h1 := lowB_mul (num := num) (D := D)
 rcases Nat.eq_zero_or_pos (lowB num D) with h2 | h2
 ·rw [h2, Nat.zero_mul] at h1; omega
 ·exact h2
theorem low_cmp {num : Int} {D : Nat} : lowA num D * (D : Int) = num * (lowB num D : Nat) := by
 have h1 := lowA_mul (num := num) (D := D)
 have h2 := lowB_mul (num := num) (D := D)
 have h3 : (D : Int) = (lowB num D : Nat) * (gcdF num D : Nat) := by exact_mod_cast h2.symm
 calc lowA num D * (D : Int) = lowA num D * ((lowB num D : Nat) * (gcdF num D : Nat)) := by rw [← h3]
  _ = (lowA num D * (gcdF num D : Nat)) * (lowB num D : Nat) := by
   rw [Int.mul_comm ((lowB num D : Nat) : Int), Int.mul_assoc]
  _ = num * (lowB num D : Nat) := by rw [h1]
end Go.Ax.Sx.Ck

namespace Go.Ax.Sx.Ck
open Go.Ax
set_option linter.unusedSimpArgs false
set_option linter.unusedVariables false
set_option maxRecDepth 100000
def stepRt (S : Bool × (Int × Int) × (Int × Int)) (qp : Pr × Pr) : Bool × (Int × Int) × (Int × Int) :=
 (true, if (!S.1 || lessF S.2.1 (slowF qp.1 qp.2)) = true then slowF qp.1 qp.2 else S.2.1, if (!S.1 || lessF (fastF qp.1 qp.2) S.2.2) = true then fastF qp.1 qp.2 else S.2.2)
def prsOf (l : List Pr) (n : Nat) : List (Pr × Pr) := (List.range n).flatMap fun i => match l[i]? with
 | some q => (l.take i).map fun p => (q, p)
 | none => []
def ratesS (l : List Pr) : Bool × (Int × Int) × (Int × Int) := (prsOf l l.length).foldl stepRt (false, (0, 0), (0, 0))
theorem prsOf_s {l : List Pr} {k : Nat} {q : Pr} (h : l[k]? = some q) : prsOf l (k + 1) = prsOf l k ++ (l.take k).map fun p => (q, p) := by
 unfold prsOf
 rw [List.range_succ, List.flatMap_append]
 simp [h]
theorem slot_last2 {bx : List (List AV)} {z : AV} {r : List AV} : slotL (bx ++ [[], []]) [] 2 (z :: r) = some (bx.length, bx ++ [z :: r, []]) := by
 have h1 : (bx ++ [([] : List AV), []]).length - 2 = bx.length := by simp
 unfold slotL
 simp [h1]
theorem sl_to {o : Own} {xs : List (List AV)} {es hi : Nat} (h2 : hi ≤ xs.length) : ∃ o', sliceOp (.sl es) (.slice o es xs) none (some (I (hi : Int))) none = some (.slice o' es (xs.take hi)) := by
 have a1 : asNat (I (hi : Int)) xs.length = some hi := by
  have : (0 : Int) ≤ (hi : Int) ∧ (hi : Int) ≤ (xs.length : Int) := by omega
  simp only [asNat, this, and_self, if_true, Int.toNat_natCast]
 exact ⟨slOwn o false (0 == 0 && hi == xs.length) (hi == xs.length && decide (0 < xs.length)), by simp only [sliceOp, mxOf, hiOf, loOf, or_true, if_true, a1, Option.bind_some, Option.map_some, Option.isSome_none, List.drop_zero]⟩
end Go.Ax.Sx.Ck

namespace Go.Ax.Sx.Ck
open Go.Ax
set_option linter.unusedSimpArgs false
set_option linter.unusedVariables false
set_option maxRecDepth 100000
def leF (a b : Int × Int) : Prop := a.1 * b.2 ≤ b.1 * a.2
theorem lessF_f {a b : Int × Int} (h : lessF a b = false) : leF b a := by
 unfold lessF at h
 have := of_decide_eq_false h
 unfold leF; omega
theorem lessF_t {a b : Int × Int} (h : lessF a b = true) : leF a b := by
 unfold lessF at h
 have := of_decide_eq_true h
 unfold leF; omega
theorem leF_refl {a : Int × Int} : leF a a := Int.le_refl _
theorem leF_trans {a b c : Int × Int} (ha : 0 < a.2) (hb : 0 < b.2) (hc : 0 < c.2) (h1 : leF a b) (h2 : leF b c) : leF a c := by
 unfold leF at *
 have q1 := Int.mul_le_mul_of_nonneg_right h1 (Int.le_of_lt hc)
 have q2 := Int.mul_le_mul_of_nonneg_right h2 (Int.le_of_lt ha)
 have q3 : a.1 * c.2 * b.2 ≤ c.1 * a.2 * b.2 := by
  calc a.1 * c.2 * b.2 = a.1 * b.2 * c.2 := by rw [Int.mul_right_comm]
   _ ≤ b.1 * a.2 * c.2 := q1
   _ = b.1 * c.2 * a.2 := by rw [Int.mul_right_comm]
   _ ≤ c.1 * b.2 * a.2 := q2
   _ = c.1 * a.2 * b.2 := by rw [Int.mul_right_comm]
 exact Int.le_of_mul_le_mul_right q3 hb
theorem low_le {n n' : Int} {D D' : Nat} (h1 : 1 ≤ D) (h2 : 1 ≤ D') (h : leF (lowA n D, (lowB n D : Nat)) (lowA n' D', (lowB n' D' : Nat))) : n * (D' : Int) ≤ n' * (D : Int) := by
 unfold leF at h
 simp only at h
 have a1 := low_cmp (num := n) (D := D)
 have a2 := low_cmp (num := n') (D := D')
 have b1 := (lowB_b (num := n) h1).1
 have b2 := (lowB_b (num := n') h2).1
 generalize lowA n D = A at *
 generalize lowA n' D' = A' at *
 generalize lowB n D = B at *
 generalize lowB n' D' = B' at *
 have hDD : (0 : Int) ≤ (D : Int) * (D' : Int) := Int.mul_nonneg (by omega) (by omega)
 have q1 := Int.mul_le_mul_of_nonneg_right h hDD
 have hBB : (0 : Int) < (B : Int) * (B' : Int) := Int.mul_pos (by omega) (by omega)
 have q3 : (n * (D' : Int)) * ((B : Int) * (B' : Int)) ≤ (n' * (D : Int)) * ((B : Int) * (B' : Int)) := by
  calc (n * (D' : Int)) * ((B : Int) * (B' : Int)) = (n * (B : Int)) * ((B' : Int) * (D' : Int)) := by ac_rfl
   _ = (A * (D : Int)) * ((B' : Int) * (D' : Int)) := by rw [a1]
   _ = A * (B' : Int) * ((D : Int) * (D' : Int)) := by ac_rfl
   _ ≤ A' * (B : Int) * ((D : Int) * (D' : Int)) := q1
   _ = (A' * (D' : Int)) * ((B : Int) * (D : Int)) := by ac_rfl
   _ = (n' * (B' : Int)) * ((B : Int) * (D : Int)) := by rw [a2]
   _ = (n' * (D : Int)) * ((B : Int) * (B' : Int)) := by ac_rfl
 exact Int.le_of_mul_le_mul_right q3 hBB
theorem slowF_pos {q p : Pr} (h : 1 ≤ dC q p) : 0 < (slowF q p).2 := by
 have := (lowB_b (num := q.lo - p.hi) h).1
 show (0 : Int) < (lowB (q.lo - p.hi) (dC q p) : Nat); omega
theorem fastF_pos {q p : Pr} (h : 1 ≤ dC q p) : 0 < (fastF q p).2 := by
 have := (lowB_b (num := q.hi - p.lo) h).1
 show (0 : Int) < (lowB (q.hi - p.lo) (dC q p) : Nat); omega
structure RtG (L : List (Pr × Pr)) (S : Bool × (Int × Int) × (Int × Int)) : Prop where
 t : S.1 = true
 a1 : ∃ x ∈ L, S.2.1 = slowF x.1 x.2
 a2 : ∀ x ∈ L, leF (slowF x.1 x.2) S.2.1
 b1 : ∃ x ∈ L, S.2.2 = fastF x.1 x.2
 b2 : ∀ x ∈ L, leF S.2.2 (fastF x.1 x.2)
theorem rt_step {L : List (Pr × Pr)} {S : Bool × (Int × Int) × (Int × Int)} {x : Pr × Pr} (h : (L = [] ∧ S.1 = false) ∨ RtG L S) (hd : ∀ y ∈ L ++ [x], 1 ≤ dC y.1 y.2) : RtG (L ++ [x]) (stepRt S x) := by
 have hx := hd x (by simp)
 have hL : ∀ y ∈ L, 1 ≤ dC y.1 y.2 := fun y hy => hd y (by simp [hy])
 rcases h with ⟨rfl, h1⟩ | h
 ·unfold stepRt
  rw [h1]
  refine ⟨rfl, ⟨x, by simp, by simp⟩, ?_, ⟨x, by simp, by simp⟩, ?_⟩
  ·intro y hy
   simp at hy; subst hy
   simp; exact leF_refl
  ·intro y hy
   simp at hy; subst hy
   simp; exact leF_refl
 ·obtain ⟨t, ⟨xa, ha, ea⟩, a2, ⟨xb, hb, eb⟩, b2⟩ := h
  have pa : 0 < S.2.1.2 := by rw [ea]; exact slowF_pos (hL xa ha)
  have pb : 0 < S.2.2.2 := by rw [eb]; exact fastF_pos (hL xb hb)
  have sx := slowF_pos hx
  have fx := fastF_pos hx
  refine ⟨rfl, ?_, ?_, ?_, ?_⟩
  ·unfold stepRt
   rw [t]
   by_cases hc : (!true || lessF S.2.1 (slowF x.1 x.2)) = true
   ·simp only [hc, if_true]; exact ⟨x, by simp, rfl⟩
   ·simp only [hc]; exact ⟨xa, by simp [ha], ea⟩
  ·intro y hy
   unfold stepRt
   rw [t]
   by_cases hc : (!true || lessF S.2.1 (slowF x.1 x.2)) = true
   ·simp only [hc, if_true]
    have hc' : lessF S.2.1 (slowF x.1 x.2) = true := by simpa using hc
    rcases List.mem_append.1 hy with hy | hy
    ·exact leF_trans (slowF_pos (hL y hy)) pa sx (a2 y hy) (lessF_t hc')
    ·simp at hy; subst hy; exact leF_refl
   ·simp only [hc]
    have hc' : lessF S.2.1 (slowF x.1 x.2) = false := by simpa using hc
    rcases List.mem_append.1 hy with hy | hy
    ·exact a2 y hy
    ·simp at hy; subst hy; exact lessF_f hc'
  ·unfold stepRt
   rw [t]
   by_cases hc : (!true || lessF (fastF x.1 x.2) S.2.2) = true
   ·simp only [hc, if_true]; exact ⟨x, by simp, rfl⟩
   ·simp only [hc]; exact ⟨xb, by simp [hb], eb⟩
  ·intro y hy
   unfold stepRt
   rw [t]
   by_cases hc : (!true || lessF (fastF x.1 x.2) S.2.2) = true
   ·simp only [hc, if_true]
    have hc' : lessF (fastF x.1 x.2) S.2.2 = true := by simpa using hc
    rcases List.mem_append.1 hy with hy | hy
    ·exact leF_trans fx pb (fastF_pos (hL y hy)) (lessF_t hc') (b2 y hy)
    ·simp at hy; subst hy; exact leF_refl
   ·simp only [hc]
    have hc' : lessF (fastF x.1 x.2) S.2.2 = false := by simpa using hc
    rcases List.mem_append.1 hy with hy | hy
    ·exact b2 y hy
    ·simp at hy; subst hy; exact lessF_f hc'
theorem rt_fold : ∀ (M L : List (Pr × Pr)) (S : Bool × (Int × Int) × (Int × Int)), ((L = [] ∧ S.1 = false) ∨ RtG L S) → (∀ y ∈ L ++ M, 1 ≤ dC y.1 y.2) → (L ++ M = [] ∧ (M.foldl stepRt S).1 = false) ∨ RtG (L ++ M) (M.foldl stepRt S)
 | [], L, S, h, hd => by simpa using h
 | x :: M, L, S, h, hd => by
  have h1 := rt_step (x := x) h (fun y hy => hd y (by
   rcases List.mem_append.1 hy with hy | hy
   ·simp [hy]
   ·simp at hy; simp [hy]))
  have h2 := rt_fold M (L ++ [x]) (stepRt S x) (.inr h1) (fun y hy => hd y (by simpa using hy))
  simpa using h2
theorem mem_prs {l : List Pr} {n : Nat} {x : Pr × Pr} : x ∈ prsOf l n ↔ ∃ i j, j < i ∧ i < n ∧ l[i]? = some x.1 ∧ l[j]? = some x.2 := by
 unfold prsOf
 rw [List.mem_flatMap]
 constructor
 ·rintro ⟨i, hi, hx⟩
  rw [List.mem_range] at hi
  cases hq : l[i]? with
  | none => rw [hq] at hx; cases hx
  | some q =>
   rw [hq] at hx
   simp only [List.mem_map] at hx
   obtain ⟨p, hp, rfl⟩ := hx
   obtain ⟨j, hj⟩ := List.getElem?_of_mem hp
   rw [List.getElem?_take] at hj
   split at hj
   ·rename_i h; exact ⟨i, j, h, hi, hq, hj⟩
   ·cases hj
 ·rintro ⟨i, j, hji, hi, hq, hp⟩
  refine ⟨i, List.mem_range.2 hi, ?_⟩
  rw [hq]
  simp only [List.mem_map]
  refine ⟨x.2, ?_, rfl⟩
  refine List.mem_of_getElem? (i := j) ?_
  rw [List.getElem?_take, if_pos hji]; exact hp
theorem asc_lt {l : List Pr} (h : AscP l) : ∀ {j i : Nat} {a b : Pr}, i < j → l[i]? = some a → l[j]? = some b → a.cnt < b.cnt := by
 intro j
 induction j with
 | zero => intro i a b h1; omega
 | succ j ih =>
  intro i a b h1 ha hb
  have hj : j + 1 < l.length := (List.getElem?_eq_some_iff.1 hb).1
  obtain ⟨c, hc⟩ := get_some (l := l) (k := j) (by omega)
  have h2 := h j c b hc hb
  rcases Nat.lt_or_ge i j with h3 | h3
  ·have := ih h3 ha hc; omega
  ·have e : i = j := by omega
   subst e
   rw [ha] at hc; cases hc; exact h2
theorem prs_pos {l : List Pr} (h : AscP l) {n : Nat} {x : Pr × Pr} (hx : x ∈ prsOf l n) : 1 ≤ dC x.1 x.2 := by
 obtain ⟨i, j, h1, h2, h3, h4⟩ := mem_prs.1 hx
 have := asc_lt h h1 h4 h3
 unfold dC; omega
theorem rates_good {l : List Pr} (h : AscP l) (h2 : 2 ≤ l.length) : RtG (prsOf l l.length) (ratesS l) := by
 have h1 := rt_fold (prsOf l l.length) [] (false, (0, 0), (0, 0)) (.inl ⟨rfl, rfl⟩) (fun y hy => prs_pos h hy)
 rw [List.nil_append] at h1
 rcases h1 with ⟨h3, _⟩ | h1
 ·exfalso
  obtain ⟨p, hp⟩ := get_some (l := l) (k := 0) (by omega)
  obtain ⟨q, hq⟩ := get_some (l := l) (k := 1) (by omega)
  have : (q, p) ∈ prsOf l l.length := mem_prs.2 ⟨1, 0, by omega, by omega, hq, hp⟩
  rw [h3] at this; cases this
 ·exact h1
def isLn (l : List Pr) : Bool := decide (l.length < 2) || !lessF (ratesS l).2.2 (ratesS l).2.1
theorem line_raw {l : List Pr} (h : AscP l) (h2 : 2 ≤ l.length) (hl : isLn l = true) : ∃ (i j : Nat) (p q : Pr), i < j ∧ l[i]? = some p ∧ l[j]? = some q ∧ ∀ (a b : Nat) (x y : Pr), a < b → l[a]? = some x → l[b]? = some y →
  (y.lo - x.hi) * (q.cnt - p.cnt) ≤ (q.lo - p.hi) * (y.cnt - x.cnt) ∧ (q.lo - p.hi) * (y.cnt - x.cnt) ≤ (y.hi - x.lo) * (q.cnt - p.cnt) := by
 obtain ⟨t, ⟨⟨q, p⟩, ha, ea⟩, a2, ⟨xb, hb, eb⟩, b2⟩ := rates_good h h2
 have d1 : decide (l.length < 2) = false := decide_eq_false (by omega)
 unfold isLn at hl
 rw [d1, Bool.false_or] at hl
 have hle := lessF_f (by simpa using hl)
 have hqp := prs_pos h ha
 have pb : 0 < (ratesS l).2.2.2 := by rw [eb]; exact fastF_pos (prs_pos h hb)
 have pa : 0 < (ratesS l).2.1.2 := by rw [ea]; exact slowF_pos hqp
 obtain ⟨j, i, hij, _, hj, hi⟩ := mem_prs.1 ha
 simp only at hi hj
 have hc := asc_lt h hij hi hj
 have eD : ((dC q p : Nat) : Int) = q.cnt - p.cnt := by unfold dC; omega
 refine ⟨i, j, p, q, hij, hi, hj, ?_⟩
 intro a b x y hab hx hy
 have hxy : (y, x) ∈ prsOf l l.length := mem_prs.2 ⟨b, a, hab, (List.getElem?_eq_some_iff.1 hy).1, hy, hx⟩
 have hd := prs_pos h hxy
 have hc2 := asc_lt h hab hx hy
 have eD2 : ((dC y x : Nat) : Int) = y.cnt - x.cnt := by unfold dC; omega
 have r1 : leF (slowF y x) (slowF q p) := by rw [← ea]; exact a2 _ hxy
 have r2 : leF (slowF q p) (fastF y x) := by
  rw [← ea]
  exact leF_trans pa pb (fastF_pos hd) hle (b2 _ hxy)
 have s1 := low_le hd hqp r1
 have s2 := low_le hqp hd r2
 rw [eD, eD2] at s1 s2
 exact ⟨s1, s2⟩
theorem chord_ex {l : List Pr} (h : AscP l) (ho : ∀ p ∈ l, p.Ok) (h2 : 2 ≤ l.length) (hl : isLn l = true) : ∃ (i j : Nat) (p q : Pr), i < j ∧ l[i]? = some p ∧ l[j]? = some q ∧ l.all (fitP ⟨p.cnt, p.hi, q.cnt, q.lo⟩) = true := by
 obtain ⟨i, j, p, q, hij, hi, hj, hr⟩ := line_raw h h2 hl
 refine ⟨i, j, p, q, hij, hi, hj, ?_⟩
 rw [List.all_eq_true]
 intro k hk
 obtain ⟨m, hm⟩ := List.getElem?_of_mem hk
 have hc := asc_lt h hij hi hj
 have hp := (ho p (List.mem_of_getElem? hi)).le
 have hq := (ho q (List.mem_of_getElem? hj)).le
 have hpq := (hr i j p q hij hi hj).1
 have hD : 0 ≤ q.cnt - p.cnt := by omega
 have mp := Int.mul_le_mul_of_nonneg_right hp hD
 have mq := Int.mul_le_mul_of_nonneg_right hq hD
 unfold fitP
 refine wi_t ?_ ?_
 ·simp only [Ch.at_, Ch.den]
  rcases Nat.lt_trichotomy m i with h3 | h3 | h3
  ·have := (hr m i k p h3 hm hi).2
   simp only [Int.sub_mul, Int.mul_sub] at this mp mq ⊢
   omega
  ·subst h3
   rw [hi] at hm; cases hm
   simp only [Int.sub_mul, Int.mul_sub] at mp mq ⊢
   omega
  ·have := (hr i m p k h3 hi hm).1
   simp only [Int.sub_mul, Int.mul_sub] at this mp mq ⊢
   omega
 ·simp only [Ch.at_, Ch.den]
  rcases Nat.lt_trichotomy m j with h3 | h3 | h3
  ·have := (hr m j k q h3 hm hj).1
   simp only [Int.sub_mul, Int.mul_sub] at this mp mq ⊢
   omega
  ·subst h3
   rw [hj] at hm; cases hm
   simp only [Int.sub_mul, Int.mul_sub] at mp mq ⊢
   omega
  ·have := (hr j m q k h3 hj hm).2
   simp only [Int.sub_mul, Int.mul_sub] at this mp mq ⊢
   omega
theorem fit_floor {c : Ch} {p : Pr} (hc : c.c1 < c.c2) (h : fitP c p = true) : p.lo ≤ c.at_ p.cnt / c.den ∧ -(-(c.at_ p.cnt) / c.den) ≤ p.hi := by
 have hD : 0 < c.den := by unfold Ch.den; omega
 obtain ⟨h1, h2⟩ := wi_iff.1 h
 refine ⟨(Int.le_ediv_iff_mul_le hD).2 h1, ?_⟩
 have : -p.hi ≤ -(c.at_ p.cnt) / c.den := (Int.le_ediv_iff_mul_le hD).2 (by rw [Int.neg_mul]; omega)
 omega
end Go.Ax.Sx.Ck

namespace Go.Ax.Sx.Ck
open Go.Ax
set_option linter.unusedSimpArgs false
set_option linter.unusedVariables false
set_option maxRecDepth 100000
structure SamePk (p q : Pk) : Prop where
 id : p.id = q.id
 cnt : p.cnt = q.cnt
 data : p.data.l = q.data.l
 ok : p.data.ok 1
inductive Em (F : List Pk) : Nat → List Pk → Prop
 | nil (b : Nat) : Em F b []
 | snoc {b i b' : Nat} {out : List Pk} {p q : Pk} : Em F b out → b ≤ i → i < b' → F[i]? = some q → SamePk p q → q.id ≠ 255 → Em F b' (out ++ [p])
theorem Em.mono {F : List Pk} {b b' : Nat} {out : List Pk} (h : Em F b out) (hb : b ≤ b') : Em F b' out := by
 cases h with
 | nil => exact .nil _
 | snoc h1 h2 h3 h4 h5 h6 => exact .snoc h1 h2 (by omega) h4 h5 h6
theorem pksB_split {F : List Pk} {j : Nat} : pksB F = pksB (F.take j) ++ pksB (F.drop j) := by
 rw [← pksB_app, List.take_append_drop]
theorem pksB_drop {F : List Pk} {j : Nat} : (pksB F).drop (offs F j) = pksB (F.drop j) := by
 have h : (pksB (F.take j) ++ pksB (F.drop j)).drop (pksB (F.take j)).length = pksB (F.drop j) := List.drop_left
 rw [← pksB_split] at h
 exact h
theorem offs_all {F : List Pk} {j : Nat} : offs F j ≤ (pksB F).length := by
 unfold offs
 conv => rhs; rw [pksB_split (j := j)]
 rw [List.length_append]; omega
theorem pksB_get {F : List Pk} {j : Nat} {g : Pk} (h : F[j]? = some g) : (pksB F).drop (offs F j) = g.id :: g.cnt :: (g.data.l.length : Int) :: (g.data.l ++ (pksB F).drop (offs F (j + 1))) := by
 rw [pksB_drop, pksB_drop]
 obtain ⟨hj, hg⟩ := List.getElem?_eq_some_iff.1 h
 rw [List.drop_eq_getElem_cons hj, hg]
 simp [pksB, pkB]
theorem offs_mono {F : List Pk} {i j : Nat} (hi : i ≤ F.length) (hj : j ≤ F.length) (h : offs F i ≤ offs F j) : i ≤ j := by
 rcases Nat.lt_or_ge j i with h1 | h1
 ·have := offs_lt h1 hi; omega
 ·exact h1
theorem parse_em {F : List Pk} {E : Nat} : ∀ (n j : Nat) (out : List Pk), F.length ≤ j + n → j ≤ F.length → offs F j ≤ E → Em F j out →
  ∃ t, j ≤ t ∧ t ≤ F.length ∧ offs F t ≤ E ∧ (parseP n (((pksB F).take E).drop (offs F j))).2 = ((pksB F).take E).drop (offs F t) ∧ Em F t (out ++ (parseP n (((pksB F).take E).drop (offs F j))).1) := by
 intro n
 induction n with
 | zero =>
  intro j out h1 h2 h3 h4
  exact ⟨j, Nat.le_refl _, h2, h3, rfl, by simpa [parseP] using h4⟩
 | succ n ih =>
  intro j out h1 h2 h3 h4
  rw [List.drop_take]
  rcases Nat.lt_or_ge j F.length with h5 | h5
  ·obtain ⟨g, hg⟩ := get_some h5
   rw [pksB_get hg]
   have hos := offs_s hg
   obtain ⟨e, he⟩ : ∃ e, e = E - offs F j := ⟨_, rfl⟩
   rw [← he]
   have stop : ∀ R : List Int, (g.id :: g.cnt :: (g.data.l.length : Int) :: (g.data.l ++ (pksB F).drop (offs F (j + 1)))).take e = R → parseP (n + 1) R = ([], R) → ∃ t, j ≤ t ∧ t ≤ F.length ∧ offs F t ≤ E ∧ (parseP (n + 1) R).2 = ((pksB F).take E).drop (offs F t) ∧ Em F t (out ++ (parseP (n + 1) R).1) := by
    intro R hR hp
    rw [hp]
    refine ⟨j, Nat.le_refl _, h2, h3, ?_, by simpa using h4⟩
    rw [List.drop_take, pksB_get hg, ← he, hR]
   match e, he, stop with
   | 0, he, stop => exact stop [] rfl rfl
   | 1, he, stop => exact stop [g.id] rfl rfl
   | 2, he, stop => exact stop [g.id, g.cnt] rfl rfl
   | e + 3, he, stop =>
    have hT : (g.id :: g.cnt :: (g.data.l.length : Int) :: (g.data.l ++ (pksB F).drop (offs F (j + 1)))).take (e + 3) = g.id :: g.cnt :: (g.data.l.length : Int) :: (g.data.l ++ (pksB F).drop (offs F (j + 1))).take e := rfl
    obtain ⟨r, hr⟩ : ∃ r, r = (g.data.l ++ (pksB F).drop (offs F (j + 1))).take e := ⟨_, rfl⟩
    rw [hT, ← hr] at stop ⊢
    by_cases hlen : r.length < g.data.l.length
    ·refine stop _ rfl ?_
     simp only [parseP, Int.toNat_natCast, hlen, if_true]
    ·have hrl : r.length ≤ e := by rw [hr, List.length_take]; omega
     have hE : offs F (j + 1) ≤ E := by omega
     have e1 : r.take g.data.l.length = g.data.l := by
      rw [hr, List.take_take, Nat.min_eq_left (by omega), List.take_left]
     have e2 : r.drop g.data.l.length = ((pksB F).take E).drop (offs F (j + 1)) := by
      rw [hr, List.drop_take, List.drop_left, List.drop_take]
      congr 1; omega
     have e3 : (parseP (n + 1) (g.id :: g.cnt :: (g.data.l.length : Int) :: r)) = ((if g.id = 255 then [] else [⟨g.id, g.cnt, cpS 1 g.data.l⟩]) ++ (parseP n (((pksB F).take E).drop (offs F (j + 1)))).1, (parseP n (((pksB F).take E).drop (offs F (j + 1)))).2) := by
      simp only [parseP, Int.toNat_natCast, hlen, if_false, e1, e2]
     rw [e3]
     have hem : Em F (j + 1) (out ++ (if g.id = 255 then [] else [⟨g.id, g.cnt, cpS 1 g.data.l⟩])) := by
      split
      ·rw [List.append_nil]; exact h4.mono (by omega)
      ·rename_i hid
       exact .snoc h4 (Nat.le_refl j) (by omega) hg ⟨rfl, rfl, cpS_l, cpS_ok⟩ hid
     obtain ⟨t, t1, t2, t3, t4, t5⟩ := ih (j + 1) _ (by omega) (by omega) hE hem
     exact ⟨t, by omega, t2, t3, t4, by rw [List.append_assoc] at t5; exact t5⟩
  ·have hj : j = F.length := by omega
   have hnil : (pksB F).drop (offs F j) = [] := by
    rw [pksB_drop, hj, List.drop_length]; rfl
   rw [hnil, List.take_nil]
   refine ⟨j, Nat.le_refl _, h2, h3, ?_, ?_⟩
   ·rw [List.drop_take, hnil, List.take_nil]; rfl
   ·simpa [parseP] using h4
inductive Came (L : Nat) (F : List Pk) : Nat → List Fm → Prop
 | nil : Came L F 0 []
 | skip {k : Nat} {l : List Fm} : Came L F k l → Came L F (k + 1) l
 | take {k : Nat} {l : List Fm} {f : Fm} : Came L F k l → f.ch = 0 → f.cnt = (k : Int) → f.first = firstOf L (startsL F F.length) k → f.data.l = ((pksB F).drop (k * L)).take L → f.data.ok 1 → Came L F (k + 1) (l ++ [f])
def RdInv (L : Nat) (F : List Pk) (k : Nat) (S : Bool × List Int × List Pk × Int) : Prop :=
 ∃ K t, K ≤ k ∧ t ≤ F.length ∧ offs F t ≤ K * L ∧ Em F t S.2.2.1 ∧ (S.1 = true → 1 ≤ K ∧ S.2.1 = ((pksB F).take (K * L)).drop (offs F t) ∧ S.2.2.2 = (K : Int) + 63)
theorem came_inv {L : Nat} {F : List Pk} {N : Nat} (hN : (pksB F).length = N * L) (hF : F.length ≤ 20000) : ∀ {k : Nat} {l : List Fm}, Came L F k l → k ≤ N → RdInv L F k (exS l) := by
 intro k l h
 induction h with
 | nil => intro _; exact ⟨0, 0, Nat.le_refl _, Nat.zero_le _, by simp [offs, pksB], .nil _, fun h => by cases h⟩
 | skip h ih =>
  intro hk
  obtain ⟨K, t, a1, a2, a3, a4, a5⟩ := ih (by omega)
  exact ⟨K, t, by omega, a2, a3, a4, a5⟩
 | @take k l f h c1 c2 c3 c4 c5 ih =>
  intro hk
  obtain ⟨K, t, a1, a2, a3, a4, a5⟩ := ih (by omega)
  have e : exS (l ++ [f]) = stepX (exS l) f := by unfold exS; rw [List.foldl_append]; rfl
  rw [e]
  have hkl : k * L + L ≤ N * L := by
   have := Nat.mul_le_mul_right L (show k + 1 ≤ N from hk)
   rwa [Nat.add_mul, Nat.one_mul] at this
  have hKk : K * L ≤ k * L := Nat.mul_le_mul_right L a1
  have ek : (k + 1) * L = k * L + L := by rw [Nat.add_mul, Nat.one_mul]
  unfold stepX readS
  split
  ·rename_i hb
   obtain ⟨b1, b2, b3⟩ := hb
   obtain ⟨d1, d2, d3⟩ := a5 b1
   have b2' := of_decide_eq_true b2
   have hK : k = K := by omega
   subst hK
   have hp : (exS l).2.1 ++ f.data.l = ((pksB F).take ((k + 1) * L)).drop (offs F t) := by
    have e1 : (pksB F).take ((k + 1) * L) = (pksB F).take (k * L) ++ ((pksB F).drop (k * L)).take L := by
     rw [ek, List.take_add]
    rw [d2, c4, e1, List.drop_append_of_le_length]
    rw [List.length_take]; omega
   obtain ⟨t', q1, q2, q3, q4, q5⟩ := parse_em (F := F) (E := (k + 1) * L) 20000 t _ (by omega) a2 (by omega) a4
   rw [← hp] at q4 q5
   exact ⟨k + 1, t', Nat.le_refl _, q2, q3, q5, fun _ => ⟨by omega, q4, by simp only; omega⟩⟩
  ·split
   ·rename_i hb hf
    refine ⟨k + 1, t, Nat.le_refl _, a2, by omega, by simpa using a4, fun h => by cases h⟩
   ·rename_i hb hf
    unfold firstOf at c3
    obtain ⟨i, hi⟩ : ∃ i, i = bsI (startsL F F.length) ((k * L : Nat) : Int) := ⟨_, rfl⟩
    rw [← hi] at c3
    cases hx : (startsL F F.length)[i]? with
    | none => rw [hx] at c3; exact absurd c3 hf
    | some x =>
     rw [hx] at c3
     simp only at c3
     split at c3
     ·rename_i hlt
      have hge := bsI_ge (l := startsL F F.length) (t := ((k * L : Nat) : Int)) (x := x) (by rw [← hi]; exact hx)
      obtain ⟨hil, rfl⟩ := startsL_get hx
      have hti : t ≤ i := offs_mono a2 (by omega) (by omega)
      have hfn : f.first.toNat = offs F i - k * L := by rw [c3]; omega
      have hp : f.data.l.drop f.first.toNat = ((pksB F).take ((k + 1) * L)).drop (offs F i) := by
       rw [c4, hfn, List.drop_take, List.drop_drop, List.drop_take]
       congr 1
       ·omega
       ·congr 1; omega
      obtain ⟨t', q1, q2, q3, q4, q5⟩ := parse_em (F := F) (E := (k + 1) * L) 20000 i _ (by omega) (by omega) (by omega) (a4.mono hti)
      rw [← hp] at q4 q5
      exact ⟨k + 1, t', Nat.le_refl _, q2, q3, q5, fun _ => ⟨by omega, q4, by simp only; omega⟩⟩
     ·exact absurd c3 hf
end Go.Ax.Sx.Ck
