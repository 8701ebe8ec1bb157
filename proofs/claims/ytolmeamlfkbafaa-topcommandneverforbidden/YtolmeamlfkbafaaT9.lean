/-
  Lists whose elements may be written to, each in a box of some activation; calls in the caller's own activation.
-/
import Derived.Test.YtolmeamlfkbafaaT8
import Derived.Test.YtolmeamlfkbafaaT7
import Derived.ProofKit
namespace Go.Ax.Sx
section
variable {call : CallF} {ρ : Nat → AV} {m : Sig}
theorem opv_appendh {es : Nat} {x y h : AOpd} : opv call (evalT ρ) m (.appendh es x y h) = appendhOp m es (evalT ρ x) (evalT ρ y) (evalT ρ h) := .trans rfl rfl
theorem opv_rowBox {es : Nat} {x : AOpd} : opv call (evalT ρ) m (.rowBox es x) = rowBoxOp m es (evalT ρ x) := .trans rfl rfl
theorem opv_clear {zs : List AV} {x : AOpd} : opv call (evalT ρ) m (.clear zs x) = clearOp m zs (evalT ρ x) := .trans rfl rfl
theorem opv_callb {f : FuncId} {as : List AOpd} : opv call (evalT ρ) m (.callb f as) = callbOp call m f (as.map (evalT ρ)) := .trans rfl rfl
theorem opv_callq {f : FuncId} {as : List AOpd} {ws : List (Bool × Nat × Nat)} : opv call (evalT ρ) m (.callq f as ws) = callqOp call m (.fn f) (as.map (evalT ρ)) (ws.map fun q => (q.1, q.2.1, ρ q.2.2)) := .trans rfl rfl
end
attribute [go_sem ↓] opv_appendh opv_rowBox opv_clear opv_callb opv_callq
section
variable {s : Sig} {bs : List (List AV)} {tk : List (Option Nat)} {cs : List AV} {b : Nat}
theorem regrowAt_push : (s.push ⟨bs, tk⟩).regrowAt s.acts.length b cs = s.push ⟨bs.set b [] ++ [cs], tk ++ [none]⟩ := by rw [Sig.regrowAt, onRec_push]
theorem rowBox_push {es : Nat} (h : fitN es cs = true) (h0 : 0 < es) : rowBoxOp (s.push ⟨bs, tk⟩) es (.agg cs) = some (.rsl s.acts.length bs.length 0 es 1 1, s.push ⟨bs ++ [cs], tk⟩) := by
 obtain ⟨h1, h2⟩ := fitN_iff.1 h
 simp only [rowBoxOp, AV.cells, h1, h2, h0, and_self, if_true, cur_push, nbox_push, Sig.newBox, addBox_push]
def GX (d es : Nat) (row : List AV) (n : Nat) (x : AV) (bs : List (List AV)) : Prop :=
 (n = 0 ∧ row = [] ∧ x = .slice .nilS 0 []) ∨ (0 < n ∧ ∃ b, bs[b]? = some row ∧ x = .rsl d b 0 es n 0)
def GKeep (d : Nat) (x : AV) (bs bs' : List (List AV)) : Prop := bs.length < bs'.length ∧ ∀ j, j < bs.length → (∀ es n, x ≠ .rsl d j 0 es n 0) → bs'[j]? = bs[j]?
theorem GX.len {d es n : Nat} {row : List AV} {x : AV} (h : GX d es row n x bs) : lenOp false x = some (.v (.int .i64 (n : Int))) := by
 obtain ⟨rfl, rfl, rfl⟩ | ⟨_, b, _, rfl⟩ := h <;> rfl
theorem GX.cell {d es n : Nat} {row : List AV} {x : AV} (h : GX d es row n x bs) : x.isCell = true := by
 obtain ⟨rfl, rfl, rfl⟩ | ⟨_, b, _, rfl⟩ := h <;> rfl
theorem GX.cells {d es n : Nat} {row : List AV} {x : AV} (h : GX d es row n x bs) : x.cells = [x] := by
 obtain ⟨rfl, rfl, rfl⟩ | ⟨_, b, _, rfl⟩ := h <;> rfl
theorem box_app {r : List (List AV)} {j : Nat} {c : List AV} (h : bs[j]? = some c) : (bs ++ r)[j]? = some c := by
 rw [List.getElem?_append_left (List.getElem?_eq_some_iff.1 h).1]; exact h
theorem appendh_cur {es n b0 c p q : Nat} {row r2 : List AV} {x : AV} (hs : Ok s) (h : GX s.acts.length es row n x bs) (hb : bs[b0]? = some r2) (h2 : r2.length = es) (hl : row.length = n * es) (hm : n + 1 ≤ 4294967296) :
  ∃ x' bs' tk', appendhOp (s.push ⟨bs, tk⟩) es x (.rsl s.acts.length b0 0 es 1 c) (.ptr s.acts.length p q) = some (x', s.push ⟨bs', tk'⟩) ∧ GX s.acts.length es (row ++ r2) (n + 1) x' bs' ∧ GKeep s.acts.length x bs bs' ∧
   ∃ b', bs'[b']? = some (row ++ r2) ∧ x' = .rsl s.acts.length b' 0 es (n + 1) 0 ∧ bs.length ≤ b' := by
 have hro : (s.push ⟨bs, tk⟩).ro ≤ s.acts.length := hs.ro
 have hsrc : (s.push ⟨bs, tk⟩).srcRows es (.rsl s.acts.length b0 0 es 1 c) = some (r2, 1) := by
  simp only [Sig.srcRows, cur_push, and_self, if_true, box_push, hb, Option.bind_some, Nat.zero_add, Nat.one_mul, h2, Nat.le_refl, List.drop_zero]
  rw [List.take_of_length_le (by omega)]
 obtain ⟨rfl, rfl, rfl⟩ | ⟨hn, b, hb1, rfl⟩ := h
 ·refine ⟨.rsl s.acts.length bs.length 0 es 1 0, bs ++ [r2], tk, ?_, .inr ⟨by omega, bs.length, ?_, rfl⟩, ⟨by simp, fun j hj _ => List.getElem?_append_left hj⟩, bs.length, ?_, rfl, Nat.le_refl _⟩
  ·have hmo : (1 : Nat) ≤ most := by decide
   simp only [appendhOp, hsrc, Option.bind_some, Nat.one_ne_zero, if_false, hro, cur_push, Nat.le_refl, true_or, and_self, if_true, List.isEmpty_nil, Own.isNil, hmo, nbox_push, addBox_push]
  ·simp
  ·simp
 ·have hmo : n + 1 ≤ most := hm
  refine ⟨.rsl s.acts.length bs.length 0 es (n + 1) 0, bs.set b [] ++ [row ++ r2], tk ++ [none], ?_, .inr ⟨by omega, bs.length, ?_, rfl⟩, ⟨by simp, fun j hj hne => ?_⟩, bs.length, ?_, rfl, Nat.le_refl _⟩
  ·simp only [appendhOp, hsrc, Option.bind_some, Nat.one_ne_zero, if_false, hro, cur_push, Nat.le_refl, true_or, and_self, if_true, hn, hmo, box_push, hb1, hl, nbox_push, regrowAt_push]
  ·rw [List.getElem?_append_right (by simp)]; simp
  ·rw [List.getElem?_append_left (by simpa using hj), List.getElem?_set_ne (fun e => hne es n (by rw [e]))]
  ·rw [List.getElem?_append_right (by simp)]; simp
end
section
variable {X : Rec → Sig} {d : Nat} {r r0 : Rec}
theorem Mid.appendh (h : Mid X d) {es n b0 c p q : Nat} {row r2 : List AV} {x : AV} (hg : GX d es row n x r.boxes) (hb : r0.boxes[b0]? = some r2) (h2 : r2.length = es) (hcl : r2.all AV.isClosed1 = true) (hl : row.length = n * es) (hm : n + 1 ≤ 4294967296) :
  ∃ x' bs' tk', appendhOp ((X r).push r0) es x (.rsl (X r).acts.length b0 0 es 1 c) (.ptr d p q) = some (x', (X ⟨bs', tk'⟩).push r0) ∧ GX d es (row ++ r2) (n + 1) x' bs' ∧ GKeep d x r.boxes bs' ∧ ∃ b', x' = .rsl d b' 0 es (n + 1) 0 ∧ r.boxes.length ≤ b' := by
 have hlt := h.lt r
 have hcur : ((X r).push r0).cur = (X r).acts.length := cur_push _ _
 have hro : ((X r).push r0).ro ≤ d := h.ro r
 have hle : d ≤ (X r).acts.length := by omega
 have hnb : ((X r).push r0).nbox d = r.boxes.length := by
  simp only [Sig.nbox, Sig.push]
  rw [List.getElem?_append_left hlt, h.get r]
 have hsrc : ((X r).push r0).srcRows es (.rsl (X r).acts.length b0 0 es 1 c) = some (r2, 1) := by
  simp only [Sig.srcRows, hcur, and_self, if_true, box_push, hb, Option.bind_some, Nat.zero_add, Nat.one_mul, h2, Nat.le_refl, List.drop_zero]
  rw [List.take_of_length_le (by omega)]
 obtain ⟨rfl, rfl, rfl⟩ | ⟨hn, b, hb1, rfl⟩ := hg
 ·have hab : ((X r).push r0).addBox d r2 = (X ⟨r.boxes ++ [r2], r.toks⟩).push r0 := h.onPush _
  refine ⟨.rsl d r.boxes.length 0 es 1 0, r.boxes ++ [r2], r.toks, ?_, .inr ⟨by omega, r.boxes.length, by simp, rfl⟩, ⟨by simp, fun j hj _ => List.getElem?_append_left hj⟩, _, rfl, Nat.le_refl _⟩
  have hmo : (1 : Nat) ≤ most := by decide
  simp only [appendhOp, hsrc, Option.bind_some, Nat.one_ne_zero, if_false, hro, hcur, hle, hcl, or_true, and_self, if_true, List.isEmpty_nil, Own.isNil, true_or, hmo, hnb, hab]
 ·have hmo : n + 1 ≤ most := hm
  have hbx : ((X r).push r0).box d b = some row := by rw [h.box, hb1]
  have hrg : ((X r).push r0).regrowAt d b (row ++ r2) = (X ⟨r.boxes.set b [] ++ [row ++ r2], r.toks ++ [none]⟩).push r0 := h.onPush _
  refine ⟨.rsl d r.boxes.length 0 es (n + 1) 0, r.boxes.set b [] ++ [row ++ r2], r.toks ++ [none], ?_, .inr ⟨by omega, r.boxes.length, ?_, rfl⟩, ⟨by simp, fun j hj hne => ?_⟩, _, rfl, Nat.le_refl _⟩
  ·simp only [appendhOp, hsrc, Option.bind_some, Nat.one_ne_zero, if_false, hro, hcur, hle, hcl, or_true, and_self, if_true, hn, hmo, hbx, hl, hnb, hrg]
  ·rw [List.getElem?_append_right (by simp)]; simp
  ·rw [List.getElem?_append_left (by simpa using hj), List.getElem?_set_ne (fun e => hne es n (by rw [e]))]
end
section
variable {AP : FuncId → Option AFn} {s : Sig} {bs : List (List AV)} {tk : List (Option Nat)} {f : FuncId} {args : List AV}
theorem ownRsl {Q : Sig} {bx : List (List AV)} {tk : List (Option Nat)} {r : Rec} {b es n : Nat} {cs : List AV} (hQ : Ok Q) (hb : r.boxes[b]? = some cs) (hn : 0 < n) (hl : cs.length = n * es) (hne : cs ≠ []) (hc : closeAll cs = some cs) :
  ownResult ((Q.push ⟨bx, tk⟩).push r) (.rsl (Q.push ⟨bx, tk⟩).acts.length b 0 es n 0) = some (.rsl Q.acts.length bx.length 0 es n 0, Q.push ⟨bx ++ [cs], tk⟩) := by
 have hd : (Q.push ⟨bx, tk⟩).acts.length = Q.acts.length + 1 := by simp [Sig.push]
 have hro : ((Q.push ⟨bx, tk⟩).push r).ro < (Q.push ⟨bx, tk⟩).acts.length := by
  have := hQ.ro; rw [hd]; show Q.ro < _; omega
 have he : cs.isEmpty = false := by cases cs <;> simp_all
 have h1 : 1 ≤ (Q.push ⟨bx, tk⟩).acts.length := by omega
 simp only [ownResult, cur_push, true_and]
 rw [if_pos (by first | exact ⟨h1, hro, hn⟩ | exact ⟨h1, hro, trivial, trivial, hn⟩), box_push, hb, Option.bind_some, if_pos ⟨he, hl⟩, hc]
 simp only [Option.map_some, pop_push, hd, Nat.add_sub_cancel]
 have e1 : ((Q.push ⟨bx, tk⟩).push r).nbox Q.acts.length = bx.length := by
  have : ((Q.push ⟨bx, tk⟩).push r).acts[Q.acts.length]? = some ⟨bx, tk⟩ := by
   show ((Q.acts ++ [_]) ++ [_])[_]? = _
   rw [List.getElem?_append_left (by simp)]; simp
  simp only [Sig.nbox, this]
 rw [e1, addBox_push]
theorem callb_rsl {es n : Nat} {cs : List AV} (hm : (s.push ⟨bs, tk⟩).ro < (s.push ⟨bs, tk⟩).acts.length)
  (h : callL AP (.fn f) args ((roS (s.push ⟨bs, tk⟩)).push ⟨[], []⟩) = some (.rsl (s.push ⟨bs, tk⟩).acts.length 0 0 es n 0, (roS (s.push ⟨bs, tk⟩)).push ⟨[cs], []⟩)) (hn : 0 < n) (hl : cs.length = n * es) (hne : cs ≠ []) (hc : closeAll cs = some cs) :
  callbOp (callL AP) (s.push ⟨bs, tk⟩) f args = some (.rsl s.acts.length bs.length 0 es n 0, s.push ⟨bs ++ [cs], tk⟩) := by
 have he : cs.isEmpty = false := by cases cs <;> simp_all
 have h : callL AP (.fn f) args { (s.push ⟨bs, tk⟩).push ⟨[], []⟩ with ro := (s.push ⟨bs, tk⟩).acts.length, lro := (s.push ⟨bs, tk⟩).loops.length } = some (.rsl (s.push ⟨bs, tk⟩).acts.length 0 0 es n 0, (roS (s.push ⟨bs, tk⟩)).push ⟨[cs], []⟩) := h
 have hb : ((roS (s.push ⟨bs, tk⟩)).push ⟨[cs], []⟩).box (s.push ⟨bs, tk⟩).acts.length 0 = some cs := box_push (roS (s.push ⟨bs, tk⟩)) ⟨[cs], []⟩ 0
 unfold callbOp
 rw [h]
 simp only
 rw [if_pos ⟨trivial, by omega, hm, trivial, trivial, hn⟩, hb, Option.bind_some, if_pos ⟨he, hl⟩, hc]
 simp only [Option.map_some, cur_push, nbox_push, Sig.newBox, addBox_push]
theorem callb_nil (h : callL AP (.fn f) args ((roS s).push ⟨[], []⟩) = some (.slice .nilS 0 [], (roS s).push ⟨[], []⟩)) : callbOp (callL AP) s f args = some (.slice .nilS 0 [], s) := by
 have h : callL AP (.fn f) args { s.push ⟨[], []⟩ with ro := s.acts.length, lro := s.loops.length } = some (.slice .nilS 0 [], (roS s).push ⟨[], []⟩) := h
 unfold callbOp
 rw [h]
 rfl
theorem callq_eq {m m' : Sig} {t : Target} {v : AV} {ws : List (Bool × Nat × AV)} (h : callL AP t args m = some (v, m')) (hw : ∀ q ∈ ws, m'.load q.1 q.2.1 q.2.2 = m.load q.1 q.2.1 q.2.2) : callqOp (callL AP) m t args ws = some (v, m') := callqOp_iff.2 ⟨h, hw⟩
end
end Go.Ax.Sx

/-
  Maps from strings to true; stores and loads that lie apart.
-/
namespace Go.Ax.Sx
section
variable {call : CallF} {ρ : Nat → AV} {m : Sig}
theorem opv_mkMap : opv call (evalT ρ) m .mkMap = some (mkMapOp m) := .trans rfl rfl
theorem opv_mapHas {x k : AOpd} : opv call (evalT ρ) m (.mapHas x k) = (mapHasOp m (evalT ρ x) (evalT ρ k)).map (·, m) := .trans rfl rfl
theorem opv_mapAdd {x k y : AOpd} : opv call (evalT ρ) m (.mapAdd x k y) = (mapAddOp m (evalT ρ x) (evalT ρ k) (evalT ρ y)).map (AV.undef, ·) := .trans rfl rfl
theorem opv_storeq {n : Nat} {x y : AOpd} {ws : List (Bool × Nat × Nat × Nat)} : opv call (evalT ρ) m (.storeq n x y ws) = (storeqOp m n (evalT ρ x) (evalT ρ y) (ws.map fun q => (q.1, q.2.1, (ptrAdd q.2.2.1 (ρ q.2.2.2)).getD AV.undef))).map (AV.undef, ·) := .trans rfl rfl
theorem opv_calliq {f : FuncId} {as : List AOpd} {ws : List (Bool × Nat × Nat)} : opv call (evalT ρ) m (.calliq f as ws) = callqOp call m (.inl f) (as.map (evalT ρ)) (ws.map fun q => (q.1, q.2.1, ρ q.2.2)) := .trans rfl rfl
theorem opv_appendi {es : Nat} {x y : AOpd} : opv call (evalT ρ) m (.appendi es x y) = appendiOp m es (evalT ρ x) (evalT ρ y) := .trans rfl rfl
theorem opv_loadq {g : Bool} {n off t : Nat} {x : AOpd} : opv call (evalT ρ) m (.loadq g n x off t) = (loadqOp m g n (evalT ρ x) off (ρ t)).map (·, m) := .trans rfl rfl
theorem loadq_e {g : Bool} {n off o : Nat} {cs : List AV} {y : AV} : loadqOp m g n (.eptr cs o) off y = m.load g n (.eptr cs o) := rfl
theorem loadq_p {g : Bool} {n off d b o d' b' o' : Nat} : loadqOp m g n (.ptr d b o) off (.ptr d' b' o') = if d = d' ∧ b = b' ∧ o = o' + off then m.load g n (.ptr d b o) else none := rfl
theorem storeq_u {n : Nat} {x y : AV} {ws : List (Bool × Nat × AV)} : storeqOp m n x y ws = if ws.all (apart n x) = true then m.store n x y else none := rfl
theorem apart_p {n d b o d' b' o' k : Nat} {g : Bool} : apart n (.ptr d b o) (g, k, .ptr d' b' o') = (!(d == d' && b == b') || decide (o + n ≤ o') || decide (o' + max 1 k ≤ o)) := rfl
theorem apart_e {n d b o o' k : Nat} {g : Bool} {cs : List AV} : apart n (.ptr d b o) (g, k, .eptr cs o') = true := rfl
end
attribute [go_sem ↓] opv_mkMap opv_mapHas opv_mapAdd opv_storeq opv_loadq opv_calliq opv_appendi
attribute [go_sem] loadq_e loadq_p storeq_u apart_p apart_e Bool.or_true Bool.true_or
section
variable {s : Sig} {bs : List (List AV)} {tk : List (Option Nat)} {b : Nat} {ks : List AV} {x : ByteArray}
theorem mkMap_push : mkMapOp (s.push ⟨bs, tk⟩) = (.mp s.acts.length bs.length, s.push ⟨bs ++ [[.opq]], tk⟩) := by
 simp only [mkMapOp, cur_push, nbox_push, addBox_push]
theorem mpKeys_push (h : bs[b]? = some (.opq :: ks)) : (s.push ⟨bs, tk⟩).mpKeys s.acts.length b = some ks := by
 simp only [Sig.mpKeys, box_push, h]
theorem mapHas_push (h : bs[b]? = some (.opq :: ks)) : mapHasOp (s.push ⟨bs, tk⟩) (.mp s.acts.length b) (.v (.string x)) = some (AV.bool (hasKey ks x)) := by
 simp only [mapHasOp, mpKeys_push h, Option.map_some]
theorem mapAdd_push (hro : s.ro ≤ s.acts.length) (h : bs[b]? = some (.opq :: ks)) (hn : hasKey ks x = false) : mapAddOp (s.push ⟨bs, tk⟩) (.mp s.acts.length b) (.v (.string x)) (.v (.bool true)) = some (s.push ⟨bs.set b (.opq :: (ks ++ [.v (.string x)])), tk⟩) := by
 have hr : (s.push ⟨bs, tk⟩).ro ≤ s.acts.length := hro
 simp only [mapAddOp, cur_push, hr, and_self, if_true, mpKeys_push h, Option.map_some, hn, Bool.false_eq_true, if_false, setBox_push]
end
end Go.Ax.Sx

/-
  From the executor's answer to a law's row: the arguments opened and shut.
-/
namespace Go.Ax
open Go.ChangeShapes Go.WideShapes Go.ChangeAt Go.RowKit Sx
def ArgShp (P : Program) (d : Nat) (t : TypeId) (x : AV) : Prop :=
 match P.underlying t with
 | some (.struct _) | some (.array _ _) => ∃ avs, x = .agg avs ∧ Shp P d t avs
 | _ => Shp P d t [x]
inductive ArgsShp (P : Program) (d : Nat) : List TypeId → List AV → Prop
 | nil : ArgsShp P d [] []
 | cons {t : TypeId} {ts : List TypeId} {x : AV} {xs : List AV} (h : ArgShp P d t x) (r : ArgsShp P d ts xs) : ArgsShp P d (t :: ts) (x :: xs)
section
variable {H : Type} {enc : TypeId × Value → H} {P : Program} {w : World}
theorem cells_other {v : Value} {cs : Array Value} (h : v.cells = cs) (hn : ∀ c, v ≠ .agg c) : cs.toList = [v] := by
 subst h
 cases v <;> first | rfl | exact absurd rfl (hn _)
theorem reads_agg {avs : List AV} {cs : Array Value} (h : RL w avs cs.toList) : Reads w (.agg avs) (.agg cs) :=
 .agg (by simpa using h.len.symm) (fun c hc => by
  obtain ⟨i, hi⟩ := List.getElem?_of_mem hc
  have hil := (List.getElem?_eq_some_iff.1 hi).1
  have hl := h.len
  have hcl : i < cs.toList.length := by omega
  exact (h.get i c (cs.toList[i]) hi (List.getElem?_eq_getElem hcl)).2) (fun i hi => by
  have hl := h.len
  have hcl : i < cs.toList.length := by omega
  have := (h.get i avs[i] (cs.toList[i]) (List.getElem?_eq_getElem hi) (List.getElem?_eq_getElem hcl)).1
  have e : cs.getD i Go.undef = cs.toList[i] := by
   have : i < cs.size := by simpa using hcl
   simp [Array.getD, this]
  rw [e]; exact this)
theorem open_arg {d : Nat} {r : Reach} {b0 : Nat} {t : TypeId} {v : Value} {x : DataW H} {ps : List MemPlace} (hok : okT P d t = true) (hval : Value.okWide P w r b0 t v) (h : DataW.Trod enc P w 0 (fun _ => true) true t v x ps) (hwt : ∀ n ∈ x.weights P t, n ≤ reachBytes) :
  ∃ a, Reads w a v ∧ ArgShp P d t a := by
 obtain ⟨fuel, hf⟩ := h
 obtain ⟨avs, h1, h2, h3⟩ := open_type d t fuel _ _ hok hf hwt
 cases d with
 | zero => simp [okT] at hok
 | succ d =>
  unfold okT at hok
  cases hu : P.underlying t with
  | none => rw [hu] at hok; cases hok
  | some u =>
   rw [hu] at hok
   have key : (∀ c, v ≠ .agg c) → (P.cellsOf t = 1) → ∃ a, Reads w a v ∧ Shp P (d + 1) t [a] := by
    intro hn h1c
    have hc := cells_other (v := v) rfl hn
    rw [hc] at h1
    have hl := h1.len
    match avs, hl, h1, h3 with
    | [a], _, h1, h3 => exact ⟨a, (h1.get 0 a v rfl rfl).1, h3⟩
   cases u with
   | bool =>
    obtain ⟨a, k1, k2⟩ := key (fun c e => by subst e; simp only [Value.okWide, hu] at hval; simp [Cell.okWide, Cell.ok, hu] at hval) (by simpa using hok)
    exact ⟨a, k1, by simp only [ArgShp, hu]; exact k2⟩
   | int k =>
    obtain ⟨a, k1, k2⟩ := key (fun c e => by subst e; simp only [Value.okWide, hu] at hval; simp [Cell.okWide, Cell.ok, hu] at hval) (by simpa using hok)
    exact ⟨a, k1, by simp only [ArgShp, hu]; exact k2⟩
   | string =>
    obtain ⟨a, k1, k2⟩ := key (fun c e => by subst e; simp only [Value.okWide, hu] at hval; simp [Cell.okWide, Cell.ok, hu] at hval) (by simpa using hok)
    exact ⟨a, k1, by simp only [ArgShp, hu]; exact k2⟩
   | slice e =>
    obtain ⟨a, k1, k2⟩ := key (fun c e => by subst e; simp only [Value.okWide, hu] at hval; simp [Cell.okWide, Cell.ok, hu] at hval) (by simp only [Bool.and_eq_true, decide_eq_true_eq] at hok; exact hok.1.1)
    exact ⟨a, k1, by simp only [ArgShp, hu]; exact k2⟩
   | struct fs =>
    simp only [Value.okWide, hu] at hval
    obtain ⟨cs, rfl, _, _⟩ := hval
    exact ⟨.agg avs, reads_agg h1, by simp only [ArgShp, hu]; exact ⟨avs, rfl, h3⟩⟩
   | array n e =>
    simp only [Value.okWide, hu] at hval
    obtain ⟨cs, rfl, _, _⟩ := hval
    exact ⟨.agg avs, reads_agg h1, by simp only [ArgShp, hu]; exact ⟨avs, rfl, h3⟩⟩
   | _ => cases hok
theorem open_args {d : Nat} {r : Reach} {b0 : Nat} : ∀ {ts : List TypeId} {vs : List Value} {ds : List (DataW H)} {ps : List MemPlace}, (∀ t ∈ ts, okT P d t = true) → (∀ (j : Nat) t v, ts[j]? = some t → vs[j]? = some v → Value.okWide P w r b0 t v) →
  DataW.TrodAll enc P w 0 (fun _ => true) true ts vs ds ps → (∀ n ∈ DataW.weightsEach P ts ds, n ≤ reachBytes) → ∃ as : List AV, ArgsShp P d ts as ∧ as.length = vs.length ∧ ∀ (i : Nat) a v, as[i]? = some a → vs[i]? = some v → Reads w a v
 | [], [], [], _, _, _, _, _ => ⟨[], .nil, rfl, fun i a v h => by simp at h⟩
 | t :: ts, v :: vs, x :: ds, _, hok, hval, ⟨p, q, h1, h2, _⟩, hwt => by
  obtain ⟨a, k1, k2⟩ := open_arg (hok t (List.mem_cons_self ..)) (hval 0 t v rfl rfl) h1 (fun n hn => hwt n (by simp only [DataW.weightsEach, List.mem_append]; exact .inl hn))
  obtain ⟨as, m1, m2, m3⟩ := open_args (fun t ht => hok t (List.mem_cons_of_mem _ ht)) (fun j t v h1 h2 => hval (j + 1) t v (by simpa using h1) (by simpa using h2)) h2 (fun n hn => hwt n (by simp only [DataW.weightsEach, List.mem_append]; exact .inr hn))
  exact ⟨a :: as, .cons k2 m1, by simp [m2], fun i b u hb hu => by
   cases i with
   | zero => simp at hb hu; subst hb hu; exact k1
   | succ i => simp at hb hu; exact m3 i b u hb hu⟩
theorem trodAll_len {sp : Nat → Bool} {held : Bool} {base : Nat} : ∀ {ts : List TypeId} {vs : List Value} {ds : List (DataW H)} {ps : List MemPlace}, DataW.TrodAll enc P w base sp held ts vs ds ps → ds.length = ts.length
 | [], [], [], _, _ => rfl
 | t :: ts, v :: vs, x :: ds, _, ⟨p, q, h1, h2, _⟩ => by simp [trodAll_len h2]
theorem stay_args (hl : laidOutB P = true) {W' : World} (hb : Below w.heap.size w W') {sp : Nat → Bool} : ∀ {ts : List TypeId} {vs : List Value} {ds : List (DataW H)} {ps : List MemPlace}, (∀ t ∈ ts, P.readableRec t = true ∧ t < P.types.size) →
  DataW.TrodAll enc P w 0 (fun _ => true) true ts vs ds ps → (∀ p ∈ ps, p.block < w.heap.size) → (∀ p ∈ ps, sp p.block = true) → DataW.TrodAll enc P W' 0 sp true ts vs ds ps
 | [], [], [], _, _, h, _, _ => h
 | t :: ts, v :: vs, x :: ds, _, hT, ⟨p, q, h1, h2, e⟩, hlt, hsp => by
  subst e
  have ht := hT t (List.mem_cons_self ..)
  exact ⟨p, q, WideElems.Trod_stays hl ht.1 ht.2 h1 (fun y hy => hb.same (hlt y (List.mem_append_left _ hy))) (fun y hy => hsp y (List.mem_append_left _ hy)),
   stay_args hl hb (fun t ht => hT t (List.mem_cons_of_mem _ ht)) h2 (fun y hy => hlt y (List.mem_append_right _ hy)) (fun y hy => hsp y (List.mem_append_right _ hy)), rfl⟩
theorem post_of_below {f : Func} {s : ChangeSpec} {apart fresh handsOn again : Bool} {W W' : World} {args : Array Value} {v : Value} {ds gs : List (DataW H)} {before pa pv : List MemPlace}
  (hW : DataW.Whole enc P f.params.toList s.vars apart W args.toList ds gs before)
  (hres : ∀ (b : Nat) (sp : Nat → Bool) (hd : Bool), DataW.TrodAll enc P W' b sp hd f.resultTypes.toList (v.resultList f.resultTypes.size) (s.fn H (ds ++ gs)).results [])
  (hargs : ∀ sp : Nat → Bool, (∀ p ∈ before, sp p.block = true) → DataW.TrodAll enc P W' 0 sp true f.params.toList args.toList (s.fn H (ds ++ gs)).args pa)
  (hvars : ∀ sp : Nat → Bool, (∀ p ∈ before, sp p.block = true) → DataW.TrodVars enc P W' sp s.vars (s.fn H (ds ++ gs)).vars pv)
  (hps : before = pa ++ pv) (hb : Below W.heap.size W W')
  (hok : ∀ (j : Nat) (t : TypeId) (r : Value), f.resultTypes[j]? = some t → (v.resultList f.resultTypes.size)[j]? = some r → Value.okWide P W' .any 0 t r) :
  s.post enc P f apart fresh handsOn again W args v W' := by
 have hlt : ∀ p ∈ before, p.block < W.heap.size := fun p hp => hW.lt p hp
 have hold : ∀ p ∈ before, (fun b => decide (b < W.heap.size)) p.block = true := fun p hp => by simpa using hlt p hp
 refine ⟨ds, gs, before, [], pa, pv, hW, hres _ _ _, hargs _ hold, hvars _ hold, World.keptBut_mono (fun p hp => ⟨hp, ?_⟩) (hb.frame (· ∈ before)), fun _ => ?_⟩
 ·rw [hps, List.mem_append] at hp
  exact Or.inr hp
 ·obtain ⟨_, _, _, _, _, hz, hn⟩ := hW
  refine ⟨hok, _, _, ([] ++ pa) ++ pv, ⟨[] ++ pa, pv, trodAll_append (hargs _ (fun _ _ => rfl)) (hres _ _ _), hvars _ (fun _ _ => rfl), rfl, ?_, ?_⟩, ?_⟩
  ·intro b off hp
   have hin : MemPlace.cell b off ∈ before := by rw [hps]; simpa using hp
   rw [hb.frozen (hlt _ hin)]
   exact hz b off hin
  ·intro ha
   have := hn ha
   rw [hps] at this
   simpa using this
  ·intro p hp _
   rw [hps]
   simpa using hp
def LawOk (P : Program) (AP : FuncId → Option AFn) (f : FuncId) (d : Nat) (ts : List TypeId) : Prop :=
 ∀ (as : List AV) (s : Sig), Ok s → ArgsShp P d ts as → callL AP (.fn f) as s = some (.v (.bool true), s)
theorem law_calls {AP : FuncId → Option AFn} {K : World → Prop} (hp : ProgOk P AP K) (hK : ∀ w', Below w.heap.size w w' → K w') {f : FuncId} {d : Nat} {ts : List TypeId} (hlaw : LawOk P AP f d ts) {args : Array Value} {ds : List (DataW H)} {ps : List MemPlace} {r : Reach} {b0 : Nat} (hok : ∀ t ∈ ts, okT P d t = true)
  (hval : ∀ (j : Nat) t v, ts[j]? = some t → args.toList[j]? = some v → Value.okWide P w r b0 t v) (hA : DataW.TrodAll enc P w 0 (fun _ => true) true ts args.toList ds ps) (hwt : (DataW.weightsEach P ts ds).all (· ≤ reachBytes) = true) :
  Calls P f args w fun e w' => e = .returned (.bool true) ∧ Below w.heap.size w w' := by
 obtain ⟨as, h1, h2, h3⟩ := open_args hok hval hA (fun n hn => by simpa using List.all_eq_true.1 hwt n hn)
 obtain ⟨n, hn⟩ := callL_iff.1 (hlaw as startS ⟨Nat.le_refl _, Nat.le_refl _⟩ h1)
 refine run_sound hp hK (by simpa using h2.symm) (fun i hi => ?_) hn
 have hi' : i < args.toList.length := by omega
 have e : args.getD i Go.undef = args.toList[i] := by
  have : i < args.size := by simpa using hi'
  simp [Array.getD, this]
 rw [e]
 exact h3 i as[i] args.toList[i] (List.getElem?_eq_getElem hi) (List.getElem?_eq_getElem hi')
end
end Go.Ax

/-
  What a shape says, type by type.
-/
namespace Go.Ax.Sx
section
variable {P : Program} {d : Nat} {t : TypeId} {avs : List AV}
theorem shp_int (hu : P.underlying t = some (.int .i64)) (h : Shp P (d + 1) t avs) : ∃ x, avs = [I x] ∧ inI x := by
 simp only [Shp, hu] at h
 obtain ⟨x, rfl, hw⟩ := h
 refine ⟨x, rfl, ?_⟩
 simp only [Lit.wf, Bool.and_eq_true, decide_eq_true_eq] at hw
 have h1 : IntKind.i64.min = -9223372036854775808 := by decide
 have h2 : IntKind.i64.max = 9223372036854775807 := by decide
 unfold inI; omega
theorem shp_str (hu : P.underlying t = some .string) (h : Shp P (d + 1) t avs) : ∃ x : ByteArray, avs = [.v (.string x)] ∧ x.size ≤ maxLen := by
 simp only [Shp, hu] at h; exact h
theorem shp_struct {fs : Array Field} (hu : P.underlying t = some (.struct fs)) (h : Shp P (d + 1) t avs) : ∃ ps : List (List AV), avs = ps.flatten ∧ ps.length = fs.size ∧ ∀ (i : Nat) (f : Field) (p : List AV), fs[i]? = some f → ps[i]? = some p → Shp P d f.type p := by
 simp only [Shp, hu] at h
 obtain ⟨ps, h1, h2, h3⟩ := h
 exact ⟨ps, h1, h2, fun i f p a b => (h3 i f p a b).2⟩
theorem shp_slice {e : TypeId} (hu : P.underlying t = some (.slice e)) (h : Shp P (d + 1) t avs) : ∃ o rows, avs = [.slice o (P.cellsOf e) rows] ∧ (o = .any ∨ (o = .nilS ∧ rows = [])) ∧ rows.length ≤ maxLen ∧ ∀ r ∈ rows, Shp P d e r := by
 simp only [Shp, hu] at h
 obtain ⟨o, rows, h1, h2, h3, h4, _⟩ := h
 exact ⟨o, rows, h1, h2, h3, fun r a => (h4 r a).2⟩
theorem rows_map {α : Type} {q : List AV → α → Prop} : ∀ {rows : List (List AV)}, (∀ r ∈ rows, ∃ a, q r a) → ∃ l : List α, rows.length = l.length ∧ ∀ (i : Nat) r a, rows[i]? = some r → l[i]? = some a → q r a
 | [], _ => ⟨[], rfl, fun i r a h => by simp at h⟩
 | r :: rows, h => by
  obtain ⟨a, ha⟩ := h r (List.mem_cons_self ..)
  obtain ⟨l, h1, h2⟩ := rows_map (rows := rows) (fun r hr => h r (List.mem_cons_of_mem _ hr))
  exact ⟨a :: l, by simp [h1], fun i r' a' h3 h4 => by
   cases i with
   | zero => simp at h3 h4; subst h3 h4; exact ha
   | succ i => simp at h3 h4; exact h2 i r' a' h3 h4⟩
theorem rows_eq {α : Type} {f : α → List AV} {g : α → Prop} {rows : List (List AV)} (h : ∀ r ∈ rows, ∃ a, r = f a ∧ g a) : ∃ l : List α, rows = l.map f ∧ ∀ a ∈ l, g a := by
 obtain ⟨l, h1, h2⟩ := rows_map (q := fun r a => r = f a ∧ g a) h
 refine ⟨l, ?_, fun a ha => ?_⟩
 ·apply List.ext_getElem?
  intro i
  by_cases hi : i < rows.length
  ·obtain ⟨a, ha⟩ := get_some (l := l) (k := i) (by omega)
   rw [List.getElem?_map, ha, List.getElem?_eq_getElem hi]
   exact congrArg some (h2 i _ a (List.getElem?_eq_getElem hi) ha).1
  ·rw [List.getElem?_eq_none (by omega), List.getElem?_eq_none (by simp; omega)]
 ·obtain ⟨i, hi⟩ := List.getElem?_of_mem ha
  have hil := (List.getElem?_eq_some_iff.1 hi).1
  obtain ⟨r, hr⟩ := get_some (l := rows) (k := i) (by omega)
  exact (h2 i r a hr hi).2
end
end Go.Ax.Sx
