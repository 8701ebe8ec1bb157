/-
  Lists whose elements may be written to, each in a box of some activation; calls in the caller's own activation.
-/
import Derived.Test.YtehlallciamkoaaT9
import Derived.Test.YtehlallciamkoaaT8
import Derived.ProofKit
namespace Go.Ax.Sx
section
variable {call : CallF} {ρ : Nat → AV} {m : Sig}
theorem opv_appendh {es : Nat} {x y h : AOpd} : opv call (evalT ρ) m (.appendh es x y h) = appendhOp m es (evalT ρ x) (evalT ρ y) (evalT ρ h) := .trans rfl rfl
theorem opv_rowBox {es : Nat} {x : AOpd} : opv call (evalT ρ) m (.rowBox es x) = rowBoxOp m es (evalT ρ x) := .trans rfl rfl
theorem opv_clear {zs : List AV} {x : AOpd} : opv call (evalT ρ) m (.clear zs x) = clearOp m zs (evalT ρ x) := .trans rfl rfl
theorem opv_callb {f : FuncId} {as : List AOpd} : opv call (evalT ρ) m (.callb f as) = callbOp call m f (as.map (evalT ρ)) := .trans rfl rfl
theorem opv_callq {f : FuncId} {as : List AOpd} {ws : List (Bool × Nat × Nat)} : opv call (evalT ρ) m (.callq f as ws) = callqOp call m (.fn f) (as.map (evalT ρ)) (ws.map fun q => (q.1, q.2.1, ρ q.2.2)) := .trans rfl rfl
end
attribute [go_sem ↓] opv_appendh opv_rowBox opv_clear opv_callb opv_callq
section
variable {s : Sig} {bs : List (List AV)} {tk : List (Option Nat)} {cs : List AV} {b : Nat}
def GX (d es : Nat) (row : List AV) (n : Nat) (x : AV) (bs : List (List AV)) : Prop :=
 (n = 0 ∧ row = [] ∧ x = .slice .nilS 0 []) ∨ (0 < n ∧ ∃ b, bs[b]? = some row ∧ x = .rsl d b 0 es n 0)
def GKeep (d : Nat) (x : AV) (bs bs' : List (List AV)) : Prop := bs.length < bs'.length ∧ ∀ j, j < bs.length → (∀ es n, x ≠ .rsl d j 0 es n 0) → bs'[j]? = bs[j]?
theorem GX.len {d es n : Nat} {row : List AV} {x : AV} (h : GX d es row n x bs) : lenOp false x = some (.v (.int .i64 (n : Int))) := by
 obtain ⟨rfl, rfl, rfl⟩ | ⟨_, b, _, rfl⟩ := h <;> rfl
theorem GX.cell {d es n : Nat} {row : List AV} {x : AV} (h : GX d es row n x bs) : x.isCell = true := by
 obtain ⟨rfl, rfl, rfl⟩ | ⟨_, b, _, rfl⟩ := h <;> rfl
theorem GX.cells {d es n : Nat} {row : List AV} {x : AV} (h : GX d es row n x bs) : x.cells = [x] := by
 obtain ⟨rfl, rfl, rfl⟩ | ⟨_, b, _, rfl⟩ := h <;> rfl
theorem box_app {r : List (List AV)} {j : Nat} {c : List AV} (h : bs[j]? = some c) : (bs ++ r)[j]? = some c := by
 rw [List.getElem?_append_left (List.getElem?_eq_some_iff.1 h).1]; exact h
end
section
variable {X : Rec → Sig} {d : Nat} {r r0 : Rec}
theorem Mid.appendh (h : Mid X d) {es n b0 c p q : Nat} {row r2 : List AV} {x : AV} (hg : GX d es row n x r.boxes) (hb : r0.boxes[b0]? = some r2) (h2 : r2.length = es) (hcl : r2.all AV.isClosed1 = true) (hl : row.length = n * es) (hm : n + 1 ≤ 4294967296) :
  ∃ x' bs' tk', appendhOp ((X r).push r0) es x (.rsl (X r).acts.length b0 0 es 1 c) (.ptr d p q) = some (x', (X ⟨bs', tk'⟩).push r0) ∧ GX d es (row ++ r2) (n + 1) x' bs' ∧ GKeep d x r.boxes bs' ∧ ∃ b', x' = .rsl d b' 0 es (n + 1) 0 ∧ r.boxes.length ≤ b' := by
 have hlt := h.lt r
 have hcur : ((X r).push r0).cur = (X r).acts.length := cur_push _ _
 have hro : ((X r).push r0).ro ≤ d := h.ro r
 have hle : d ≤ (X r).acts.length := by omega
 have hnb : ((X r).push r0).nbox d = r.boxes.length := by
  simp only [Sig.nbox, Sig.push]
  rw [List.getElem?_append_left hlt, h.get r]
 have hsrc : ((X r).push r0).srcRows es (.rsl (X r).acts.length b0 0 es 1 c) = some (r2, 1) := by
  simp only [Sig.srcRows, hcur, and_self, if_true, box_push, hb, Option.bind_some, Nat.zero_add, Nat.one_mul, h2, Nat.le_refl, List.drop_zero]
  rw [List.take_of_length_le (by omega)]
 obtain ⟨rfl, rfl, rfl⟩ | ⟨hn, b, hb1, rfl⟩ := hg
 ·have hab : ((X r).push r0).addBox d r2 = (X ⟨r.boxes ++ [r2], r.toks⟩).push r0 := h.onPush _
  refine ⟨.rsl d r.boxes.length 0 es 1 0, r.boxes ++ [r2], r.toks, ?_, .inr ⟨by omega, r.boxes.length, by simp, rfl⟩, ⟨by simp, fun j hj _ => List.getElem?_append_left hj⟩, _, rfl, Nat.le_refl _⟩
  have hmo : (1 : Nat) ≤ most := by decide
  simp only [appendhOp, hsrc, Option.bind_some, Nat.one_ne_zero, if_false, hro, hcur, hle, hcl, or_true, and_self, if_true, List.isEmpty_nil, Own.isNil, true_or, hmo, hnb, hab]
 ·have hmo : n + 1 ≤ most := hm
  have hbx : ((X r).push r0).box d b = some row := by rw [h.box, hb1]
  have hrg : ((X r).push r0).regrowAt d b (row ++ r2) = (X ⟨r.boxes.set b [] ++ [row ++ r2], r.toks ++ [none]⟩).push r0 := h.onPush _
  refine ⟨.rsl d r.boxes.length 0 es (n + 1) 0, r.boxes.set b [] ++ [row ++ r2], r.toks ++ [none], ?_, .inr ⟨by omega, r.boxes.length, ?_, rfl⟩, ⟨by simp, fun j hj hne => ?_⟩, _, rfl, Nat.le_refl _⟩
  ·simp only [appendhOp, hsrc, Option.bind_some, Nat.one_ne_zero, if_false, hro, hcur, hle, hcl, or_true, and_self, if_true, hn, hmo, hbx, hl, hnb, hrg]
  ·rw [List.getElem?_append_right (by simp)]; simp
  ·rw [List.getElem?_append_left (by simpa using hj), List.getElem?_set_ne (fun e => hne es n (by rw [e]))]
end
section
variable {AP : FuncId → Option AFn} {s : Sig} {bs : List (List AV)} {tk : List (Option Nat)} {f : FuncId} {args : List AV}
end
end Go.Ax.Sx

/-
  Maps from strings to true; stores and loads that lie apart.
-/
namespace Go.Ax.Sx
section
variable {call : CallF} {ρ : Nat → AV} {m : Sig}
theorem opv_mkMap : opv call (evalT ρ) m .mkMap = some (mkMapOp m) := .trans rfl rfl
theorem opv_mapHas {x k : AOpd} : opv call (evalT ρ) m (.mapHas x k) = (mapHasOp m (evalT ρ x) (evalT ρ k)).map (·, m) := .trans rfl rfl
theorem opv_mapAdd {x k y : AOpd} : opv call (evalT ρ) m (.mapAdd x k y) = (mapAddOp m (evalT ρ x) (evalT ρ k) (evalT ρ y)).map (AV.undef, ·) := .trans rfl rfl
theorem opv_storeq {n : Nat} {x y : AOpd} {ws : List (Bool × Nat × Nat × Nat)} : opv call (evalT ρ) m (.storeq n x y ws) = (storeqOp m n (evalT ρ x) (evalT ρ y) (ws.map fun q => (q.1, q.2.1, (ptrAdd q.2.2.1 (ρ q.2.2.2)).getD AV.undef))).map (AV.undef, ·) := .trans rfl rfl
theorem opv_calliq {f : FuncId} {as : List AOpd} {ws : List (Bool × Nat × Nat)} : opv call (evalT ρ) m (.calliq f as ws) = callqOp call m (.inl f) (as.map (evalT ρ)) (ws.map fun q => (q.1, q.2.1, ρ q.2.2)) := .trans rfl rfl
theorem opv_appendi {es : Nat} {x y : AOpd} : opv call (evalT ρ) m (.appendi es x y) = appendiOp m es (evalT ρ x) (evalT ρ y) := .trans rfl rfl
theorem opv_loadq {g : Bool} {n off t : Nat} {x : AOpd} : opv call (evalT ρ) m (.loadq g n x off t) = (loadqOp m g n (evalT ρ x) off (ρ t)).map (·, m) := .trans rfl rfl
theorem opv_mkVal {es : Nat} {zs : List AV} {l c : AOpd} : opv call (evalT ρ) m (.mkVal es zs l c) = (mkValOp es zs (evalT ρ l) (evalT ρ c)).map (·, m) := .trans rfl rfl
theorem opv_capz {x : AOpd} : opv call (evalT ρ) m (.capz x) = (capzOp (evalT ρ x)).map (·, m) := .trans rfl rfl
theorem opv_appendz {es : Nat} {zs : List AV} {x y : AOpd} : opv call (evalT ρ) m (.appendz es zs x y) = appendzOp m es zs (evalT ρ x) (evalT ρ y) := .trans rfl rfl
theorem capz_nil {es : Nat} {xs : List (List AV)} : capzOp (.slice .nilS es xs) = some (AV.int 0) := rfl
theorem loadq_e {g : Bool} {n off o : Nat} {cs : List AV} {y : AV} : loadqOp m g n (.eptr cs o) off y = m.load g n (.eptr cs o) := rfl
theorem loadq_p {g : Bool} {n off d b o d' b' o' : Nat} : loadqOp m g n (.ptr d b o) off (.ptr d' b' o') = if d = d' ∧ b = b' ∧ o = o' + off then m.load g n (.ptr d b o) else none := rfl
theorem storeq_u {n : Nat} {x y : AV} {ws : List (Bool × Nat × AV)} : storeqOp m n x y ws = if ws.all (apart n x) = true then m.store n x y else none := rfl
theorem apart_p {n d b o d' b' o' k : Nat} {g : Bool} : apart n (.ptr d b o) (g, k, .ptr d' b' o') = (!(d == d' && b == b') || decide (o + n ≤ o') || decide (o' + max 1 k ≤ o)) := rfl
theorem apart_e {n d b o o' k : Nat} {g : Bool} {cs : List AV} : apart n (.ptr d b o) (g, k, .eptr cs o') = true := rfl
end
attribute [go_sem ↓] opv_mkMap opv_mapHas opv_mapAdd opv_storeq opv_loadq opv_calliq opv_appendi opv_mkVal opv_capz opv_appendz
attribute [go_sem] capz_nil loadq_e loadq_p storeq_u apart_p apart_e Bool.or_true Bool.true_or
section
variable {s : Sig} {bs : List (List AV)} {tk : List (Option Nat)} {b : Nat} {ks : List AV} {x : ByteArray}
end
end Go.Ax.Sx

/-
  From the executor's answer to a law's row: the arguments opened and shut.
-/
namespace Go.Ax
open Go.ChangeShapes Go.WideShapes Go.ChangeAt Go.RowKit Sx
def ArgShp (P : Program) (d : Nat) (t : TypeId) (x : AV) : Prop :=
 match P.underlying t with
 | some (.struct _) | some (.array _ _) => ∃ avs, x = .agg avs ∧ Shp P d t avs
 | _ => Shp P d t [x]
inductive ArgsShp (P : Program) (d : Nat) : List TypeId → List AV → Prop
 | nil : ArgsShp P d [] []
 | cons {t : TypeId} {ts : List TypeId} {x : AV} {xs : List AV} (h : ArgShp P d t x) (r : ArgsShp P d ts xs) : ArgsShp P d (t :: ts) (x :: xs)
section
variable {H : Type} {enc : TypeId × Value → H} {P : Program} {w : World}
theorem cells_other {v : Value} {cs : Array Value} (h : v.cells = cs) (hn : ∀ c, v ≠ .agg c) : cs.toList = [v] := by
 subst h
 cases v <;> first | rfl | exact absurd rfl (hn _)
theorem reads_agg {avs : List AV} {cs : Array Value} (h : RL w avs cs.toList) : Reads w (.agg avs) (.agg cs) :=
 .agg (by simpa using h.len.symm) (fun c hc => by
  obtain ⟨i, hi⟩ := List.getElem?_of_mem hc
  have hil := (List.getElem?_eq_some_iff.1 hi).1
  have hl := h.len
  have hcl : i < cs.toList.length := by omega
  exact (h.get i c (cs.toList[i]) hi (List.getElem?_eq_getElem hcl)).2) (fun i hi => by
  have hl := h.len
  have hcl : i < cs.toList.length := by omega
  have := (h.get i avs[i] (cs.toList[i]) (List.getElem?_eq_getElem hi) (List.getElem?_eq_getElem hcl)).1
  have e : cs.getD i Go.undef = cs.toList[i] := by
   have : i < cs.size := by simpa using hcl
   simp [Array.getD, this]
  rw [e]; exact this)
theorem open_arg {d : Nat} {r : Reach} {b0 : Nat} {t : TypeId} {v : Value} {x : DataW H} {ps : List MemPlace} (hok : okT P d t = true) (hval : Value.okWide P w r b0 t v) (h : DataW.Trod enc P w 0 (fun _ => true) true t v x ps) (hwt : ∀ n ∈ x.weights P t, n ≤ reachBytes) :
  ∃ a, Reads w a v ∧ ArgShp P d t a := by
 obtain ⟨fuel, hf⟩ := h
 obtain ⟨avs, h1, h2, h3⟩ := open_type d t fuel _ _ hok hf hwt
 cases d with
 | zero => simp [okT] at hok
 | succ d =>
  unfold okT at hok
  cases hu : P.underlying t with
  | none => rw [hu] at hok; cases hok
  | some u =>
   rw [hu] at hok
   have key : (∀ c, v ≠ .agg c) → (P.cellsOf t = 1) → ∃ a, Reads w a v ∧ Shp P (d + 1) t [a] := by
    intro hn h1c
    have hc := cells_other (v := v) rfl hn
    rw [hc] at h1
    have hl := h1.len
    match avs, hl, h1, h3 with
    | [a], _, h1, h3 => exact ⟨a, (h1.get 0 a v rfl rfl).1, h3⟩
   cases u with
   | bool =>
    obtain ⟨a, k1, k2⟩ := key (fun c e => by subst e; simp only [Value.okWide, hu] at hval; simp [Cell.okWide, Cell.ok, hu] at hval) (by simpa using hok)
    exact ⟨a, k1, by simp only [ArgShp, hu]; exact k2⟩
   | int k =>
    obtain ⟨a, k1, k2⟩ := key (fun c e => by subst e; simp only [Value.okWide, hu] at hval; simp [Cell.okWide, Cell.ok, hu] at hval) (by simpa using hok)
    exact ⟨a, k1, by simp only [ArgShp, hu]; exact k2⟩
   | string =>
    obtain ⟨a, k1, k2⟩ := key (fun c e => by subst e; simp only [Value.okWide, hu] at hval; simp [Cell.okWide, Cell.ok, hu] at hval) (by simpa using hok)
    exact ⟨a, k1, by simp only [ArgShp, hu]; exact k2⟩
   | slice e =>
    obtain ⟨a, k1, k2⟩ := key (fun c e => by subst e; simp only [Value.okWide, hu] at hval; simp [Cell.okWide, Cell.ok, hu] at hval) (by simp only [Bool.and_eq_true, decide_eq_true_eq] at hok; exact hok.1.1)
    exact ⟨a, k1, by simp only [ArgShp, hu]; exact k2⟩
   | struct fs =>
    simp only [Value.okWide, hu] at hval
    obtain ⟨cs, rfl, _, _⟩ := hval
    exact ⟨.agg avs, reads_agg h1, by simp only [ArgShp, hu]; exact ⟨avs, rfl, h3⟩⟩
   | array n e =>
    simp only [Value.okWide, hu] at hval
    obtain ⟨cs, rfl, _, _⟩ := hval
    exact ⟨.agg avs, reads_agg h1, by simp only [ArgShp, hu]; exact ⟨avs, rfl, h3⟩⟩
   | _ => cases hok
theorem open_args {d : Nat} {r : Reach} {b0 : Nat} : ∀ {ts : List TypeId} {vs : List Value} {ds : List (DataW H)} {ps : List MemPlace}, (∀ t ∈ ts, okT P d t = true) → (∀ (j : Nat) t v, ts[j]? = some t → vs[j]? = some v → Value.okWide P w r b0 t v) →
  DataW.TrodAll enc P w 0 (fun _ => true) true ts vs ds ps → (∀ n ∈ DataW.weightsEach P ts ds, n ≤ reachBytes) → ∃ as : List AV, ArgsShp P d ts as ∧ as.length = vs.length ∧ ∀ (i : Nat) a v, as[i]? = some a → vs[i]? = some v → Reads w a v
 | [], [], [], _, _, _, _, _ => ⟨[], .nil, rfl, fun i a v h => by simp at h⟩
 | t :: ts, v :: vs, x :: ds, _, hok, hval, ⟨p, q, h1, h2, _⟩, hwt => by
  obtain ⟨a, k1, k2⟩ := open_arg (hok t (List.mem_cons_self ..)) (hval 0 t v rfl rfl) h1 (fun n hn => hwt n (by simp only [DataW.weightsEach, List.mem_append]; exact .inl hn))
  obtain ⟨as, m1, m2, m3⟩ := open_args (fun t ht => hok t (List.mem_cons_of_mem _ ht)) (fun j t v h1 h2 => hval (j + 1) t v (by simpa using h1) (by simpa using h2)) h2 (fun n hn => hwt n (by simp only [DataW.weightsEach, List.mem_append]; exact .inr hn))
  exact ⟨a :: as, .cons k2 m1, by simp [m2], fun i b u hb hu => by
   cases i with
   | zero => simp at hb hu; subst hb hu; exact k1
   | succ i => simp at hb hu; exact m3 i b u hb hu⟩
theorem trodAll_len {sp : Nat → Bool} {held : Bool} {base : Nat} : ∀ {ts : List TypeId} {vs : List Value} {ds : List (DataW H)} {ps : List MemPlace}, DataW.TrodAll enc P w base sp held ts vs ds ps → ds.length = ts.length
 | [], [], [], _, _ => rfl
 | t :: ts, v :: vs, x :: ds, _, ⟨p, q, h1, h2, _⟩ => by simp [trodAll_len h2]
theorem stay_args (hl : laidOutB P = true) {W' : World} (hb : Below w.heap.size w W') {sp : Nat → Bool} : ∀ {ts : List TypeId} {vs : List Value} {ds : List (DataW H)} {ps : List MemPlace}, (∀ t ∈ ts, P.readableRec t = true ∧ t < P.types.size) →
  DataW.TrodAll enc P w 0 (fun _ => true) true ts vs ds ps → (∀ p ∈ ps, p.block < w.heap.size) → (∀ p ∈ ps, sp p.block = true) → DataW.TrodAll enc P W' 0 sp true ts vs ds ps
 | [], [], [], _, _, h, _, _ => h
 | t :: ts, v :: vs, x :: ds, _, hT, ⟨p, q, h1, h2, e⟩, hlt, hsp => by
  subst e
  have ht := hT t (List.mem_cons_self ..)
  exact ⟨p, q, WideElems.Trod_stays hl ht.1 ht.2 h1 (fun y hy => hb.same (hlt y (List.mem_append_left _ hy))) (fun y hy => hsp y (List.mem_append_left _ hy)),
   stay_args hl hb (fun t ht => hT t (List.mem_cons_of_mem _ ht)) h2 (fun y hy => hlt y (List.mem_append_right _ hy)) (fun y hy => hsp y (List.mem_append_right _ hy)), rfl⟩
theorem post_of_below {f : Func} {s : ChangeSpec} {apart fresh handsOn again : Bool} {W W' : World} {args : Array Value} {v : Value} {ds gs : List (DataW H)} {before pa pv : List MemPlace}
  (hW : DataW.Whole enc P f.params.toList s.vars apart W args.toList ds gs before)
  (hres : ∀ (b : Nat) (sp : Nat → Bool) (hd : Bool), DataW.TrodAll enc P W' b sp hd f.resultTypes.toList (v.resultList f.resultTypes.size) (s.fn H (ds ++ gs)).results [])
  (hargs : ∀ sp : Nat → Bool, (∀ p ∈ before, sp p.block = true) → DataW.TrodAll enc P W' 0 sp true f.params.toList args.toList (s.fn H (ds ++ gs)).args pa)
  (hvars : ∀ sp : Nat → Bool, (∀ p ∈ before, sp p.block = true) → DataW.TrodVars enc P W' sp s.vars (s.fn H (ds ++ gs)).vars pv)
  (hps : before = pa ++ pv) (hb : Below W.heap.size W W')
  (hok : ∀ (j : Nat) (t : TypeId) (r : Value), f.resultTypes[j]? = some t → (v.resultList f.resultTypes.size)[j]? = some r → Value.okWide P W' .any 0 t r) :
  s.post enc P f apart fresh handsOn again W args v W' := by
 have hlt : ∀ p ∈ before, p.block < W.heap.size := fun p hp => hW.lt p hp
 have hold : ∀ p ∈ before, (fun b => decide (b < W.heap.size)) p.block = true := fun p hp => by simpa using hlt p hp
 refine ⟨ds, gs, before, [], pa, pv, hW, hres _ _ _, hargs _ hold, hvars _ hold, World.keptBut_mono (fun p hp => ⟨hp, ?_⟩) (hb.frame (· ∈ before)), fun _ => ?_⟩
 ·rw [hps, List.mem_append] at hp
  exact Or.inr hp
 ·obtain ⟨_, _, _, _, _, hz, hn⟩ := hW
  refine ⟨hok, _, _, ([] ++ pa) ++ pv, ⟨[] ++ pa, pv, trodAll_append (hargs _ (fun _ _ => rfl)) (hres _ _ _), hvars _ (fun _ _ => rfl), rfl, ?_, ?_⟩, ?_⟩
  ·intro b off hp
   have hin : MemPlace.cell b off ∈ before := by rw [hps]; simpa using hp
   rw [hb.frozen (hlt _ hin)]
   exact hz b off hin
  ·intro ha
   have := hn ha
   rw [hps] at this
   simpa using this
  ·intro p hp _
   rw [hps]
   simpa using hp
def LawOk (P : Program) (AP : FuncId → Option AFn) (f : FuncId) (d : Nat) (ts : List TypeId) : Prop :=
 ∀ (as : List AV) (s : Sig), Ok s → ArgsShp P d ts as → callL AP (.fn f) as s = some (.v (.bool true), s)
theorem law_calls {AP : FuncId → Option AFn} {K : World → Prop} (hp : ProgOk P AP K) (hK : ∀ w', Below w.heap.size w w' → K w') {f : FuncId} {d : Nat} {ts : List TypeId} (hlaw : LawOk P AP f d ts) {args : Array Value} {ds : List (DataW H)} {ps : List MemPlace} {r : Reach} {b0 : Nat} (hok : ∀ t ∈ ts, okT P d t = true)
  (hval : ∀ (j : Nat) t v, ts[j]? = some t → args.toList[j]? = some v → Value.okWide P w r b0 t v) (hA : DataW.TrodAll enc P w 0 (fun _ => true) true ts args.toList ds ps) (hwt : (DataW.weightsEach P ts ds).all (· ≤ reachBytes) = true) :
  Calls P f args w fun e w' => e = .returned (.bool true) ∧ Below w.heap.size w w' := by
 obtain ⟨as, h1, h2, h3⟩ := open_args hok hval hA (fun n hn => by simpa using List.all_eq_true.1 hwt n hn)
 obtain ⟨n, hn⟩ := callL_iff.1 (hlaw as startS ⟨Nat.le_refl _, Nat.le_refl _⟩ h1)
 refine run_sound hp hK (by simpa using h2.symm) (fun i hi => ?_) hn
 have hi' : i < args.toList.length := by omega
 have e : args.getD i Go.undef = args.toList[i] := by
  have : i < args.size := by simpa using hi'
  simp [Array.getD, this]
 rw [e]
 exact h3 i as[i] args.toList[i] (List.getElem?_eq_getElem hi) (List.getElem?_eq_getElem hi')
end
end Go.Ax

/-
  What a shape says, type by type.
-/
namespace Go.Ax.Sx
section
variable {P : Program} {d : Nat} {t : TypeId} {avs : List AV}
theorem shp_int (hu : P.underlying t = some (.int .i64)) (h : Shp P (d + 1) t avs) : ∃ x, avs = [I x] ∧ inI x := by
 simp only [Shp, hu] at h
 obtain ⟨x, rfl, hw⟩ := h
 refine ⟨x, rfl, ?_⟩
 simp only [Lit.wf, Bool.and_eq_true, decide_eq_true_eq] at hw
 have h1 : IntKind.i64.min = -9223372036854775808 := by decide
 have h2 : IntKind.i64.max = 9223372036854775807 := by decide
 unfold inI; omega
theorem shp_struct {fs : Array Field} (hu : P.underlying t = some (.struct fs)) (h : Shp P (d + 1) t avs) : ∃ ps : List (List AV), avs = ps.flatten ∧ ps.length = fs.size ∧ ∀ (i : Nat) (f : Field) (p : List AV), fs[i]? = some f → ps[i]? = some p → Shp P d f.type p := by
 simp only [Shp, hu] at h
 obtain ⟨ps, h1, h2, h3⟩ := h
 exact ⟨ps, h1, h2, fun i f p a b => (h3 i f p a b).2⟩
theorem shp_slice {e : TypeId} (hu : P.underlying t = some (.slice e)) (h : Shp P (d + 1) t avs) : ∃ o rows, avs = [.slice o (P.cellsOf e) rows] ∧ (o = .any ∨ (o = .nilS ∧ rows = [])) ∧ rows.length ≤ maxLen ∧ ∀ r ∈ rows, Shp P d e r := by
 simp only [Shp, hu] at h
 obtain ⟨o, rows, h1, h2, h3, h4, _⟩ := h
 exact ⟨o, rows, h1, h2, h3, fun r a => (h4 r a).2⟩
theorem rows_map {α : Type} {q : List AV → α → Prop} : ∀ {rows : List (List AV)}, (∀ r ∈ rows, ∃ a, q r a) → ∃ l : List α, rows.length = l.length ∧ ∀ (i : Nat) r a, rows[i]? = some r → l[i]? = some a → q r a
 | [], _ => ⟨[], rfl, fun i r a h => by simp at h⟩
 | r :: rows, h => by
  obtain ⟨a, ha⟩ := h r (List.mem_cons_self ..)
  obtain ⟨l, h1, h2⟩ := rows_map (rows := rows) (fun r hr => h r (List.mem_cons_of_mem _ hr))
  exact ⟨a :: l, by simp [h1], fun i r' a' h3 h4 => by
   cases i with
   | zero => simp at h3 h4; subst h3 h4; exact ha
   | succ i => simp at h3 h4; exact h2 i r' a' h3 h4⟩
theorem rows_eq {α : Type} {f : α → List AV} {g : α → Prop} {rows : List (List AV)} (h : ∀ r ∈ rows, ∃ a, r = f a ∧ g a) : ∃ l : List α, rows = l.map f ∧ ∀ a ∈ l, g a := by
 obtain ⟨l, h1, h2⟩ := rows_map (q := fun r a => r = f a ∧ g a) h
 refine ⟨l, ?_, fun a ha => ?_⟩
 ·apply List.ext_getElem?
  intro i
  by_cases hi : i < rows.length
  ·obtain ⟨a, ha⟩ := get_some (l := l) (k := i) (by omega)
   rw [List.getElem?_map, ha, List.getElem?_eq_getElem hi]
   exact congrArg some (h2 i _ a (List.getElem?_eq_getElem hi) ha).1
  ·rw [List.getElem?_eq_none (by omega), List.getElem?_eq_none (by simp; omega)]
 ·obtain ⟨i, hi⟩ := List.getElem?_of_mem ha
  have hil := (List.getElem?_eq_some_iff.1 hi).1
  obtain ⟨r, hr⟩ := get_some (l := rows) (k := i) (by omega)
  exact (h2 i r a hr hi).2
end
end Go.Ax.Sx

/- The codes of the functions, as compFn gives them. -/
namespace Go.Ax.Sx.Ck
open Go.Ax
abbrev o1 (d : Nat) (x : AOp) : AOper := ⟨some d, none, x⟩
abbrev t1 (n : Nat) : AOpd := .tmp n
abbrev m1 (d x : Nat) : AOper := ⟨some d, none, .move (.tmp x)⟩
abbrev lF (d n x : Nat) : AOper := ⟨some d, none, .load false n (.tmp x)⟩
abbrev lT (d n x : Nat) : AOper := ⟨some d, none, .load true n (.tmp x)⟩
abbrev fA (d n x : Nat) : AOper := ⟨some d, none, .fieldAddr n (.tmp x)⟩
abbrev gT (d g : Nat) (x : AOp) : AOper := ⟨some d, some (g, true), x⟩
abbrev gF (d g : Nat) (x : AOp) : AOper := ⟨some d, some (g, false), x⟩
abbrev i1 (n : Int) : AOpd := .const (.v (.int .i64 n))
abbrev rF (l : List AOper) : ACode := .region false l
abbrev rT (l : List AOper) : ACode := .region true l
abbrev sq (a b : ACode) : ACode := .seq a b
abbrev cn (n : Nat) (a b : ACode) : ACode := .cond (.tmp n) a b
abbrev bT : AOpd := .const (.v (.bool true))
abbrev bF : AOpd := .const (.v (.bool false))
abbrev mX (x : Nat) : AOp := .move (.tmp x)
abbrev mI (n : Int) : AOp := .move (.const (.v (.int .i64 n)))
abbrev mB (b : Bool) : AOp := .move (.const (.v (.bool b)))
abbrev lX (n x : Nat) : AOp := .load false n (.tmp x)
abbrev lY (n x : Nat) : AOp := .load true n (.tmp x)
abbrev fX (n x : Nat) : AOp := .fieldAddr n (.tmp x)
abbrev iX (n x y : Nat) : AOp := .indexAddr none n (.tmp x) (.tmp y)
abbrev aX (o : BinOp) (x y : Nat) : AOp := .arith o (.tmp x) (.tmp y)
abbrev aK (o : BinOp) (x : Nat) (n : Int) : AOp := .arith o (.tmp x) (.const (.v (.int .i64 n)))
abbrev nX (x : Nat) : AOp := .len false (.tmp x)
abbrev eX (n x : Nat) : AOp := .extract n (.tmp x)
abbrev uX (x : Nat) : AOp := .un .not (.tmp x)
abbrev pA (x y : Nat) : AOp := .pick (.tmp x) (.tmp y) bF
abbrev pB (x y : Nat) : AOp := .pick (.tmp x) bT (.tmp y)
abbrev cF (f : Nat) (l : List AOpd) : AOp := .call false f l
abbrev sT (n x y : Nat) : AOper := ⟨none, none, .store n (.tmp x) (.tmp y)⟩

-- 3
def b_t_TopFrameClockSent_r0 : ACode := (sq (rF [m1 325 20, m1 326 15, o1 327 (nX 326), o1 328 (aX .eql 325 327), m1 6 328]) .ret)
def b_t_TopFrameClockSent_r1 : ACode := (rF [m1 223 21, o1 224 (aK .add 223 1), m1 21 224])
def b_t_TopFrameClockSent_r2 : ACode := (sq (rF [m1 300 21, o1 301 (aK .gtr 300 0)]) (cn 301 (sq (rT [m1 302 15, m1 303 18, m1 304 21, o1 305 (aK .sub 304 1), o1 306 (iX 2 303 305), fA 307 0 306, lF
  308 1 307, fA 309 0 22, lF 310 1 309, o1 311 (aK .add 310 1), o1 312 (.slice (.sl 3) (t1 302) (some (t1 308)) (some (t1 311)) none), m1 27 312]) (sq (sq (rF [⟨none, none, (.reserve 1)⟩]) (rT [m1 314
  27, o1 315 (.fcall true [[.v (.int .i64 0), .v (.int .i64 0)]] 13 [t1 314]), m1 316 27, o1 317 (.indexAddr none 3 (t1 316) (i1 0)), fA 318 0 317, o1 319 (.loadr 1 false 1 (t1 318)), o1 320 (.fcall
  false [[.v (.int .i64 0), .v (.int .i64 0)]] 14 [t1 315, t1 319]), m1 313 320, o1 321 (eX 0 313), o1 322 (eX 1 313), o1 28 (.slot 1 [.v (.int .i64 0), .v (.int .i64 0)]), ⟨none, none, (.fill 1 2 (t1
  28) (t1 321))⟩, m1 29 322])) (sq (rF [m1 323 29, o1 324 (aK .neq 323 13)]) (cn 324 (sq (rF [o1 6 (mB false)]) .ret) .skip)))) .skip))
def b_t_TopFrameClockSent_l1 : ACode := (sq (sq (rF [m1 254 24, m1 255 23, o1 256 (nX 255), o1 257 (aX .lss 254 256), m1 258 257, gT 259 258 (mX 23), gT 260 258 (nX 259), gT 261 258 (aK .gtr 260 1),
  o1 262 (pA 258 261)]) (cn 262 .skip (.exit 8))) (sq (.block 9 (sq (sq (rF [⟨none, none, (.reserve 1)⟩]) (rT [m1 266 23, o1 267 (.fcall true [[.v (.int .i64 0), .v (.int .i64 0)]] 13 [t1 266]), m1
  268 23, m1 269 24, o1 270 (iX 3 268 269), fA 271 0 270, o1 272 (.loadr 1 false 1 (t1 271)), o1 273 (.fcall false [[.v (.int .i64 0), .v (.int .i64 0)]] 14 [t1 267, t1 272]), m1 265 273, o1 274 (eX 0
  265), o1 275 (eX 1 265), o1 25 (.slot 1 [.v (.int .i64 0), .v (.int .i64 0)]), ⟨none, none, (.fill 1 2 (t1 25) (t1 274))⟩, m1 26 275])) (sq (rT [m1 276 26, o1 277 (aK .neq 276 0), m1 278 277, gF 279
  278 (fX 0 25), gF 280 278 (lX 1 279), gF 281 278 (mX 23), gF 282 278 (mX 24), gF 283 278 (iX 3 281 282), gF 284 278 (fX 1 283), gF 285 278 (fX 0 284), gF 286 278 (lX 1 285), gF 287 278 (aX .lss 280
  286), o1 288 (pB 278 287), m1 289 288, gF 290 289 (fX 1 25), gF 291 289 (lX 1 290), gF 292 289 (mX 23), gF 293 289 (mX 24), gF 294 289 (iX 3 292 293), gF 295 289 (fX 1 294), gF 296 289 (fX 1 295),
  gF 297 289 (lX 1 296), gF 298 289 (aX .gtr 291 297), o1 299 (pB 289 298)]) (cn 299 (sq (rF [o1 6 (mB false)]) .ret) .skip)))) (rF [m1 263 24, o1 264 (aK .add 263 1), m1 24 264])))
def b_t_TopFrameClockSent_l0 : ACode := (sq (sq (rF [m1 219 21, m1 220 18, o1 221 (nX 220), o1 222 (aX .lss 219 221)]) (cn 222 .skip (.exit 6))) (sq (.block 7 (sq (rF [m1 225 18, m1 226 21, o1 227 (iX
  2 225 226), lT 228 2 227, o1 22 (.alloc [.v (.int .i64 0), .v (.int .i64 0)]), sT 2 22 228]) (sq (sq (rF [fA 229 0 22, lF 230 1 229, m1 231 20, o1 232 (aX .neq 230 231), m1 233 232, gF 234 233 (fX 1
  22), gF 235 233 (lX 1 234), gF 236 233 (fX 0 22), gF 237 233 (lX 1 236), gF 238 233 (mX 15), gF 239 233 (nX 238), gF 240 233 (aK .sub 239 1), gF 241 233 (cF 11 [t1 235, t1 237, t1 240]), gF 242 233
  (uX 241), o1 243 (pB 233 242)]) (cn 243 (sq (rF [o1 6 (mB false)]) .ret) .skip)) (sq (rF [fA 244 1 22, lF 245 1 244, o1 246 (aK .add 245 1), m1 20 246]) (sq (rF [m1 247 15, fA 248 0 22, lF 249 1
  248, fA 250 1 22, lF 251 1 250, o1 252 (aK .add 251 1), o1 253 (.slice (.sl 3) (t1 247) (some (t1 249)) (some (t1 252)) none), m1 23 253]) (sq (sq (rF [o1 24 (mI 0)]) (.block 8 (.loop
  b_t_TopFrameClockSent_l1))) b_t_TopFrameClockSent_r2)))))) b_t_TopFrameClockSent_r1))
def b_t_TopFrameClockSent_r3 : ACode := (sq (sq (rF [m1 196 15, o1 197 (nX 196), o1 198 (aK .eql 197 0)]) (cn 198 (sq (rF [o1 6 (mB true)]) .ret) .skip)) (sq (rF [m1 200 15, o1 201 (cF 13 [t1 200]),
  o1 202 (cF 12 [t1 201]), m1 199 202, o1 203 (eX 0 199), o1 204 (eX 1 199), m1 18 203, m1 19 204]) (sq (sq (rF [m1 205 19, o1 206 (aK .neq 205 0), m1 207 206, gF 208 207 (mX 18), gF 209 207 (nX 208),
  gF 210 207 (aK .eql 209 0), o1 211 (pB 207 210), m1 212 211, gF 213 212 (mX 18), gF 214 212 (nX 213), gF 215 212 (mX 15), gF 216 212 (nX 215), gF 217 212 (aX .gtr 214 216), o1 218 (pB 212 217)]) (cn
  218 (sq (rF [o1 6 (mB false)]) .ret) .skip)) (sq (rF [o1 20 (mI 0)]) (sq (sq (rF [o1 21 (mI 0)]) (.block 6 (.loop b_t_TopFrameClockSent_l0))) b_t_TopFrameClockSent_r0)))))
def b_t_TopFrameClockSent_l2 : ACode := (sq (sq (rF [m1 139 16, m1 140 13, o1 141 (nX 140), o1 142 (aX .lss 139 141)]) (cn 142 .skip (.exit 4))) (sq (.block 5 (sq (rF [m1 145 13, m1 146 16, o1 147 (iX
  3 145 146), fA 148 1 147, lF 149 1 148, m1 17 149]) (sq (sq (rT [m1 150 17, m1 151 1, o1 152 (nX 151), o1 153 (aK .sub 152 1), o1 154 (cF 11 [t1 150, i1 0, t1 153]), o1 155 (uX 154), m1 156 155, gF
  157 156 (mX 13), gF 158 156 (mX 16), gF 159 156 (iX 3 157 158), gF 160 156 (fX 2 159), gF 161 156 (lX 1 160), gF 162 156 (nX 161), gF 163 156 (aK .neq 162 2), o1 164 (pB 156 163), m1 165 164, gF 166
  165 (mX 13), gF 167 165 (mX 16), gF 168 165 (iX 3 166 167), gF 169 165 (fX 2 168), gF 170 165 (lX 1 169), gF 171 165 (.indexAddr none 1 (t1 170) (i1 0)), gF 172 165 (lX 1 171), gF 173 165 (.arith
  .mul (i1 256) (t1 172)), gF 174 165 (mX 13), gF 175 165 (mX 16), gF 176 165 (iX 3 174 175), gF 177 165 (fX 2 176), gF 178 165 (lX 1 177), gF 179 165 (.indexAddr none 1 (t1 178) (i1 1)), gF 180 165
  (lX 1 179), gF 181 165 (aX .add 173 180), gF 182 165 (mX 1), gF 183 165 (mX 17), gF 184 165 (iX 3 182 183), gF 185 165 (fX 0 184), gF 186 165 (lX 1 185), gF 187 165 (aX .neq 181 186), o1 188 (pB 165
  187)]) (cn 188 (sq (rF [o1 6 (mB false)]) .ret) .skip)) (rF [m1 189 15, m1 190 1, m1 191 17, o1 192 (iX 3 190 191), lT 193 3 192, o1 194 (.buildSlice 3 [[.v (.int .i64 0), .v (.int .i64 0), .v (.int
  .i64 0)]] [(0, (t1 193))]), o1 195 (.append 3 (t1 189) (t1 194)), m1 15 195])))) (rF [m1 143 16, o1 144 (aK .add 143 1), m1 16 144])))
def b_t_TopFrameClockSent_r4 : ACode := (sq (sq (rF [lT 120 2 3, m1 121 11, o1 122 (cF 9 [t1 120, t1 121]), o1 123 (aK .neq 122 0)]) (cn 123 (sq (rF [o1 6 (mB false)]) .ret) .skip)) (sq (rF [lT 125 2
  3, m1 126 11, o1 127 (cF 10 [t1 125, i1 0, t1 126]), m1 124 127, o1 128 (eX 0 124), o1 129 (eX 1 124), m1 13 128, m1 14 129]) (sq (sq (rF [m1 130 14, o1 131 (aK .neq 130 0), m1 132 131, gF 133 132
  (mX 13), gF 134 132 (nX 133), gF 135 132 (mX 1), gF 136 132 (nX 135), gF 137 132 (aX .gtr 134 136), o1 138 (pB 132 137)]) (cn 138 (sq (rF [o1 6 (mB false)]) .ret) .skip)) (sq (rF [o1 15 (.move
  (.const (.slice .nilS 0 [])))]) (sq (sq (rF [o1 16 (mI 0)]) (.block 4 (.loop b_t_TopFrameClockSent_l2))) b_t_TopFrameClockSent_r3)))))
def b_t_TopFrameClockSent_l3 : ACode := (sq (sq (rF [m1 95 12, m1 96 9, o1 97 (nX 96), o1 98 (aX .lss 95 97)]) (cn 98 .skip (.exit 2))) (sq (.block 3 (sq (rF [m1 101 12, m1 102 2, o1 103 (nX 102), o1
  104 (aX .geq 101 103), m1 105 104, gF 106 105 (mX 2), gF 107 105 (mX 12), gF 108 105 (iX 1 106 107), gF 109 105 (lX 1 108), gF 110 105 (uX 109), o1 111 (pB 105 110)]) (cn 111 (rF [m1 112 11, m1 113
  9, m1 114 12, o1 115 (iX 4 113 114), lT 116 4 115, o1 117 (cF 8 [t1 116]), o1 118 (.buildSlice 4 [[.v (.int .i64 0), .v (.int .i64 0), .v (.int .i64 0), .slice .nilS 0 []]] [(0, (t1 117))]), o1 119
  (.append 4 (t1 112) (t1 118)), m1 11 119]) .skip))) (rF [m1 99 12, o1 100 (aK .add 99 1), m1 12 100])))
def b_t_TopFrameClockSent_r5 : ACode := (sq (rF [lT 80 2 3, o1 81 (.build [.v (.int .i64 0), .v (.int .i64 0)] []), m1 82 7, o1 83 (cF 7 [t1 80, t1 81, t1 82]), m1 79 83, o1 84 (eX 0 79), o1 85 (eX 1
  79), m1 9 84, m1 10 85]) (sq (sq (rF [m1 86 10, o1 87 (aK .neq 86 0), m1 88 87, gF 89 88 (mX 9), gF 90 88 (nX 89), gF 91 88 (aK .gtr 90 16), o1 92 (pB 88 91)]) (cn 92 (sq (rF [m1 93 10, o1 94 (aK
  .eql 93 0), m1 6 94]) .ret) .skip)) (sq (rF [o1 11 (.move (.const (.slice .nilS 0 [])))]) (sq (sq (rF [o1 12 (mI 0)]) (.block 2 (.loop b_t_TopFrameClockSent_l3))) b_t_TopFrameClockSent_r4))))
def b_t_TopFrameClockSent_l4 : ACode := (sq (sq (rF [m1 55 8, m1 56 1, o1 57 (nX 56), o1 58 (aX .lss 55 57)]) (cn 58 .skip (.exit 0))) (sq (.block 1 (rT [m1 61 7, m1 62 8, m1 63 1, m1 64 8, o1 65 (iX
  3 63 64), fA 66 0 65, lF 67 1 66, o1 68 (aK .quo 67 256), m1 69 1, m1 70 8, o1 71 (iX 3 69 70), fA 72 0 71, lF 73 1 72, o1 74 (aK .rem 73 256), o1 75 (.buildSlice 1 [[.v (.int .i64 0)], [.v (.int
  .i64 0)]] [(0, (t1 68)), (1, (t1 74))]), o1 76 (.build [.v (.int .i64 0), .v (.int .i64 0), .slice .nilS 0 []] [(0, (1, (i1 1))), (1, (1, (t1 62))), (2, (1, (t1 75)))]), o1 77 (.buildSlice 3 [[.v
  (.int .i64 0), .v (.int .i64 0), .slice .nilS 0 []]] [(0, (t1 76))]), o1 78 (.append 3 (t1 61) (t1 77)), m1 7 78])) (rF [m1 59 8, o1 60 (aK .add 59 1), m1 8 60])))
def b_t_TopFrameClockSent : ACode := (sq (rF [o1 3 (.box 2 (t1 0)), o1 6 (mB false)]) (sq (sq (rF [o1 30 (cF 4 []), o1 31 (uX 30)]) (cn 31 (sq (rF [o1 6 (mB false)]) .ret) .skip)) (sq (sq (rF [lT 32 2
  3, o1 33 (cF 5 [t1 32]), o1 34 (aK .neq 33 0), m1 35 34, gF 36 35 (mX 1), gF 37 35 (nX 36), gF 38 35 (aK .gtr 37 12), o1 39 (pB 35 38), m1 40 39, gF 41 40 (mX 1), gF 42 40 (cF 6 [t1 41]), gF 43 40
  (aK .neq 42 0), o1 44 (pB 40 43), m1 45 44, gF 46 45 (mX 1), gF 47 45 (mX 1), gF 48 45 (nX 47), gF 49 45 (aK .sub 48 1), gF 50 45 (iX 3 46 49), gF 51 45 (fX 0 50), gF 52 45 (lX 1 51), gF 53 45 (aK
  .gtr 52 65535), o1 54 (pB 45 53)]) (cn 54 (sq (rF [o1 6 (mB true)]) .ret) .skip)) (sq (rF [o1 7 (.move (.const (.slice .nilS 0 [])))]) (sq (sq (rF [o1 8 (mI 0)]) (.block 0 (.loop
  b_t_TopFrameClockSent_l4))) b_t_TopFrameClockSent_r5)))))
abbrev k_t_TopFrameClockSent_1 : List K := [.blk 8, .c b_t_TopFrameClockSent_r2, .blk 7, .c b_t_TopFrameClockSent_r1, .lp b_t_TopFrameClockSent_l0, .blk 6, .c b_t_TopFrameClockSent_r0]
abbrev k_t_TopFrameClockSent_0 : List K := [.blk 6, .c b_t_TopFrameClockSent_r0]
abbrev k_t_TopFrameClockSent_2 : List K := [.blk 4, .c b_t_TopFrameClockSent_r3]
abbrev k_t_TopFrameClockSent_3 : List K := [.blk 2, .c b_t_TopFrameClockSent_r4]
abbrev k_t_TopFrameClockSent_4 : List K := [.blk 0, .c b_t_TopFrameClockSent_r5]
abbrev f_t_TopFrameClockSent := finF [(.tmp 6)] false
def c_t_TopFrameClockSent : AFn := .code 3 329 b_t_TopFrameClockSent [(.tmp 6)] false
-- 4
def b_t_frameShown : ACode := (sq (rF [o1 0 (mB false)]) (sq (rF [o1 6 (cF 15 []), o1 7 (.build [.v (.int .i64 0), .v (.int .i64 0)] []), o1 8 (cF 16 []), o1 9 (cF 7 [t1 6, t1 7, t1 8]), m1 5 9, o1 10
  (eX 0 5), o1 11 (eX 1 5), m1 1 10, m1 2 11]) (sq (rF [o1 13 (cF 17 []), o1 14 (cF 12 [t1 13]), m1 12 14, o1 15 (eX 0 12), o1 16 (eX 1 12), m1 3 15, m1 4 16]) (sq (rF [m1 17 2, o1 18 (aK .eql 17 0),
  m1 19 18, gT 20 19 (mX 1), gT 21 19 (nX 20), gT 22 19 (aK .eql 21 3), o1 23 (pA 19 22), m1 24 23, gT 25 24 (mX 1), gT 26 24 (.indexAddr none 4 (t1 25) (i1 1)), gT 27 24 (fX 2 26), gT 28 24 (lX 1
  27), gT 29 24 (aK .eql 28 1), o1 30 (pA 24 29), m1 31 30, gT 32 31 (mX 4), gT 33 31 (aK .eql 32 0), o1 34 (pA 31 33), m1 35 34, gT 36 35 (mX 3), gT 37 35 (.build [.v (.int .i64 0), .v (.int .i64 0)]
  [(1, (1, (i1 2)))]), gT 38 35 (.buildSlice 2 [[.v (.int .i64 0), .v (.int .i64 0)]] [(0, (t1 37))]), gT 39 35 (cF 18 [t1 36, t1 38]), o1 40 (pA 35 39), m1 0 40]) .ret))))
abbrev f_t_frameShown := finF [(.tmp 0)] false
def c_t_frameShown : AFn := .code 0 41 b_t_frameShown [(.tmp 0)] false
-- 5
def b_r_RulesErr : ACode := (sq (rF [o1 1 (.box 2 (t1 0)), o1 2 (mI 0)]) (sq (sq (rF [fA 3 0 1, lF 4 1 3, o1 5 (cF 11 [t1 4, i1 4, i1 24]), o1 6 (uX 5), m1 7 6, gF 8 7 (fX 1 1), gF 9 7 (lX 1 8), gF 10
  7 (cF 11 [t1 9, i1 1, i1 4]), gF 11 7 (uX 10), o1 12 (pB 7 11)]) (cn 12 (sq (rF [o1 2 (mI 2)]) .ret) .skip)) (sq (rF [o1 2 (mI 0)]) .ret)))
abbrev f_r_RulesErr := finF [(.tmp 2)] false
def c_r_RulesErr : AFn := .code 1 13 b_r_RulesErr [(.tmp 2)] false
-- 6
def b_r_PairsErr : ACode := (sq (rF [o1 2 (mI 0)]) (sq (rF [m1 6 0, o1 7 (cF 19 [t1 6]), m1 5 7, o1 8 (eX 0 5), o1 9 (eX 1 5), m1 3 8, m1 4 9]) (sq (rF [m1 10 4, m1 2 10]) .ret)))
abbrev f_r_PairsErr := finF [(.tmp 2)] false
def c_r_PairsErr : AFn := .code 1 11 b_r_PairsErr [(.tmp 2)] false
-- 7
def b_frame_Packed_r0 : ACode := (sq (rF [lF 107 1 12, m1 6 107, o1 7 (mI 0)]) .ret)
def b_frame_Packed_y0 : ACode := (.block 1 (sq (rF [lF 57 1 12, o1 58 (nX 57), fA 59 0 8, fA 60 0 59, lF 61 1 60, o1 62 (aX .mul 58 61), m1 14 62]) (sq (sq (rF [⟨none, none, (.reserve 1)⟩]) (rT [fA 63
  0 4, o1 64 (.loadr 1 false 1 (t1 63)), fA 65 1 4, o1 66 (.loadr 1 false 1 (t1 65)), o1 67 (.loadr 1 false 1 (t1 12)), o1 68 (nX 67), o1 69 (aX .add 66 68), o1 70 (aK .rem 69 64), m1 71 13, o1 72
  (.fcall true [[.v (.int .i64 0), .v (.int .i64 0), .v (.int .i64 0), .slice .nilS 0 []]] 28 [t1 71]), o1 73 (.build [.v (.int .i64 0), .v (.int .i64 0), .v (.int .i64 0), .slice .nilS 0 []] [(0, (1,
  (t1 64))), (1, (1, (t1 70))), (2, (1, (i1 255))), (3, (1, (t1 72)))]), o1 15 (.slot 1 [.v (.int .i64 0), .v (.int .i64 0), .v (.int .i64 0), .slice .nilS 0 []]), ⟨none, none, (.fill 1 4 (t1 15) (t1
  73))⟩])) (sq (sq (rF [lF 75 1 11, m1 76 14, o1 77 (cF 29 [t1 75, t1 76]), m1 74 77, o1 78 (eX 0 74), o1 79 (eX 1 74), m1 16 78, m1 17 79]) (sq (rT [m1 80 16, lF 81 1 11, o1 82 (nX 81), o1 83 (aX
  .lss 80 82), m1 84 83, gT 85 84 (lX 1 11), gT 86 84 (mX 16), gT 87 84 (iX 1 85 86), gT 88 84 (lX 1 87), gT 89 84 (mX 14), gT 90 84 (fX 0 8), gT 91 84 (fX 0 90), gT 92 84 (lX 1 91), gT 93 84 (aX .add
  89 92), gT 94 84 (aX .lss 88 93), o1 95 (pA 84 94)]) (cn 95 (rF [lF 96 1 11, m1 97 16, o1 98 (iX 1 96 97), lF 99 1 98, m1 100 14, o1 101 (aX .sub 99 100), fA 102 2 15, sT 1 102 101]) .skip))) (rF
  [lF 103 1 12, lT 104 4 15, o1 105 (.buildSlice 4 [[.v (.int .i64 0), .v (.int .i64 0), .v (.int .i64 0), .slice .nilS 0 []]] [(0, (t1 104))]), o1 106 (.append 4 (t1 103) (t1 105)), sT 1 12 106])))))
def b_frame_Packed_a0 : ACode := (rF [m1 13 56])
def b_frame_Packed : ACode := (sq (rF [o1 3 (.box 2 (t1 0)), o1 4 (.box 2 (t1 1)), o1 6 (.move (.const (.slice .nilS 0 []))), o1 7 (mI 0)]) (sq (rF [lT 19 2 3, fA 20 0 4, lF 21 1 20, o1 22 (cF 20 [t1
  19, t1 21]), m1 18 22, o1 23 (eX 0 18), o1 24 (eX 1 18), o1 8 (.alloc [.v (.int .i64 0), .v (.int .i64 0)]), sT 2 8 23, m1 9 24]) (sq (sq (rF [m1 25 9, fA 26 1 4, lF 27 1 26, o1 28 (cF 23 [t1 27]),
  o1 29 (cF 22 [t1 28, i1 2]), m1 30 2, o1 31 (cF 24 [t1 30]), o1 32 (.buildSlice 1 [[.v (.int .i64 0)], [.v (.int .i64 0)], [.v (.int .i64 0)]] [(0, (t1 25)), (1, (t1 29)), (2, (t1 31))]), o1 33 (cF
  21 [t1 32]), m1 9 33]) (sq (rF [m1 34 9, o1 35 (aK .neq 34 0)]) (cn 35 (sq (rF [m1 36 9, o1 6 (.move (.const (.slice .nilS 0 []))), m1 7 36]) .ret) .skip))) (sq (rF [lT 38 2 8, m1 39 2, o1 40 (cF 26
  [t1 38, t1 39]), o1 41 (cF 25 [t1 40]), m1 37 41, o1 42 (eX 0 37), o1 43 (eX 1 37), o1 11 (.alloc [.slice .nilS 0 []]), m1 10 42, sT 1 11 43]) (sq (sq (rF [m1 44 10, o1 45 (nX 44), fA 46 0 8, fA 47
  0 46, lF 48 1 47, o1 49 (aX .quo 45 48), o1 50 (aK .gtr 49 40)]) (cn 50 (sq (rF [o1 6 (.move (.const (.slice .nilS 0 []))), o1 7 (mI 8)]) .ret) .skip)) (sq (rF [o1 12 (.alloc [.slice .nilS 0 []])])
  (sq (sq (rF [m1 51 10, fA 52 0 8, fA 53 0 52, lF 54 1 53, o1 55 (cF 27 [t1 51, t1 54])]) (.block 0 (.rangeFunc (t1 55) [56] b_frame_Packed_a0 b_frame_Packed_y0))) b_frame_Packed_r0)))))))
abbrev k_frame_Packed_0 : List K := [.blk 0, .c b_frame_Packed_r0]
abbrev f_frame_Packed := finF [(.tmp 6), (.tmp 7)] false
def c_frame_Packed : AFn := .code 3 108 b_frame_Packed [(.tmp 6), (.tmp 7)] false
-- 8
def b_r_CopyFrame : ACode := (sq (rF [o1 1 (.box 4 (t1 0)), o1 2 (.alloc [.v (.int .i64 0), .v (.int .i64 0), .v (.int .i64 0), .slice .nilS 0 []])]) (sq (rF [fA 3 3 1, lF 4 1 3, o1 5 (cF 30 [t1 4]),
  fA 6 3 1, sT 1 6 5]) (sq (rF [lT 7 4 1, sT 4 2 7]) .ret)))
abbrev f_r_CopyFrame := finF [(.cell true 4 2)] false
def c_r_CopyFrame : AFn := .code 1 8 b_r_CopyFrame [(.cell true 4 2)] false
-- 9
def b_r_FramesErr_r0 : ACode := (sq (rF [o1 4 (mI 0)]) .ret)
def b_r_FramesErr_l0 : ACode := (sq (sq (rF [m1 10 5, m1 11 1, o1 12 (nX 11), o1 13 (aX .lss 10 12)]) (cn 13 .skip (.exit 0))) (sq (.block 1 (sq (rT [lT 16 2 2, m1 17 1, m1 18 5, o1 19 (iX 4 17 18),
  lT 20 4 19, o1 21 (cF 31 [t1 16, t1 20]), m1 6 21]) (sq (rF [m1 22 6, o1 23 (aK .neq 22 0)]) (cn 23 (sq (rF [m1 24 6, m1 4 24]) .ret) .skip)))) (rF [m1 14 5, o1 15 (aK .add 14 1), m1 5 15])))
def b_r_FramesErr : ACode := (sq (rF [o1 2 (.box 2 (t1 0)), o1 4 (mI 0)]) (sq (sq (rF [m1 7 1, o1 8 (nX 7), o1 9 (aK .gtr 8 40)]) (cn 9 (sq (rF [o1 4 (mI 8)]) .ret) .skip)) (sq (sq (rF [o1 5 (mI 0)])
  (.block 0 (.loop b_r_FramesErr_l0))) b_r_FramesErr_r0)))
abbrev k_r_FramesErr_0 : List K := [.blk 0, .c b_r_FramesErr_r0]
abbrev f_r_FramesErr := finF [(.tmp 4)] false
def c_r_FramesErr : AFn := .code 2 25 b_r_FramesErr [(.tmp 4)] false
-- 10
def b_frame_Extracted_r0 : ACode := (sq (rF [fA 43 2 10, lF 44 1 43, m1 6 44, o1 7 (mI 0)]) .ret)
def b_frame_Extracted_l0 : ACode := (sq (rF [o1 29 (aX .lss 28 27)]) (sq (cn 29 .skip (.exit 0)) (sq (.block 1 (sq (rF [o1 30 (iX 5 26 28), lT 31 5 30, o1 13 (.alloc [.v (.int .i64 0), .v (.int .i64
  0), .v (.int .i64 0), .slice .nilS 0 [], .v (.int .i64 0)]), sT 5 13 31]) (sq (rF [fA 32 0 13, lT 33 4 32, fA 34 4 13, lF 35 1 34, m1 36 11, o1 37 (aK .add 36 1), o1 38 (aX .eql 35 37), o1 39 (cF 34
  [t1 10, t1 33, t1 38])]) (rF [fA 40 4 13, lF 41 1 40, m1 11 41])))) (rF [o1 42 (aK .add 28 1), m1 28 42]))))
def b_frame_Extracted : ACode := (sq (rF [o1 3 (.box 2 (t1 0)), o1 6 (.move (.const (.slice .nilS 0 []))), o1 7 (mI 0)]) (sq (sq (rF [lT 15 2 3, m1 16 1, m1 17 2, o1 18 (cF 32 [t1 15, t1 16, t1 17]),
  m1 14 18, o1 19 (eX 0 14), o1 20 (eX 1 14), o1 8 (.alloc [.v (.int .i64 0), .v (.int .i64 0)]), sT 2 8 19, m1 9 20]) (sq (rF [m1 21 9, o1 22 (aK .neq 21 0)]) (cn 22 (sq (rF [m1 23 9, o1 6 (.move
  (.const (.slice .nilS 0 []))), m1 7 23]) .ret) .skip))) (sq (rF [o1 10 (.alloc [.v (.bool false), .slice .nilS 0 [], .slice .nilS 0 []])]) (sq (rF [o1 11 (mI 0)]) (sq (sq (rF [m1 24 1, m1 25 2, o1
  26 (cF 33 [t1 24, t1 25]), o1 27 (nX 26), o1 28 (mI 0)]) (.block 0 (.loop b_frame_Extracted_l0))) b_frame_Extracted_r0)))))
abbrev k_frame_Extracted_0 : List K := [.blk 0, .c b_frame_Extracted_r0]
abbrev f_frame_Extracted := finF [(.tmp 6), (.tmp 7)] false
def c_frame_Extracted : AFn := .code 3 45 b_frame_Extracted [(.tmp 6), (.tmp 7)] false
-- 11
def b_b_Within : ACode := (sq (rF [o1 6 (mB false)]) (sq (rF [m1 7 1, m1 8 0, o1 9 (aX .leq 7 8), m1 10 9, gT 11 10 (mX 0), gT 12 10 (mX 2), gT 13 10 (aX .leq 11 12), o1 14 (pA 10 13), m1 6 14])
  .ret))
abbrev f_b_Within := finF [(.tmp 6)] false
def c_b_Within : AFn := .code 3 15 b_b_Within [(.tmp 6)] false
-- 12
def b_frame_PiecesOf_r0 : ACode := (sq (rF [m1 51 6, m1 2 51, o1 3 (mI 0)]) .ret)
def b_frame_PiecesOf_l0 : ACode := (sq (rF [o1 20 (aX .lss 19 18)]) (sq (cn 20 .skip (.exit 0)) (sq (.block 1 (sq (rF [m1 21 19, m1 7 21]) (sq (sq (rF [m1 22 6, o1 23 (nX 22), o1 24 (aK .sub 23 1), m1
  8 24]) (sq (rF [m1 25 8, o1 26 (aK .geq 25 0), m1 27 26, gT 28 27 (mX 0), gT 29 27 (mX 6), gT 30 27 (mX 8), gT 31 27 (iX 2 29 30), gT 32 27 (fX 0 31), gT 33 27 (lX 1 32), gT 34 27 (mX 7), gT 35 27
  (aK .add 34 1), gT 36 27 (.slice (.sl 3) (t1 28) (some (t1 33)) (some (t1 35)) none), gT 37 27 (cF 36 [t1 36]), o1 38 (pA 27 37)]) (cn 38 (sq (rF [m1 39 6, m1 40 8, m1 41 7, o1 42 (iX 2 39 40), fA
  43 1 42, sT 1 43 41]) (.exit 1)) .skip))) (rF [m1 44 6, m1 45 7, m1 46 7, o1 47 (.build [.v (.int .i64 0), .v (.int .i64 0)] [(0, (1, (t1 45))), (1, (1, (t1 46)))]), o1 48 (.buildSlice 2 [[.v (.int
  .i64 0), .v (.int .i64 0)]] [(0, (t1 47))]), o1 49 (.appendm 2 (t1 44) (t1 48)), m1 6 49])))) (rF [o1 50 (aK .add 19 1), m1 19 50]))))
def b_frame_PiecesOf : ACode := (sq (rF [o1 2 (.move (.const (.slice .nilS 0 []))), o1 3 (mI 0)]) (sq (sq (rF [m1 10 0, o1 11 (cF 35 [t1 10]), m1 9 11, o1 12 (eX 0 9), o1 13 (eX 1 9), m1 4 12, m1 5
  13]) (sq (rF [m1 14 5, o1 15 (aK .neq 14 0)]) (cn 15 (sq (rF [m1 16 5, o1 2 (.move (.const (.slice .nilS 0 []))), m1 3 16]) .ret) .skip))) (sq (rF [o1 6 (.move (.const (.slice .nilS 0 [])))]) (sq
  (sq (rF [m1 17 0, o1 18 (nX 17), o1 19 (mI 0)]) (.block 0 (.loop b_frame_PiecesOf_l0))) b_frame_PiecesOf_r0))))
abbrev k_frame_PiecesOf_0 : List K := [.blk 0, .c b_frame_PiecesOf_r0]
abbrev f_frame_PiecesOf := finF [(.tmp 2), (.tmp 3)] false
def c_frame_PiecesOf : AFn := .code 1 52 b_frame_PiecesOf [(.tmp 2), (.tmp 3)] false
-- 13
def b_r_CopyPairs : ACode := (sq (rF [o1 2 (.move (.const (.slice .nilS 0 [])))]) (sq (rF [o1 3 (.buildSlice 3 [] []), m1 4 0, o1 5 (.append 3 (t1 3) (t1 4)), m1 2 5]) .ret))
abbrev f_r_CopyPairs := finF [(.tmp 2)] false
def c_r_CopyPairs : AFn := .code 1 6 b_r_CopyPairs [(.tmp 2)] false
-- 14
def b_frame_TimeAt_r0 : ACode := (sq (rF [lT 54 2 7, sT 2 4 54, o1 5 (mI 0)]) .ret)
def b_frame_TimeAt_y0 : ACode := (.block 1 (sq (rF [lT 26 4 9, lF 27 1 3, o1 28 (cF 40 [t1 26, t1 27]), m1 10 28]) (sq (sq (rF [⟨none, none, (.reserve 1)⟩]) (rT [m1 29 10, o1 30 (.loadr 1 true 4 (t1
  9)), o1 31 (.fcall true [[.v (.int .i64 0), .v (.int .i64 0)]] 42 [t1 30]), o1 32 (.fcall true [[.v (.int .i64 0), .v (.int .i64 0)]] 41 [t1 29, t1 31]), m1 33 10, o1 34 (.un .neg (t1 33)), o1 35
  (.loadr 1 true 4 (t1 9)), o1 36 (.fcall false [[.v (.int .i64 0), .v (.int .i64 0)]] 42 [t1 35]), o1 37 (.fcall false [[.v (.int .i64 0), .v (.int .i64 0)]] 41 [t1 34, t1 36]), o1 38 (.un .neg (t1
  37)), o1 39 (.build [.v (.int .i64 0), .v (.int .i64 0)] [(0, (1, (t1 32))), (1, (1, (t1 38)))]), o1 11 (.slot 1 [.v (.int .i64 0), .v (.int .i64 0)]), ⟨none, none, (.fill 1 2 (t1 11) (t1 39))⟩]))
  (sq (sq (rF [lF 40 1 8, o1 41 (uX 40)]) (cn 41 (rF [lT 42 2 11, sT 2 7 42, ⟨none, none, (.store 1 (t1 8) bT)⟩]) .skip)) (rF [fA 43 0 7, lF 44 1 43, fA 45 0 11, lF 46 1 45, o1 47 (.minmax false [t1
  44, t1 46]), fA 48 1 7, lF 49 1 48, fA 50 1 11, lF 51 1 50, o1 52 (.minmax true [t1 49, t1 51]), o1 53 (.build [.v (.int .i64 0), .v (.int .i64 0)] [(0, (1, (t1 47))), (1, (1, (t1 52)))]), sT 2 7
  53])))))
def b_frame_TimeAt_a0 : ACode := (rF [o1 9 (.alloc [.v (.int .i64 0), .v (.int .i64 0), .v (.int .i64 0), .v (.int .i64 0)]), sT 4 9 25])
def b_frame_TimeAt : ACode := (sq (rF [o1 3 (.box 1 (t1 1)), o1 4 (.alloc [.v (.int .i64 0), .v (.int .i64 0)]), o1 5 (mI 0)]) (sq (sq (rT [m1 12 0, o1 13 (.call true 37 [t1 12]), lF 14 1 3, o1 15 (cF
  38 [t1 14, i1 0, i1 1000000]), o1 16 (cF 22 [t1 15, i1 2]), o1 17 (.buildSlice 1 [[.v (.int .i64 0)], [.v (.int .i64 0)]] [(0, (t1 13)), (1, (t1 16))]), o1 18 (cF 21 [t1 17]), m1 6 18]) (sq (rF [m1
  19 6, o1 20 (aK .neq 19 0)]) (cn 20 (sq (rF [o1 21 (.build [.v (.int .i64 0), .v (.int .i64 0)] []), m1 22 6, sT 2 4 21, m1 5 22]) .ret) .skip))) (sq (rF [o1 7 (.alloc [.v (.int .i64 0), .v (.int
  .i64 0)])]) (sq (rF [o1 8 (.alloc [.v (.bool false)]), ⟨none, none, (.store 1 (t1 8) bF)⟩]) (sq (sq (rF [m1 23 0, o1 24 (cF 39 [t1 23])]) (.block 0 (.rangeFunc (t1 24) [25] b_frame_TimeAt_a0
  b_frame_TimeAt_y0))) b_frame_TimeAt_r0)))))
abbrev k_frame_TimeAt_0 : List K := [.blk 0, .c b_frame_TimeAt_r0]
abbrev f_frame_TimeAt := finF [(.cell true 2 4), (.tmp 5)] false
def c_frame_TimeAt : AFn := .code 2 55 b_frame_TimeAt [(.cell true 2 4), (.tmp 5)] false
-- 15
def b_l_Rules : ACode := (sq (rF [o1 0 (.alloc [.v (.int .i64 0), .v (.int .i64 0)])]) (sq (rF [o1 1 (.build [.v (.int .i64 0), .v (.int .i64 0)] [(0, (1, (i1 4))), (1, (1, (i1 2)))]), sT 2 0 1])
  .ret))
abbrev f_l_Rules := finF [(.cell true 2 0)] false
def c_l_Rules : AFn := .code 0 2 b_l_Rules [(.cell true 2 0)] false
-- 16
def b_l_Packets : ACode := (sq (rF [o1 0 (.move (.const (.slice .nilS 0 [])))]) (sq (rF [o1 1 (.buildSlice 1 [[.v (.int .i64 0)], [.v (.int .i64 0)]] [(0, (i1 1)), (1, (i1 2))]), o1 2 (.build [.v
  (.int .i64 0), .v (.int .i64 0), .slice .nilS 0 []] [(0, (1, (i1 9))), (2, (1, (t1 1)))]), o1 3 (.buildSlice 1 [[.v (.int .i64 0)]] [(0, (i1 3))]), o1 4 (.build [.v (.int .i64 0), .v (.int .i64 0),
  .slice .nilS 0 []] [(0, (1, (i1 9))), (1, (1, (i1 1))), (2, (1, (t1 3)))]), o1 5 (.buildSlice 3 [[.v (.int .i64 0), .v (.int .i64 0), .slice .nilS 0 []], [.v (.int .i64 0), .v (.int .i64 0), .slice
  .nilS 0 []]] [(0, (t1 2)), (1, (t1 4))]), m1 0 5]) .ret))
abbrev f_l_Packets := finF [(.tmp 0)] false
def c_l_Packets : AFn := .code 0 6 b_l_Packets [(.tmp 0)] false
-- 17
def b_l_Pairs : ACode := (sq (rF [o1 0 (.move (.const (.slice .nilS 0 [])))]) (sq (rF [o1 1 (.build [.v (.int .i64 0), .v (.int .i64 0)] [(0, (1, (i1 10))), (1, (1, (i1 12)))]), o1 2 (.build [.v (.int
  .i64 0), .v (.int .i64 0), .v (.int .i64 0)] [(0, (1, (i1 0))), (1, (2, (t1 1)))]), o1 3 (.build [.v (.int .i64 0), .v (.int .i64 0)] [(0, (1, (i1 30))), (1, (1, (i1 32)))]), o1 4 (.build [.v (.int
  .i64 0), .v (.int .i64 0), .v (.int .i64 0)] [(0, (1, (i1 10))), (1, (2, (t1 3)))]), o1 5 (.build [.v (.int .i64 0), .v (.int .i64 0)] [(0, (1, (i1 50))), (1, (1, (i1 51)))]), o1 6 (.build [.v (.int
  .i64 0), .v (.int .i64 0), .v (.int .i64 0)] [(0, (1, (i1 20))), (1, (2, (t1 5)))]), o1 7 (.buildSlice 3 [[.v (.int .i64 0), .v (.int .i64 0), .v (.int .i64 0)], [.v (.int .i64 0), .v (.int .i64 0),
  .v (.int .i64 0)], [.v (.int .i64 0), .v (.int .i64 0), .v (.int .i64 0)]] [(0, (t1 2)), (1, (t1 4)), (2, (t1 6))]), m1 0 7]) .ret))
abbrev f_l_Pairs := finF [(.tmp 0)] false
def c_l_Pairs : AFn := .code 0 8 b_l_Pairs [(.tmp 0)] false
-- 18
def b_b_Ranges_r0 : ACode := (sq (rF [o1 4 (mB true)]) .ret)
def b_b_Ranges_l0 : ACode := (sq (sq (rF [m1 11 5, m1 12 0, o1 13 (nX 12), o1 14 (aX .lss 11 13)]) (cn 14 .skip (.exit 0))) (sq (.block 1 (sq (rT [m1 17 0, m1 18 5, o1 19 (iX 2 17 18), lT 20 2 19, m1
  21 1, m1 22 5, o1 23 (iX 2 21 22), lT 24 2 23, o1 25 (.eqv true (.agg [.int, .int]) (t1 20) (t1 24))]) (cn 25 (sq (rF [o1 4 (mB false)]) .ret) .skip))) (rF [m1 15 5, o1 16 (aK .add 15 1), m1 5
  16])))
def b_b_Ranges : ACode := (sq (rF [o1 4 (mB false)]) (sq (sq (rF [m1 6 0, o1 7 (nX 6), m1 8 1, o1 9 (nX 8), o1 10 (aX .neq 7 9)]) (cn 10 (sq (rF [o1 4 (mB false)]) .ret) .skip)) (sq (sq (rF [o1 5 (mI
  0)]) (.block 0 (.loop b_b_Ranges_l0))) b_b_Ranges_r0)))
abbrev k_b_Ranges_0 : List K := [.blk 0, .c b_b_Ranges_r0]
abbrev f_b_Ranges := finF [(.tmp 4)] false
def c_b_Ranges : AFn := .code 2 26 b_b_Ranges [(.tmp 4)] false
-- 19
def b_r_CheckPairs_r0 : ACode := (sq (rF [o1 2 (mI 0), o1 3 (mI 0)]) .ret)
def b_r_CheckPairs_l0 : ACode := (sq (sq (rF [m1 11 4, m1 12 0, o1 13 (nX 12), o1 14 (aX .lss 11 13)]) (cn 14 .skip (.exit 0))) (sq (.block 1 (sq (sq (rF [m1 17 0, m1 18 4, o1 19 (iX 3 17 18), fA 20 0
  19, lF 21 1 20, o1 22 (cF 11 [t1 21, i1 0, i1 1000000]), o1 23 (uX 22), m1 24 23, gF 25 24 (mX 0), gF 26 24 (mX 4), gF 27 24 (iX 3 25 26), gF 28 24 (fX 1 27), gF 29 24 (fX 0 28), gF 30 24 (lX 1 29),
  gF 31 24 (cF 11 [t1 30, i1 0, i1 1000000000000]), gF 32 24 (uX 31), o1 33 (pB 24 32), m1 34 33, gF 35 34 (mX 0), gF 36 34 (mX 4), gF 37 34 (iX 3 35 36), gF 38 34 (fX 1 37), gF 39 34 (fX 1 38), gF 40
  34 (lX 1 39), gF 41 34 (cF 11 [t1 40, i1 0, i1 1000000000000]), gF 42 34 (uX 41), o1 43 (pB 34 42)]) (cn 43 (sq (rF [m1 44 4, m1 2 44, o1 3 (mI 2)]) .ret) .skip)) (sq (rT [m1 45 0, m1 46 4, o1 47
  (iX 3 45 46), fA 48 1 47, fA 49 0 48, lF 50 1 49, m1 51 0, m1 52 4, o1 53 (iX 3 51 52), fA 54 1 53, fA 55 1 54, lF 56 1 55, o1 57 (aX .gtr 50 56), m1 58 57, gF 59 58 (mX 4), gF 60 58 (aK .gtr 59 0),
  gF 61 58 (mX 60), gT 62 61 (mX 0), gT 63 61 (mX 4), gT 64 61 (iX 3 62 63), gT 65 61 (fX 0 64), gT 66 61 (lX 1 65), gT 67 61 (mX 0), gT 68 61 (mX 4), gT 69 61 (aK .sub 68 1), gT 70 61 (iX 3 67 69),
  gT 71 61 (fX 0 70), gT 72 61 (lX 1 71), gT 73 61 (aX .leq 66 72), gF 74 58 (pA 61 73), o1 75 (pB 58 74)]) (cn 75 (sq (rF [m1 76 4, m1 2 76, o1 3 (mI 9)]) .ret) .skip)))) (rF [m1 15 4, o1 16 (aK .add
  15 1), m1 4 16])))
def b_r_CheckPairs : ACode := (sq (rF [o1 2 (mI 0), o1 3 (mI 0)]) (sq (sq (rF [m1 5 0, o1 6 (nX 5), o1 7 (aK .eql 6 0)]) (cn 7 (sq (rF [o1 2 (mI 0), o1 3 (mI 10)]) .ret) .skip)) (sq (sq (rF [m1 8 0,
  o1 9 (nX 8), o1 10 (aK .gtr 9 20)]) (cn 10 (sq (rF [o1 2 (mI 0), o1 3 (mI 8)]) .ret) .skip)) (sq (sq (rF [o1 4 (mI 0)]) (.block 0 (.loop b_r_CheckPairs_l0))) b_r_CheckPairs_r0))))
abbrev k_r_CheckPairs_0 : List K := [.blk 0, .c b_r_CheckPairs_r0]
abbrev f_r_CheckPairs := finF [(.tmp 2), (.tmp 3)] false
def c_r_CheckPairs : AFn := .code 1 77 b_r_CheckPairs [(.tmp 2), (.tmp 3)] false
-- 20
def b_frame_openChannel : ACode := (sq (rF [o1 2 (.box 2 (t1 0)), o1 4 (.alloc [.v (.int .i64 0), .v (.int .i64 0)]), o1 5 (mI 0)]) (sq (rF [lT 9 2 2, o1 10 (cF 43 [t1 9]), m1 8 10, o1 11 (eX 0 8), o1
  12 (eX 1 8), o1 6 (.alloc [.v (.int .i64 0), .v (.int .i64 0)]), sT 2 6 11, m1 7 12]) (sq (rT [lT 13 2 6, m1 14 7, lT 15 2 6, m1 16 1, o1 17 (.call true 44 [t1 15, t1 16]), o1 18 (.buildSlice 1 [[.v
  (.int .i64 0)], [.v (.int .i64 0)]] [(0, (t1 14)), (1, (t1 17))]), o1 19 (.call true 21 [t1 18]), sT 2 4 13, m1 5 19]) .ret)))
abbrev f_frame_openChannel := finF [(.cell true 2 4), (.tmp 5)] false
def c_frame_openChannel : AFn := .code 2 20 b_frame_openChannel [(.cell true 2 4), (.tmp 5)] false
-- 21
def b_frame_first_r0 : ACode := (sq (rF [o1 2 (mI 0)]) .ret)
def b_frame_first_l0 : ACode := (sq (rF [o1 8 (aX .lss 7 6)]) (sq (cn 8 .skip (.exit 0)) (sq (.block 1 (sq (rF [o1 9 (iX 1 5 7), lF 10 1 9, m1 4 10]) (sq (rF [m1 11 4, o1 12 (aK .neq 11 0)]) (cn 12
  (sq (rF [m1 13 4, m1 2 13]) .ret) .skip)))) (rF [o1 14 (aK .add 7 1), m1 7 14]))))
def b_frame_first : ACode := (sq (rF [o1 2 (mI 0)]) (sq (sq (rF [m1 5 0, o1 6 (nX 5), o1 7 (mI 0)]) (.block 0 (.loop b_frame_first_l0))) b_frame_first_r0))
abbrev k_frame_first_0 : List K := [.blk 0, .c b_frame_first_r0]
abbrev f_frame_first := finF [(.tmp 2)] false
def c_frame_first : AFn := .code 1 15 b_frame_first [(.tmp 2)] false
-- 22
def b_frame_unless : ACode := (sq (rF [o1 4 (mI 0)]) (sq (sq (rF [m1 5 0]) (cn 5 (sq (rF [o1 4 (mI 0)]) .ret) .skip)) (sq (rF [m1 6 1, m1 4 6]) .ret)))
abbrev f_frame_unless := finF [(.tmp 4)] false
def c_frame_unless : AFn := .code 2 7 b_frame_unless [(.tmp 4)] false
-- 23
def b_frame_isCount : ACode := (sq (rF [o1 2 (mB false)]) (sq (rF [m1 3 0, o1 4 (cF 38 [t1 3, i1 0, i1 63]), m1 2 4]) .ret))
abbrev f_frame_isCount := finF [(.tmp 2)] false
def c_frame_isCount : AFn := .code 1 5 b_frame_isCount [(.tmp 2)] false
-- 24
def b_frame_packetsErr : ACode := (sq (rF [o1 2 (mI 0)]) (sq (rF [m1 3 0, o1 4 (nX 3), o1 5 (aK .leq 4 20), o1 6 (cF 22 [t1 5, i1 8]), m1 7 0, o1 8 (cF 45 [t1 7, .const (.fn 46 [] [])]), o1 9
  (.buildSlice 1 [[.v (.int .i64 0)], [.v (.int .i64 0)]] [(0, (t1 6)), (1, (t1 8))]), o1 10 (cF 21 [t1 9]), m1 2 10]) .ret))
abbrev f_frame_packetsErr := finF [(.tmp 2)] false
def c_frame_packetsErr : AFn := .code 1 11 b_frame_packetsErr [(.tmp 2)] false
-- 25
def b_frame_stream_r0 : ACode := (sq (rF [m1 32 2, m1 33 3, m1 2 32, m1 3 33]) .ret)
def b_frame_stream_l0 : ACode := (sq (rF [o1 9 (aX .lss 8 7)]) (sq (cn 9 .skip (.exit 0)) (sq (.block 1 (sq (rF [o1 10 (iX 3 6 8), lT 11 3 10, o1 5 (.alloc [.v (.int .i64 0), .v (.int .i64 0), .slice
  .nilS 0 []]), sT 3 5 11]) (sq (rF [m1 12 3, m1 13 2, o1 14 (nX 13), o1 15 (.buildSlice 1 [[.v (.int .i64 0)]] [(0, (t1 14))]), o1 16 (.append 1 (t1 12) (t1 15)), m1 3 16]) (sq (rF [m1 17 2, fA 18 0
  5, lF 19 1 18, fA 20 1 5, lF 21 1 20, fA 22 2 5, lF 23 1 22, o1 24 (nX 23), o1 25 (.buildSlice 1 [[.v (.int .i64 0)], [.v (.int .i64 0)], [.v (.int .i64 0)]] [(0, (t1 19)), (1, (t1 21)), (2, (t1
  24))]), o1 26 (.append 1 (t1 17) (t1 25)), m1 2 26]) (rF [m1 27 2, fA 28 2 5, lF 29 1 28, o1 30 (.append 1 (t1 27) (t1 29)), m1 2 30]))))) (rF [o1 31 (aK .add 8 1), m1 8 31]))))
def b_frame_stream : ACode := (sq (rF [o1 2 (.move (.const (.slice .nilS 0 []))), o1 3 (.move (.const (.slice .nilS 0 [])))]) (sq (sq (rF [m1 6 0, o1 7 (nX 6), o1 8 (mI 0)]) (.block 0 (.loop
  b_frame_stream_l0))) b_frame_stream_r0))
abbrev k_frame_stream_0 : List K := [.blk 0, .c b_frame_stream_r0]
abbrev f_frame_stream := finF [(.tmp 2), (.tmp 3)] false
def c_frame_stream : AFn := .code 1 34 b_frame_stream [(.tmp 2), (.tmp 3)] false
-- 26
def b_frame_link_filled_r0 : ACode := (sq (rF [m1 23 5, fA 24 0 2, fA 25 0 24, lF 26 1 25, o1 27 (aX .rem 23 26), m1 8 27]) (sq (sq (rF [m1 28 8, o1 29 (aK .eql 28 0)]) (cn 29 (sq (rF [m1 30 1, m1 4
  30]) .ret) .skip)) (sq (rF [fA 31 0 2, fA 32 0 31, lF 33 1 32, m1 34 8, o1 35 (aX .sub 33 34), m1 9 35]) (sq (sq (rF [m1 36 9, o1 37 (aK .lss 36 3)]) (cn 37 (rF [m1 38 9, fA 39 0 2, fA 40 0 39, lF
  41 1 40, o1 42 (aX .add 38 41), m1 9 42]) .skip)) (sq (rT [m1 43 1, o1 44 (cF 47 [t1 43]), m1 45 9, o1 46 (aK .sub 45 3), o1 47 (.mkVal 1 [.v (.int .i64 0)] (t1 46) (t1 46)), o1 48 (.build [.v (.int
  .i64 0), .v (.int .i64 0), .slice .nilS 0 []] [(0, (1, (i1 255))), (2, (1, (t1 47)))]), o1 49 (.buildSlice 3 [[.v (.int .i64 0), .v (.int .i64 0), .slice .nilS 0 []]] [(0, (t1 48))]), o1 50 (.append
  3 (t1 44) (t1 49)), m1 4 50]) .ret)))))
def b_frame_link_filled_l0 : ACode := (sq (rF [o1 13 (aX .lss 12 11)]) (sq (cn 13 .skip (.exit 0)) (sq (.block 1 (sq (rF [o1 14 (iX 3 10 12), lT 15 3 14, o1 7 (.alloc [.v (.int .i64 0), .v (.int .i64
  0), .slice .nilS 0 []]), sT 3 7 15]) (rF [m1 16 5, fA 17 2 7, lF 18 1 17, o1 19 (nX 18), o1 20 (.arith .add (i1 3) (t1 19)), o1 21 (aX .add 16 20), m1 5 21]))) (rF [o1 22 (aK .add 12 1), m1 12
  22]))))
def b_frame_link_filled : ACode := (sq (rF [o1 2 (.box 2 (t1 0)), o1 4 (.move (.const (.slice .nilS 0 [])))]) (sq (rF [o1 5 (mI 0)]) (sq (sq (rF [m1 10 1, o1 11 (nX 10), o1 12 (mI 0)]) (.block 0
  (.loop b_frame_link_filled_l0))) b_frame_link_filled_r0)))
abbrev k_frame_link_filled_0 : List K := [.blk 0, .c b_frame_link_filled_r0]
abbrev f_frame_link_filled := finF [(.tmp 4)] false
def c_frame_link_filled : AFn := .code 2 51 b_frame_link_filled [(.tmp 4)] false
-- 27
def b_z_Chunk_int : ACode := (sq (rF [o1 2 (.box 1 (t1 0)), o1 3 (.box 1 (t1 1)), o1 4 (.move (.const (.v .nilFunc)))]) (sq (sq (rF [lF 5 1 3, o1 6 (aK .lss 5 1)]) (cn 6 (rF [o1 7 (.mkIface 9 (.const
  (.v (.string ⟨#[99, 97, 110, 110, 111, 116, 32, 98, 101, 32, 108, 101, 115, 115, 32, 116, 104, 97, 110, 32, 49]⟩)))), ⟨none, none, (.nilCheck (.const (.v (.tuple (.mk [])))))⟩]) .skip)) (sq (rF [o1
  8 (.mkFn 48 [] [t1 2, t1 3]), m1 4 8]) .ret)))
abbrev f_z_Chunk_int := finF [(.tmp 4)] false
def c_z_Chunk_int : AFn := .code 2 9 b_z_Chunk_int [(.tmp 4)] false
-- 28
def b_z_Clone_int : ACode := (sq (rF [o1 2 (.move (.const (.slice .nilS 0 [])))]) (sq (sq (rF [m1 3 0, o1 4 (.eqv false .slice (t1 3) (.const (.slice .nilS 0 [])))]) (cn 4 (sq (rF [o1 2 (.move (.const
  (.slice .nilS 0 [])))]) .ret) .skip)) (sq (rF [o1 5 (.buildSlice 1 [] []), m1 6 0, o1 7 (.append 1 (t1 5) (t1 6)), m1 2 7]) .ret)))
abbrev f_z_Clone_int := finF [(.tmp 2)] false
def c_z_Clone_int : AFn := .code 1 8 b_z_Clone_int [(.tmp 2)] false
-- 29
def b_z_BinarySearch_int_r0 : ACode := (sq (rF [m1 31 7, m1 32 7, m1 33 6, o1 34 (aX .lss 32 33), m1 35 34, gT 36 35 (mX 0), gT 37 35 (mX 7), gT 38 35 (iX 1 36 37), gT 39 35 (lX 1 38), gT 40 35 (mX
  1), gT 41 35 (aX .eql 39 40), gT 42 35 (mX 41), gF 43 42 (mX 0), gF 44 42 (mX 7), gF 45 42 (iX 1 43 44), gF 46 42 (lX 1 45), gF 47 42 (cF 50 [t1 46]), gF 48 42 (mX 47), gT 49 48 (mX 1), gT 50 48 (cF
  50 [t1 49]), gF 51 42 (pA 48 50), gT 52 35 (pB 42 51), o1 53 (pA 35 52), m1 4 31, m1 5 53]) .ret)
def b_z_BinarySearch_int_l0 : ACode := (sq (sq (rF [m1 13 7, m1 14 8, o1 15 (aX .lss 13 14)]) (cn 15 .skip (.exit 0))) (.block 1 (sq (rF [m1 16 7, m1 17 8, o1 18 (aX .add 16 17), o1 19 (.conv (.int
  .u64) (t1 18)), o1 20 (.arith .shr (t1 19) (.const (.v (.int .u64 1)))), o1 21 (.conv (.int .i64) (t1 20)), m1 9 21]) (sq (rF [m1 22 0, m1 23 9, o1 24 (iX 1 22 23), lF 25 1 24, m1 26 1, o1 27 (cF 49
  [t1 25, t1 26])]) (cn 27 (rF [m1 28 9, o1 29 (aK .add 28 1), m1 7 29]) (rF [m1 30 9, m1 8 30]))))))
def b_z_BinarySearch_int : ACode := (sq (rF [o1 4 (mI 0), o1 5 (mB false)]) (sq (rF [m1 10 0, o1 11 (nX 10), m1 6 11]) (sq (rF [m1 12 6, o1 7 (mI 0), m1 8 12]) (sq (.block 0 (.loop
  b_z_BinarySearch_int_l0)) b_z_BinarySearch_int_r0))))
abbrev k_z_BinarySearch_int_0 : List K := [.blk 0, .c b_z_BinarySearch_int_r0]
abbrev f_z_BinarySearch_int := finF [(.tmp 4), (.tmp 5)] false
def c_z_BinarySearch_int : AFn := .code 2 54 b_z_BinarySearch_int [(.tmp 4), (.tmp 5)] false
-- 30
def b_b_CopyInts : ACode := (sq (rF [o1 2 (.move (.const (.slice .nilS 0 [])))]) (sq (rF [o1 3 (.buildSlice 1 [] []), m1 4 0, o1 5 (.append 1 (t1 3) (t1 4)), m1 2 5]) .ret))
abbrev f_b_CopyInts := finF [(.tmp 2)] false
def c_b_CopyInts : AFn := .code 1 6 b_b_CopyInts [(.tmp 2)] false
-- 31
def b_r_FrameErr : ACode := (sq (rF [o1 2 (.box 2 (t1 0)), o1 3 (.box 4 (t1 1)), o1 4 (mI 0)]) (sq (sq (rF [lT 6 2 2, fA 7 0 3, lF 8 1 7, o1 9 (cF 51 [t1 6, t1 8]), m1 5 9]) (sq (rF [m1 10 5, o1 11
  (aK .neq 10 0)]) (cn 11 (sq (rF [m1 12 5, m1 4 12]) .ret) .skip))) (sq (sq (rF [fA 13 1 3, lF 14 1 13, o1 15 (cF 11 [t1 14, i1 0, i1 63]), o1 16 (uX 15), m1 17 16, gF 18 17 (fX 2 3), gF 19 17 (lX 1
  18), gF 20 17 (fX 0 2), gF 21 17 (lX 1 20), gF 22 17 (aK .sub 21 1), gF 23 17 (cF 11 [t1 19, i1 0, t1 22]), gF 24 17 (uX 23), gF 25 17 (mX 24), gT 26 25 (fX 2 3), gT 27 25 (lX 1 26), gT 28 25 (aK
  .neq 27 255), gF 29 17 (pA 25 28), o1 30 (pB 17 29)]) (cn 30 (sq (rF [o1 4 (mI 2)]) .ret) .skip)) (sq (sq (rF [fA 31 3 3, lF 32 1 31, o1 33 (nX 32), fA 34 0 2, lF 35 1 34, o1 36 (aX .neq 33 35)])
  (cn 36 (sq (rF [o1 4 (mI 10)]) .ret) .skip)) (sq (rF [fA 37 3 3, lF 38 1 37, o1 39 (cF 52 [t1 38]), m1 4 39]) .ret)))))
abbrev f_r_FrameErr := finF [(.tmp 4)] false
def c_r_FrameErr : AFn := .code 2 40 b_r_FrameErr [(.tmp 4)] false
-- 32
def b_frame_openFrames : ACode := (sq (rF [o1 3 (.box 2 (t1 0)), o1 6 (.alloc [.v (.int .i64 0), .v (.int .i64 0)]), o1 7 (mI 0)]) (sq (rF [lT 11 2 3, m1 12 1, o1 13 (cF 20 [t1 11, t1 12]), m1 10 13,
  o1 14 (eX 0 10), o1 15 (eX 1 10), o1 8 (.alloc [.v (.int .i64 0), .v (.int .i64 0)]), sT 2 8 14, m1 9 15]) (sq (rT [lT 16 2 8, m1 17 9, m1 18 2, o1 19 (nX 18), o1 20 (aK .leq 19 40), o1 21 (.call
  true 22 [t1 20, i1 8]), m1 22 2, lT 23 2 8, o1 24 (.mkFn 54 [t1 23] []), o1 25 (.call true 53 [t1 22, t1 24]), o1 26 (.buildSlice 1 [[.v (.int .i64 0)], [.v (.int .i64 0)], [.v (.int .i64 0)]] [(0,
  (t1 17)), (1, (t1 21)), (2, (t1 25))]), o1 27 (.call true 21 [t1 26]), sT 2 6 16, m1 7 27]) .ret)))
abbrev f_frame_openFrames := finF [(.cell true 2 6), (.tmp 7)] false
def c_frame_openFrames : AFn := .code 3 28 b_frame_openFrames [(.cell true 2 6), (.tmp 7)] false
-- 33
def b_frame_ordered_r0 : ACode := (sq (rF [m1 56 5, o1 57 (cF 55 [t1 56, .const (.fn 56 [] [])])]) (sq (rF [m1 58 5, o1 59 (cF 58 [t1 58, .const (.fn 59 [] [])]), m1 4 59]) .ret))
def b_frame_ordered_l0 : ACode := (sq (rF [o1 14 (aX .lss 13 12)]) (sq (cn 14 .skip (.exit 0)) (sq (.block 1 (sq (rF [o1 15 (iX 4 11 13), lT 16 4 15, o1 7 (.alloc [.v (.int .i64 0), .v (.int .i64 0),
  .v (.int .i64 0), .slice .nilS 0 []]), sT 4 7 16]) (sq (sq (rF [fA 17 0 7, lF 18 1 17, m1 19 0, o1 20 (aX .neq 18 19)]) (cn 20 (.exit 1) .skip)) (sq (rF [lT 21 4 7, fA 22 1 7, lF 23 1 22, o1 24 (aK
  .add 23 64), o1 25 (.build [.v (.int .i64 0), .v (.int .i64 0), .v (.int .i64 0), .slice .nilS 0 [], .v (.int .i64 0)] [(0, (4, (t1 21))), (4, (1, (t1 24)))]), o1 8 (.alloc [.v (.int .i64 0), .v
  (.int .i64 0), .v (.int .i64 0), .slice .nilS 0 [], .v (.int .i64 0)]), sT 5 8 25]) (sq (sq (rF [m1 26 5, o1 27 (nX 26), o1 28 (aK .gtr 27 0)]) (cn 28 (sq (rF [m1 29 5, m1 30 5, o1 31 (nX 30), o1 32
  (aK .sub 31 1), o1 33 (iX 5 29 32), fA 34 4 33, lF 35 1 34, m1 9 35]) (sq (rF [fA 36 1 7, lF 37 1 36, m1 38 9, o1 39 (aX .sub 37 38), o1 40 (aK .rem 39 64), o1 41 (aK .add 40 64), o1 42 (aK .rem 41
  64), m1 10 42]) (sq (sq (rF [m1 43 10, o1 44 (aK .gtr 43 32)]) (cn 44 (rF [m1 45 10, o1 46 (aK .sub 45 64), m1 10 46]) .skip)) (rF [m1 47 9, m1 48 10, o1 49 (aX .add 47 48), fA 50 4 8, sT 1 50
  49])))) .skip)) (rF [m1 51 5, lT 52 5 8, o1 53 (.buildSlice 5 [[.v (.int .i64 0), .v (.int .i64 0), .v (.int .i64 0), .slice .nilS 0 [], .v (.int .i64 0)]] [(0, (t1 52))]), o1 54 (.append 5 (t1 51)
  (t1 53)), m1 5 54])))))) (rF [o1 55 (aK .add 13 1), m1 13 55]))))
def b_frame_ordered : ACode := (sq (rF [o1 4 (.move (.const (.slice .nilS 0 [])))]) (sq (rF [o1 5 (.move (.const (.slice .nilS 0 [])))]) (sq (sq (rF [m1 11 1, o1 12 (nX 11), o1 13 (mI 0)]) (.block 0
  (.loop b_frame_ordered_l0))) b_frame_ordered_r0)))
abbrev k_frame_ordered_0 : List K := [.blk 0, .c b_frame_ordered_r0]
abbrev f_frame_ordered := finF [(.tmp 4)] false
def c_frame_ordered : AFn := .code 2 60 b_frame_ordered [(.tmp 4)] false
-- 34
def b_frame_reader_read_l0 : ACode := (sq (sq (rF [m1 54 0, o1 55 (.nilCheck (t1 54)), fA 56 1 55, lF 57 1 56, o1 58 (nX 57), o1 59 (aK .geq 58 3)]) (cn 59 .skip (.exit 0))) (.block 1 (sq (rF [m1 60
  0, o1 61 (.nilCheck (t1 60)), fA 62 1 61, lF 63 1 62, o1 64 (.indexAddr none 1 (t1 63) (i1 2)), lF 65 1 64, o1 66 (.arith .add (i1 3) (t1 65)), m1 7 66]) (sq (sq (rF [m1 67 7, m1 68 0, o1 69
  (.nilCheck (t1 68)), fA 70 1 69, lF 71 1 70, o1 72 (nX 71), o1 73 (aX .gtr 67 72)]) (cn 73 .ret .skip)) (sq (sq (sq (rF [⟨none, none, (.reserve 1)⟩]) (rT [m1 74 0, o1 75 (.nilCheck (t1 74)), fA 76 1
  75, o1 77 (.loadr 1 false 1 (t1 76)), o1 78 (.indexAddr none 1 (t1 77) (i1 0)), o1 79 (.loadr 1 false 1 (t1 78)), m1 80 0, o1 81 (.nilCheck (t1 80)), fA 82 1 81, o1 83 (.loadr 1 false 1 (t1 82)), o1
  84 (.indexAddr none 1 (t1 83) (i1 1)), o1 85 (.loadr 1 false 1 (t1 84)), m1 86 0, o1 87 (.nilCheck (t1 86)), fA 88 1 87, o1 89 (.loadr 1 false 1 (t1 88)), m1 90 7, o1 91 (.slice (.sl 1) (t1 89)
  (some (i1 3)) (some (t1 90)) none), o1 92 (.fcall true [[.v (.int .i64 0), .v (.int .i64 0), .slice .nilS 0 []]] 28 [t1 91]), o1 93 (.build [.v (.int .i64 0), .v (.int .i64 0), .slice .nilS 0 []]
  [(0, (1, (t1 79))), (1, (1, (t1 85))), (2, (1, (t1 92)))]), o1 8 (.slot 1 [.v (.int .i64 0), .v (.int .i64 0), .slice .nilS 0 []]), ⟨none, none, (.fill 1 3 (t1 8) (t1 93))⟩])) (sq (rF [fA 94 0 8, lF
  95 1 94, o1 96 (aK .neq 95 255)]) (cn 96 (rT [m1 97 0, m1 98 0, o1 99 (.nilCheck (t1 98)), fA 100 2 99, lF 101 1 100, lT 102 3 8, o1 103 (.buildSlice 3 [[.v (.int .i64 0), .v (.int .i64 0), .slice
  .nilS 0 []]] [(0, (t1 102))]), o1 104 (.append 3 (t1 101) (t1 103)), o1 105 (.nilCheck (t1 97)), fA 106 2 105, sT 1 106 104]) .skip))) (rF [m1 107 0, m1 108 0, o1 109 (.nilCheck (t1 108)), fA 110 1
  109, lF 111 1 110, m1 112 7, o1 113 (.slice (.sl 1) (t1 111) (some (t1 112)) none none), o1 114 (.nilCheck (t1 107)), fA 115 1 114, sT 1 115 113]))))))
def b_frame_reader_read : ACode := (sq (rF [o1 4 (.box 4 (t1 1))]) (sq (sq (rT [m1 9 0, o1 10 (.nilCheck (t1 9)), fA 11 0 10, lF 12 1 11, m1 13 12, gT 14 13 (mX 2), gT 15 13 (uX 14), gT 16 13 (mX 15),
  gF 17 16 (fX 2 4), gF 18 16 (lX 1 17), gF 19 16 (mX 0), gF 20 16 (lY 4 4), gF 21 16 (.call true 60 [t1 19, t1 20]), gF 22 16 (aX .neq 18 21), gT 23 13 (pB 16 22), o1 24 (pA 13 23)]) (cn 24 (rF [m1
  25 0, o1 26 (cF 61 [t1 25])]) .skip)) (sq (rF [fA 27 3 4, lF 28 1 27, m1 6 28]) (sq (sq (rF [m1 29 0, o1 30 (.nilCheck (t1 29)), fA 31 0 30, lF 32 1 31, o1 33 (uX 32)]) (cn 33 (sq (sq (rF [fA 34 2
  4, lF 35 1 34, o1 36 (aK .eql 35 255)]) (cn 36 .ret .skip)) (rT [m1 37 0, m1 38 6, fA 39 2 4, o1 40 (.loadq false 1 (t1 39) 2 4), o1 41 (.slice (.sl 1) (t1 38) (some (t1 40)) none none), o1 42
  (.nilCheck (t1 37)), fA 43 0 42, ⟨none, none, (.storeq 1 (t1 43) bT [(false, (1, (2, 4)))])⟩, m1 6 41])) .skip)) (sq (rF [m1 44 0, m1 45 0, o1 46 (.nilCheck (t1 45)), fA 47 1 46, lF 48 1 47, m1 49
  6, o1 50 (.buildSlice 1 [[.slice .nilS 0 []], [.slice .nilS 0 []]] [(0, (t1 48)), (1, (t1 49))]), o1 51 (cF 62 [t1 50]), o1 52 (.nilCheck (t1 44)), fA 53 1 52, sT 1 53 51]) (.block 0 (.loop
  b_frame_reader_read_l0)))))))
abbrev k_frame_reader_read_0 : List K := [.blk 0]
abbrev f_frame_reader_read := finF [] false
def c_frame_reader_read : AFn := .code 3 116 b_frame_reader_read [] false
-- 35
def b_frame_CheckPairs_r0 : ACode := (sq (rF [o1 2 (mI 0), o1 3 (mI 0)]) .ret)
def b_frame_CheckPairs_l0 : ACode := (sq (rF [o1 27 (aX .lss 26 25)]) (sq (cn 27 .skip (.exit 0)) (sq (.block 1 (sq (rF [m1 28 26, o1 29 (iX 3 24 26), lT 30 3 29, o1 8 (.alloc [.v (.int .i64 0), .v
  (.int .i64 0), .v (.int .i64 0)]), m1 7 28, sT 3 8 30]) (sq (rF [fA 31 0 8, lF 32 1 31, o1 33 (cF 38 [t1 32, i1 0, i1 1000000]), m1 34 33, gT 35 34 (mX 5), gT 36 34 (fX 1 8), gT 37 34 (fX 0 36), gT
  38 34 (lX 1 37), gT 39 34 (.callv false (t1 35) [t1 38]), o1 40 (pA 34 39), m1 41 40, gT 42 41 (mX 5), gT 43 41 (fX 1 8), gT 44 41 (fX 1 43), gT 45 41 (lX 1 44), gT 46 41 (.callv false (t1 42) [t1
  45]), o1 47 (pA 41 46), m1 9 47]) (sq (sq (rT [m1 48 9, o1 49 (.call true 22 [t1 48, i1 2]), fA 50 1 8, fA 51 0 50, lF 52 1 51, fA 53 1 8, fA 54 1 53, lF 55 1 54, o1 56 (aX .leq 52 55), m1 57 56, gT
  58 57 (fX 0 8), gT 59 57 (lX 1 58), gT 60 57 (mX 6), gT 61 57 (aX .gtr 59 60), o1 62 (pA 57 61), o1 63 (cF 22 [t1 62, i1 9]), o1 64 (.buildSlice 1 [[.v (.int .i64 0)], [.v (.int .i64 0)]] [(0, (t1
  49)), (1, (t1 63))]), o1 65 (cF 21 [t1 64]), m1 10 65]) (sq (rF [m1 66 10, o1 67 (aK .neq 66 0)]) (cn 67 (sq (rF [m1 68 7, m1 69 10, m1 2 68, m1 3 69]) .ret) .skip))) (rF [fA 70 0 8, lF 71 1 70, m1
  6 71]))))) (rF [o1 72 (aK .add 26 1), m1 26 72]))))
def b_frame_CheckPairs : ACode := (sq (rF [o1 2 (mI 0), o1 3 (mI 0)]) (sq (sq (rF [m1 11 0, o1 12 (nX 11), o1 13 (aK .gtr 12 0), o1 14 (cF 22 [t1 13, i1 10]), m1 15 0, o1 16 (nX 15), o1 17 (aK .leq 16
  20), o1 18 (cF 22 [t1 17, i1 8]), o1 19 (.buildSlice 1 [[.v (.int .i64 0)], [.v (.int .i64 0)]] [(0, (t1 14)), (1, (t1 18))]), o1 20 (cF 21 [t1 19]), m1 4 20]) (sq (rF [m1 21 4, o1 22 (aK .neq 21
  0)]) (cn 22 (sq (rF [m1 23 4, o1 2 (mI 0), m1 3 23]) .ret) .skip))) (sq (rF [o1 5 (.move (.const (.fn 63 [] [])))]) (sq (rF [o1 6 (mI (-1))]) (sq (sq (rF [m1 24 0, o1 25 (nX 24), o1 26 (mI 0)])
  (.block 0 (.loop b_frame_CheckPairs_l0))) b_frame_CheckPairs_r0)))))
abbrev k_frame_CheckPairs_0 : List K := [.blk 0, .c b_frame_CheckPairs_r0]
abbrev f_frame_CheckPairs := finF [(.tmp 2), (.tmp 3)] false
def c_frame_CheckPairs : AFn := .code 1 73 b_frame_CheckPairs [(.tmp 2), (.tmp 3)] false
-- 36
def b_frame_isLine : ACode := (sq (rF [o1 2 (mB false)]) (sq (sq (rF [m1 4 0, o1 5 (nX 4), o1 6 (aK .lss 5 2)]) (cn 6 (sq (rF [o1 2 (mB true)]) .ret) .skip)) (sq (rF [m1 7 0, o1 8 (cF 64 [t1 7]), o1 3
  (.alloc [.v (.int .i64 0), .v (.int .i64 0), .v (.int .i64 0), .v (.int .i64 0)]), sT 4 3 8]) (sq (rF [o1 9 (.indexAddr (some 2) 2 (t1 3) (i1 1)), lT 10 2 9, o1 11 (.indexAddr (some 2) 2 (t1 3) (i1
  0)), lT 12 2 11, o1 13 (cF 65 [t1 10, t1 12]), o1 14 (uX 13), m1 2 14]) .ret))))
abbrev f_frame_isLine := finF [(.tmp 2)] false
def c_frame_isLine : AFn := .code 1 15 b_frame_isLine [(.tmp 2)] false
-- 37
def b_frame_linesErr : ACode := (sq (rF [o1 2 (mI 0)]) (sq (sq (rF [m1 6 0, o1 7 (cF 35 [t1 6]), m1 5 7, o1 8 (eX 0 5), o1 9 (eX 1 5), m1 3 8, m1 4 9]) (sq (rF [m1 10 4, o1 11 (aK .neq 10 0)]) (cn 11
  (sq (rF [m1 12 4, m1 2 12]) .ret) .skip))) (sq (rF [m1 13 0, o1 14 (nX 13), o1 15 (aK .gtr 14 1), o1 16 (cF 22 [t1 15, i1 10]), m1 17 0, o1 18 (cF 36 [t1 17]), o1 19 (cF 22 [t1 18, i1 13]), o1 20
  (.buildSlice 1 [[.v (.int .i64 0)], [.v (.int .i64 0)]] [(0, (t1 16)), (1, (t1 19))]), o1 21 (cF 21 [t1 20]), m1 2 21]) .ret)))
abbrev f_frame_linesErr := finF [(.tmp 2)] false
def c_frame_linesErr : AFn := .code 1 22 b_frame_linesErr [(.tmp 2)] false
-- 38
def b_frame_within : ACode := (sq (rF [o1 6 (mB false)]) (sq (rF [m1 7 1, m1 8 0, o1 9 (aX .leq 7 8), m1 10 9, gT 11 10 (mX 0), gT 12 10 (mX 2), gT 13 10 (aX .leq 11 12), o1 14 (pA 10 13), m1 6 14])
  .ret))
abbrev f_frame_within := finF [(.tmp 6)] false
def c_frame_within : AFn := .code 3 15 b_frame_within [(.tmp 6)] false
-- 39
def b_frame_chords : ACode := (sq (rF [o1 1 (.box 1 (t1 0)), o1 2 (.move (.const (.v .nilFunc)))]) (sq (rF [o1 3 (.mkFn 66 [] [t1 1]), m1 2 3]) .ret))
abbrev f_frame_chords := finF [(.tmp 2)] false
def c_frame_chords : AFn := .code 1 4 b_frame_chords [(.tmp 2)] false
-- 40
def b_frame_chord_at : ACode := (sq (rF [o1 2 (.box 4 (t1 0)), o1 4 (mI 0)]) (sq (rT [fA 5 0 2, fA 6 1 5, lF 7 1 6, lT 8 4 2, o1 9 (.call true 42 [t1 8]), o1 10 (aX .mul 7 9), fA 11 2 2, fA 12 1 11,
  lF 13 1 12, fA 14 0 2, fA 15 1 14, lF 16 1 15, o1 17 (aX .sub 13 16), m1 18 1, fA 19 0 2, fA 20 0 19, lF 21 1 20, o1 22 (aX .sub 18 21), o1 23 (aX .mul 17 22), o1 24 (aX .add 10 23), m1 4 24])
  .ret))
abbrev f_frame_chord_at := finF [(.tmp 4)] false
def c_frame_chord_at : AFn := .code 2 25 b_frame_chord_at [(.tmp 4)] false
-- 41
def b_frame_floor : ACode := (sq (rF [o1 4 (mI 0)]) (sq (rF [m1 6 0, m1 7 1, o1 8 (aX .quo 6 7), m1 5 8]) (sq (sq (rF [m1 9 0, m1 10 1, o1 11 (aX .rem 9 10), o1 12 (aK .lss 11 0)]) (cn 12 (rF [m1 13
  5, o1 14 (aK .sub 13 1), m1 5 14]) .skip)) (sq (rF [m1 15 5, m1 4 15]) .ret))))
abbrev f_frame_floor := finF [(.tmp 4)] false
def c_frame_floor : AFn := .code 2 16 b_frame_floor [(.tmp 4)] false
-- 42
def b_frame_chord_den : ACode := (sq (rF [o1 1 (.box 4 (t1 0)), o1 2 (mI 0)]) (sq (rF [fA 3 2 1, fA 4 0 3, lF 5 1 4, fA 6 0 1, fA 7 0 6, lF 8 1 7, o1 9 (aX .sub 5 8), m1 2 9]) .ret))
abbrev f_frame_chord_den := finF [(.tmp 2)] false
def c_frame_chord_den : AFn := .code 1 10 b_frame_chord_den [(.tmp 2)] false
-- 43
def b_frame_open : ACode := (sq (rF [o1 1 (.box 2 (t1 0)), o1 2 (.alloc [.v (.int .i64 0), .v (.int .i64 0)]), o1 3 (mI 0)]) (sq (rT [lT 4 2 1, o1 5 (.build [.v (.int .i64 0), .v (.int .i64 0)] [(0,
  (2, (t1 4)))]), lT 6 2 1, o1 7 (.call true 68 [t1 6]), sT 2 2 5, m1 3 7]) .ret))
abbrev f_frame_open := finF [(.cell true 2 2), (.tmp 3)] false
def c_frame_open : AFn := .code 1 8 b_frame_open [(.cell true 2 2), (.tmp 3)] false
-- 44
def b_frame_link_channelErr : ACode := (sq (rF [o1 2 (.box 2 (t1 0)), o1 4 (mI 0)]) (sq (rF [m1 5 1, fA 6 0 2, fA 7 1 6, lF 8 1 7, o1 9 (aK .sub 8 1), o1 10 (cF 38 [t1 5, i1 0, t1 9]), o1 11 (cF 22
  [t1 10, i1 6]), m1 4 11]) .ret))
abbrev f_frame_link_channelErr := finF [(.tmp 4)] false
def c_frame_link_channelErr : AFn := .code 2 12 b_frame_link_channelErr [(.tmp 4)] false
-- 45
def b_frame_each_api_FramePacket_r0 : ACode := (sq (rF [o1 4 (mI 0)]) .ret)
def b_frame_each_api_FramePacket_l0 : ACode := (sq (rF [o1 11 (aX .lss 10 9)]) (sq (cn 11 .skip (.exit 0)) (sq (.block 1 (sq (rF [o1 12 (iX 3 8 10), lT 13 3 12, o1 6 (.alloc [.v (.int .i64 0), .v
  (.int .i64 0), .slice .nilS 0 []]), sT 3 6 13]) (sq (rF [m1 14 1, lT 15 3 6, o1 16 (.callv false (t1 14) [t1 15]), m1 7 16]) (sq (rF [m1 17 7, o1 18 (aK .neq 17 0)]) (cn 18 (sq (rF [m1 19 7, m1 4
  19]) .ret) .skip))))) (rF [o1 20 (aK .add 10 1), m1 10 20]))))
def b_frame_each_api_FramePacket : ACode := (sq (rF [o1 4 (mI 0)]) (sq (sq (rF [m1 8 0, o1 9 (nX 8), o1 10 (mI 0)]) (.block 0 (.loop b_frame_each_api_FramePacket_l0)))
  b_frame_each_api_FramePacket_r0))
abbrev k_frame_each_api_FramePacket_0 : List K := [.blk 0, .c b_frame_each_api_FramePacket_r0]
abbrev f_frame_each_api_FramePacket := finF [(.tmp 4)] false
def c_frame_each_api_FramePacket : AFn := .code 2 21 b_frame_each_api_FramePacket [(.tmp 4)] false
-- 46
def b_frame_CheckPacket : ACode := (sq (rF [o1 1 (.box 3 (t1 0)), o1 2 (mI 0)]) (sq (rT [fA 3 0 1, lF 4 1 3, o1 5 (.call true 69 [t1 4]), m1 6 5, gT 7 6 (fX 1 1), gT 8 6 (lX 1 7), gT 9 6 (.call true
  69 [t1 8]), o1 10 (pA 6 9), o1 11 (.call true 22 [t1 10, i1 2]), fA 12 2 1, lF 13 1 12, o1 14 (nX 13), o1 15 (aK .leq 14 40), o1 16 (.call true 22 [t1 15, i1 8]), fA 17 2 1, lF 18 1 17, o1 19 (cF 70
  [t1 18]), o1 20 (.buildSlice 1 [[.v (.int .i64 0)], [.v (.int .i64 0)], [.v (.int .i64 0)]] [(0, (t1 11)), (1, (t1 16)), (2, (t1 19))]), o1 21 (cF 21 [t1 20]), m1 2 21]) .ret))
abbrev f_frame_CheckPacket := finF [(.tmp 2)] false
def c_frame_CheckPacket : AFn := .code 1 22 b_frame_CheckPacket [(.tmp 2)] false
-- 47
def b_z_Clone_FramePacket : ACode := (sq (rF [o1 2 (.move (.const (.slice .nilS 0 [])))]) (sq (sq (rF [m1 3 0, o1 4 (.eqv false .slice (t1 3) (.const (.slice .nilS 0 [])))]) (cn 4 (sq (rF [o1 2 (.move
  (.const (.slice .nilS 0 [])))]) .ret) .skip)) (sq (rF [o1 5 (.buildSlice 3 [] []), m1 6 0, o1 7 (.append 3 (t1 5) (t1 6)), m1 2 7]) .ret)))
abbrev f_z_Clone_FramePacket := finF [(.tmp 2)] true
def c_z_Clone_FramePacket : AFn := .code 1 8 b_z_Clone_FramePacket [(.tmp 2)] true
-- 48
def b_slices_Chunk_int_int__1_l0 : ACode := (sq (sq (rF [m1 6 4, lF 7 1 1, o1 8 (nX 7), o1 9 (aX .lss 6 8)]) (cn 9 .skip (.exit 0))) (sq (.block 1 (sq (rT [lF 13 1 2, lF 14 1 1, m1 15 4, o1 16 (.slice
  (.sl 1) (t1 14) (some (t1 15)) none none), o1 17 (nX 16), o1 18 (.minmax false [t1 13, t1 17]), m1 5 18]) (sq (rF [m1 19 0, lF 20 1 1, m1 21 4, m1 22 4, m1 23 5, o1 24 (aX .add 22 23), m1 25 4, m1
  26 5, o1 27 (aX .add 25 26), o1 28 (.slice (.sl 1) (t1 20) (some (t1 21)) (some (t1 24)) (some (t1 27))), o1 29 (.callv false (t1 19) [t1 28]), o1 30 (uX 29)]) (cn 30 .ret .skip)))) (rF [m1 10 4, lF
  11 1 2, o1 12 (aX .add 10 11), m1 4 12])))
def b_slices_Chunk_int_int__1 : ACode := (sq (rF [o1 4 (mI 0)]) (.block 0 (.loop b_slices_Chunk_int_int__1_l0)))
abbrev k_slices_Chunk_int_int__1_0 : List K := [.blk 0]
abbrev f_slices_Chunk_int_int__1 := finF [] false
def c_slices_Chunk_int_int__1 : AFn := .code 3 31 b_slices_Chunk_int_int__1 [] false
-- 49
def b_cmp_Less_int : ACode := (sq (rF [o1 4 (mB false)]) (sq (rF [m1 5 0, o1 6 (cF 71 [t1 5]), m1 7 6, gT 8 7 (mX 1), gT 9 7 (cF 71 [t1 8]), gT 10 7 (uX 9), o1 11 (pA 7 10), m1 12 11, gF 13 12 (mX 0),
  gF 14 12 (mX 1), gF 15 12 (aX .lss 13 14), o1 16 (pB 12 15), m1 4 16]) .ret))
abbrev f_cmp_Less_int := finF [(.tmp 4)] false
def c_cmp_Less_int : AFn := .code 2 17 b_cmp_Less_int [(.tmp 4)] false
-- 50
def b_z_isNaN_int : ACode := (sq (rF [o1 2 (mB false)]) (sq (rF [m1 3 0, m1 4 0, o1 5 (aX .neq 3 4), m1 2 5]) .ret))
abbrev f_z_isNaN_int := finF [(.tmp 2)] false
def c_z_isNaN_int : AFn := .code 1 6 b_z_isNaN_int [(.tmp 2)] false
-- 51
def b_r_ChannelErr : ACode := (sq (rF [o1 2 (.box 2 (t1 0)), o1 4 (mI 0)]) (sq (sq (rF [m1 5 1, fA 6 1 2, lF 7 1 6, o1 8 (aK .sub 7 1), o1 9 (cF 11 [t1 5, i1 0, t1 8]), o1 10 (uX 9)]) (cn 10 (sq (rF
  [o1 4 (mI 6)]) .ret) .skip)) (sq (rF [o1 4 (mI 0)]) .ret)))
abbrev f_r_ChannelErr := finF [(.tmp 4)] false
def c_r_ChannelErr : AFn := .code 2 11 b_r_ChannelErr [(.tmp 4)] false
-- 52
def b_r_BytesErr_r0 : ACode := (sq (rF [o1 2 (mI 0)]) .ret)
def b_r_BytesErr_l0 : ACode := (sq (sq (rF [m1 4 3, m1 5 0, o1 6 (nX 5), o1 7 (aX .lss 4 6)]) (cn 7 .skip (.exit 0))) (sq (.block 1 (sq (rF [m1 10 0, m1 11 3, o1 12 (iX 1 10 11), lF 13 1 12, o1 14 (cF
  11 [t1 13, i1 0, i1 255]), o1 15 (uX 14)]) (cn 15 (sq (rF [o1 2 (mI 2)]) .ret) .skip))) (rF [m1 8 3, o1 9 (aK .add 8 1), m1 3 9])))
def b_r_BytesErr : ACode := (sq (rF [o1 2 (mI 0)]) (sq (sq (rF [o1 3 (mI 0)]) (.block 0 (.loop b_r_BytesErr_l0))) b_r_BytesErr_r0))
abbrev k_r_BytesErr_0 : List K := [.blk 0, .c b_r_BytesErr_r0]
abbrev f_r_BytesErr := finF [(.tmp 2)] false
def c_r_BytesErr : AFn := .code 1 16 b_r_BytesErr [(.tmp 2)] false
-- 53
def b_frame_each_api_FrameFrame_r0 : ACode := (sq (rF [o1 4 (mI 0)]) .ret)
def b_frame_each_api_FrameFrame_l0 : ACode := (sq (rF [o1 11 (aX .lss 10 9)]) (sq (cn 11 .skip (.exit 0)) (sq (.block 1 (sq (rF [o1 12 (iX 4 8 10), lT 13 4 12, o1 6 (.alloc [.v (.int .i64 0), .v (.int
  .i64 0), .v (.int .i64 0), .slice .nilS 0 []]), sT 4 6 13]) (sq (rF [m1 14 1, lT 15 4 6, o1 16 (.callv false (t1 14) [t1 15]), m1 7 16]) (sq (rF [m1 17 7, o1 18 (aK .neq 17 0)]) (cn 18 (sq (rF [m1
  19 7, m1 4 19]) .ret) .skip))))) (rF [o1 20 (aK .add 10 1), m1 10 20]))))
def b_frame_each_api_FrameFrame : ACode := (sq (rF [o1 4 (mI 0)]) (sq (sq (rF [m1 8 0, o1 9 (nX 8), o1 10 (mI 0)]) (.block 0 (.loop b_frame_each_api_FrameFrame_l0))) b_frame_each_api_FrameFrame_r0))
abbrev k_frame_each_api_FrameFrame_0 : List K := [.blk 0, .c b_frame_each_api_FrameFrame_r0]
abbrev f_frame_each_api_FrameFrame := finF [(.tmp 4)] false
def c_frame_each_api_FrameFrame : AFn := .code 2 21 b_frame_each_api_FrameFrame [(.tmp 4)] false
-- 54
def b_frame_link_frameErr : ACode := (sq (rF [o1 2 (.box 2 (t1 0)), o1 3 (.box 4 (t1 1)), o1 4 (mI 0)]) (sq (rT [lT 5 2 2, fA 6 0 3, lF 7 1 6, o1 8 (.call true 44 [t1 5, t1 7]), fA 9 1 3, lF 10 1 9,
  o1 11 (.call true 23 [t1 10]), m1 12 11, gT 13 12 (fX 2 3), gT 14 12 (lX 1 13), gT 15 12 (fX 0 2), gT 16 12 (fX 0 15), gT 17 12 (lX 1 16), gT 18 12 (aK .sub 17 1), gT 19 12 (.call true 38 [t1 14, i1
  0, t1 18]), gT 20 12 (mX 19), gF 21 20 (fX 2 3), gF 22 20 (lX 1 21), gF 23 20 (aK .eql 22 255), gT 24 12 (pB 20 23), o1 25 (pA 12 24), o1 26 (.call true 22 [t1 25, i1 2]), fA 27 3 3, lF 28 1 27, o1
  29 (nX 28), fA 30 0 2, fA 31 0 30, lF 32 1 31, o1 33 (aX .eql 29 32), o1 34 (.call true 22 [t1 33, i1 10]), fA 35 3 3, lF 36 1 35, o1 37 (cF 70 [t1 36]), o1 38 (.buildSlice 1 [[.v (.int .i64 0)],
  [.v (.int .i64 0)], [.v (.int .i64 0)], [.v (.int .i64 0)]] [(0, (t1 8)), (1, (t1 26)), (2, (t1 34)), (3, (t1 37))]), o1 39 (cF 21 [t1 38]), m1 4 39]) .ret))
abbrev f_frame_link_frameErr := finF [(.tmp 4)] false
def c_frame_link_frameErr : AFn := .code 2 40 b_frame_link_frameErr [(.tmp 4)] false
-- 55
def b_z_SortStableFunc_numbered : ACode := (rF [m1 4 0, m1 5 0, o1 6 (nX 5), m1 7 1, o1 8 (cF 72 [t1 4, t1 6, t1 7])])
abbrev f_z_SortStableFunc_numbered := finF [] false
def c_z_SortStableFunc_numbered : AFn := .code 2 9 b_z_SortStableFunc_numbered [] false
-- 56
def b_frame_ordered_1 : ACode := (sq (rF [o1 2 (.box 5 (t1 0)), o1 3 (.box 5 (t1 1)), o1 4 (mI 0)]) (sq (rF [fA 5 4 2, lF 6 1 5, fA 7 4 3, lF 8 1 7, o1 9 (cF 57 [t1 6, t1 8]), m1 4 9]) .ret))
abbrev f_frame_ordered_1 := finF [(.tmp 4)] false
def c_frame_ordered_1 : AFn := .code 2 10 b_frame_ordered_1 [(.tmp 4)] false
-- 57
def b_cmp_Compare_int : ACode := (sq (rF [o1 4 (mI 0)]) (sq (rF [m1 7 0, o1 8 (cF 71 [t1 7]), m1 5 8]) (sq (rF [m1 9 1, o1 10 (cF 71 [t1 9]), m1 6 10]) (sq (sq (rF [m1 11 5]) (cn 11 (sq (sq (rF [m1 12
  6]) (cn 12 (sq (rF [o1 4 (mI 0)]) .ret) .skip)) (sq (rF [o1 4 (mI (-1))]) .ret)) .skip)) (sq (sq (rF [m1 13 6]) (cn 13 (sq (rF [o1 4 (mI 1)]) .ret) .skip)) (sq (sq (rF [m1 14 0, m1 15 1, o1 16 (aX
  .lss 14 15)]) (cn 16 (sq (rF [o1 4 (mI (-1))]) .ret) .skip)) (sq (sq (rF [m1 17 0, m1 18 1, o1 19 (aX .gtr 17 18)]) (cn 19 (sq (rF [o1 4 (mI 1)]) .ret) .skip)) (sq (rF [o1 4 (mI 0)]) .ret))))))))
abbrev f_cmp_Compare_int := finF [(.tmp 4)] false
def c_cmp_Compare_int : AFn := .code 2 20 b_cmp_Compare_int [(.tmp 4)] false
-- 58
def b_z_CompactFunc_numbered_r0 : ACode := (sq (rF [m1 65 0, m1 4 65]) .ret)
def b_z_CompactFunc_numbered_r1 : ACode := (rF [m1 16 5, o1 17 (aK .add 16 1), m1 5 17])
def b_z_CompactFunc_numbered_r2 : ACode := (sq (rF [m1 59 0, m1 60 5, o1 61 (.slice (.sl 5) (t1 59) (some (t1 60)) none none), ⟨none, none, (.clear [.v (.int .i64 0), .v (.int .i64 0), .v (.int .i64
  0), .slice .nilS 0 [], .v (.int .i64 0)] (t1 61))⟩]) (sq (rF [m1 62 0, m1 63 5, o1 64 (.slice (.sl 5) (t1 62) none (some (t1 63)) none), m1 4 64]) .ret))
def b_z_CompactFunc_numbered_l1 : ACode := (sq (sq (rF [m1 32 7, m1 33 6, o1 34 (nX 33), o1 35 (aX .lss 32 34)]) (cn 35 .skip (.exit 2))) (sq (.block 3 (sq (rT [m1 38 1, m1 39 6, m1 40 7, o1 41 (iX 5
  39 40), lT 42 5 41, m1 43 6, m1 44 7, o1 45 (aK .sub 44 1), o1 46 (iX 5 43 45), lT 47 5 46, o1 48 (.callv false (t1 38) [t1 42, t1 47]), o1 49 (uX 48)]) (cn 49 (sq (rF [m1 50 0, m1 51 5, m1 52 6, m1
  53 7, o1 54 (iX 5 52 53), lT 55 5 54, o1 56 (iX 5 50 51), sT 5 56 55]) (rF [m1 57 5, o1 58 (aK .add 57 1), m1 5 58])) .skip))) (rF [m1 36 7, o1 37 (aK .add 36 1), m1 7 37])))
def b_z_CompactFunc_numbered_l0 : ACode := (sq (sq (rF [m1 12 5, m1 13 0, o1 14 (nX 13), o1 15 (aX .lss 12 14)]) (cn 15 .skip (.exit 0))) (sq (.block 1 (sq (rT [m1 18 1, m1 19 0, m1 20 5, o1 21 (iX 5
  19 20), lT 22 5 21, m1 23 0, m1 24 5, o1 25 (aK .sub 24 1), o1 26 (iX 5 23 25), lT 27 5 26, o1 28 (.callv false (t1 18) [t1 22, t1 27])]) (cn 28 (sq (rF [m1 29 0, m1 30 5, o1 31 (.slice (.sl 5) (t1
  29) (some (t1 30)) none none), m1 6 31]) (sq (sq (rF [o1 7 (mI 1)]) (.block 2 (.loop b_z_CompactFunc_numbered_l1))) b_z_CompactFunc_numbered_r2)) .skip))) b_z_CompactFunc_numbered_r1))
def b_z_CompactFunc_numbered : ACode := (sq (rF [o1 4 (.move (.const (.slice .nilS 0 [])))]) (sq (sq (rF [m1 8 0, o1 9 (nX 8), o1 10 (aK .lss 9 2)]) (cn 10 (sq (rF [m1 11 0, m1 4 11]) .ret) .skip))
  (sq (sq (rF [o1 5 (mI 1)]) (.block 0 (.loop b_z_CompactFunc_numbered_l0))) b_z_CompactFunc_numbered_r0)))
abbrev k_z_CompactFunc_numbered_1 : List K := [.blk 2, .c b_z_CompactFunc_numbered_r2, .blk 1, .c b_z_CompactFunc_numbered_r1, .lp b_z_CompactFunc_numbered_l0, .blk 0, .c b_z_CompactFunc_numbered_r0]
abbrev k_z_CompactFunc_numbered_0 : List K := [.blk 0, .c b_z_CompactFunc_numbered_r0]
abbrev f_z_CompactFunc_numbered := finF [(.tmp 4)] false
def c_z_CompactFunc_numbered : AFn := .code 2 66 b_z_CompactFunc_numbered [(.tmp 4)] false
-- 59
def b_frame_ordered_2 : ACode := (sq (rF [o1 2 (.box 5 (t1 0)), o1 3 (.box 5 (t1 1)), o1 4 (mB false)]) (sq (rF [fA 5 4 2, lF 6 1 5, fA 7 4 3, lF 8 1 7, o1 9 (aX .eql 6 8), m1 4 9]) .ret))
abbrev f_frame_ordered_2 := finF [(.tmp 4)] false
def c_frame_ordered_2 : AFn := .code 2 10 b_frame_ordered_2 [(.tmp 4)] false
-- 60
def b_frame_reader_expected : ACode := (sq (rF [o1 3 (.box 4 (t1 1)), o1 4 (mI 0)]) (sq (sq (rF [m1 7 0, o1 8 (.nilCheck (t1 7)), fA 9 1 8, lF 10 1 9, o1 11 (nX 10), o1 12 (aK .eql 11 0)]) (cn 12 (sq
  (rF [o1 4 (mI 0)]) .ret) .skip)) (sq (rT [m1 13 0, o1 14 (.nilCheck (t1 13)), fA 15 1 14, lF 16 1 15, fA 17 3 3, lF 18 1 17, o1 19 (.buildSlice 1 [[.slice .nilS 0 []], [.slice .nilS 0 []]] [(0, (t1
  16)), (1, (t1 18))]), o1 20 (cF 62 [t1 19]), m1 5 20]) (sq (sq (rT [m1 21 5, o1 22 (.indexAddr none 1 (t1 21) (i1 2)), lF 23 1 22, o1 24 (.arith .add (i1 3) (t1 23)), m1 25 0, o1 26 (.nilCheck (t1
  25)), fA 27 1 26, lF 28 1 27, o1 29 (nX 28), o1 30 (aX .sub 24 29), m1 6 30]) (sq (rF [m1 31 6, fA 32 3 3, lF 33 1 32, o1 34 (nX 33), o1 35 (aX .lss 31 34)]) (cn 35 (sq (rF [m1 36 6, m1 4 36]) .ret)
  .skip))) (sq (rF [o1 4 (mI 255)]) .ret)))))
abbrev f_frame_reader_expected := finF [(.tmp 4)] false
def c_frame_reader_expected : AFn := .code 2 37 b_frame_reader_expected [(.tmp 4)] false
-- 61
def b_frame_reader_close : ACode := (rF [m1 2 0, m1 3 0, o1 4 (.nilCheck (t1 2)), fA 5 0 4, ⟨none, none, (.store 1 (t1 5) bF)⟩, o1 6 (.nilCheck (t1 3)), fA 7 1 6, ⟨none, none, (.store 1 (t1 7) (.const
  (.slice .nilS 0 [])))⟩])
abbrev f_frame_reader_close := finF [] false
def c_frame_reader_close : AFn := .code 1 8 b_frame_reader_close [] false
-- 62
def b_z_Concat_int_r0 : ACode := (sq (rF [m1 35 6, m1 2 35]) .ret)
def b_z_Concat_int_l0 : ACode := (sq (rF [o1 28 (aX .lss 27 26)]) (sq (cn 28 .skip (.exit 2)) (sq (.block 3 (sq (rF [o1 29 (iX 1 25 27), lF 30 1 29, m1 8 30]) (rF [m1 31 6, m1 32 8, o1 33 (.appendi 1
  (t1 31) (t1 32)), m1 6 33]))) (rF [o1 34 (aK .add 27 1), m1 27 34]))))
def b_z_Concat_int_r1 : ACode := (sq (rF [m1 23 3, o1 24 (.calli 73 [.const (.slice .nilS 0 []), t1 23]), m1 6 24]) (sq (sq (rF [m1 25 0, o1 26 (nX 25), o1 27 (mI 0)]) (.block 2 (.loop
  b_z_Concat_int_l0))) b_z_Concat_int_r0))
def b_z_Concat_int_l1 : ACode := (sq (rF [o1 12 (aX .lss 11 10)]) (sq (cn 12 .skip (.exit 0)) (sq (.block 1 (sq (rF [o1 13 (iX 1 9 11), lF 14 1 13, m1 5 14]) (sq (rF [m1 15 3, m1 16 5, o1 17 (nX 16),
  o1 18 (aX .add 15 17), m1 3 18]) (sq (rF [m1 19 3, o1 20 (aK .lss 19 0)]) (cn 20 (rF [o1 21 (.mkIface 9 (.const (.v (.string ⟨#[108, 101, 110, 32, 111, 117, 116, 32, 111, 102, 32, 114, 97, 110, 103,
  101]⟩)))), ⟨none, none, (.nilCheck (.const (.v (.tuple (.mk [])))))⟩]) .skip))))) (rF [o1 22 (aK .add 11 1), m1 11 22]))))
def b_z_Concat_int : ACode := (sq (rF [o1 2 (.move (.const (.slice .nilS 0 [])))]) (sq (rF [o1 3 (mI 0)]) (sq (sq (rF [m1 9 0, o1 10 (nX 9), o1 11 (mI 0)]) (.block 0 (.loop b_z_Concat_int_l1)))
  b_z_Concat_int_r1)))
abbrev k_z_Concat_int_0 : List K := [.blk 2, .c b_z_Concat_int_r0]
abbrev k_z_Concat_int_1 : List K := [.blk 0, .c b_z_Concat_int_r1]
abbrev f_z_Concat_int := finF [(.tmp 2)] false
def c_z_Concat_int : AFn := .code 1 36 b_z_Concat_int [(.tmp 2)] false
-- 63
def b_frame_CheckPairs_1 : ACode := (sq (rF [o1 2 (mB false)]) (sq (rF [m1 3 0, o1 4 (cF 38 [t1 3, i1 0, i1 1000000000000]), m1 2 4]) .ret))
abbrev f_frame_CheckPairs_1 := finF [(.tmp 2)] false
def c_frame_CheckPairs_1 : AFn := .code 1 5 b_frame_CheckPairs_1 [(.tmp 2)] false
-- 64
def b_frame_rates_r0 : ACode := (sq (rF [lT 72 4 3, sT 4 2 72]) .ret)
def b_frame_rates_r1 : ACode := (rF [o1 71 (aK .add 14 1), m1 14 71])
def b_frame_rates_l1 : ACode := (sq (rF [o1 24 (aX .lss 23 22)]) (sq (cn 24 .skip (.exit 2)) (sq (.block 3 (sq (rF [o1 25 (iX 3 21 23), lT 26 3 25, o1 8 (.alloc [.v (.int .i64 0), .v (.int .i64 0), .v
  (.int .i64 0)]), sT 3 8 26]) (sq (rF [fA 27 0 6, lF 28 1 27, fA 29 0 8, lF 30 1 29, o1 31 (aX .sub 28 30), m1 9 31]) (sq (sq (rF [⟨none, none, (.reserve 2)⟩]) (rT [fA 32 1 6, fA 33 0 32, o1 34
  (.loadr 2 false 1 (t1 33)), fA 35 1 8, fA 36 1 35, o1 37 (.loadr 2 false 1 (t1 36)), o1 38 (aX .sub 34 37), m1 39 9, o1 40 (.fcall true [[.v (.int .i64 0), .v (.int .i64 0)], [.v (.int .i64 0), .v
  (.int .i64 0)]] 74 [t1 38, t1 39]), fA 41 1 6, fA 42 1 41, o1 43 (.loadr 2 false 1 (t1 42)), fA 44 1 8, fA 45 0 44, o1 46 (.loadr 2 false 1 (t1 45)), o1 47 (aX .sub 43 46), m1 48 9, o1 49 (.fcall
  false [[.v (.int .i64 0), .v (.int .i64 0)], [.v (.int .i64 0), .v (.int .i64 0)]] 74 [t1 47, t1 48]), o1 10 (.slot 2 [.v (.int .i64 0), .v (.int .i64 0)]), o1 11 (.slot 1 [.v (.int .i64 0), .v
  (.int .i64 0)]), ⟨none, none, (.fill 2 2 (t1 10) (t1 40))⟩, ⟨none, none, (.fill 1 2 (t1 11) (t1 49))⟩])) (sq (sq (rF [m1 50 4, o1 51 (uX 50), m1 52 51, gF 53 52 (.indexAddr (some 2) 2 (t1 3) (i1
  0)), gF 54 52 (lY 2 53), gF 55 52 (lY 2 10), gF 56 52 (cF 65 [t1 54, t1 55]), o1 57 (pB 52 56)]) (cn 57 (rF [lT 58 2 10, o1 59 (.indexAddr (some 2) 2 (t1 3) (i1 0)), sT 2 59 58]) .skip)) (sq (sq (rF
  [m1 60 4, o1 61 (uX 60), m1 62 61, gF 63 62 (lY 2 11), gF 64 62 (.indexAddr (some 2) 2 (t1 3) (i1 1)), gF 65 62 (lY 2 64), gF 66 62 (cF 65 [t1 63, t1 65]), o1 67 (pB 62 66)]) (cn 67 (rF [lT 68 2 11,
  o1 69 (.indexAddr (some 2) 2 (t1 3) (i1 1)), sT 2 69 68]) .skip)) (rF [o1 4 (mB true)]))))))) (rF [o1 70 (aK .add 23 1), m1 23 70]))))
def b_frame_rates_l0 : ACode := (sq (rF [o1 15 (aX .lss 14 13)]) (sq (cn 15 .skip (.exit 0)) (sq (.block 1 (sq (rF [m1 16 14, o1 17 (iX 3 12 14), lT 18 3 17, o1 6 (.alloc [.v (.int .i64 0), .v (.int
  .i64 0), .v (.int .i64 0)]), m1 5 16, sT 3 6 18]) (sq (rF [m1 19 0, m1 20 5, o1 21 (.slice (.sl 3) (t1 19) none (some (t1 20)) none), o1 22 (nX 21), o1 23 (mI 0)]) (.block 2 (.loop
  b_frame_rates_l1))))) b_frame_rates_r1)))
def b_frame_rates : ACode := (sq (rF [o1 2 (.alloc [.v (.int .i64 0), .v (.int .i64 0), .v (.int .i64 0), .v (.int .i64 0)])]) (sq (rF [o1 3 (.alloc [.v (.int .i64 0), .v (.int .i64 0), .v (.int .i64
  0), .v (.int .i64 0)])]) (sq (rF [o1 4 (mB false)]) (sq (sq (rF [m1 12 0, o1 13 (nX 12), o1 14 (mI 0)]) (.block 0 (.loop b_frame_rates_l0))) b_frame_rates_r0))))
abbrev k_frame_rates_1 : List K := [.blk 2, .blk 1, .c b_frame_rates_r1, .lp b_frame_rates_l0, .blk 0, .c b_frame_rates_r0]
abbrev k_frame_rates_0 : List K := [.blk 0, .c b_frame_rates_r0]
abbrev f_frame_rates := finF [(.cell true 4 2)] false
def c_frame_rates : AFn := .code 1 73 b_frame_rates [(.cell true 4 2)] false
-- 65
def b_frame_less : ACode := (sq (rF [o1 2 (.box 2 (t1 0)), o1 3 (.box 2 (t1 1)), o1 4 (mB false)]) (sq (rF [fA 5 0 2, lF 6 1 5, fA 7 1 3, lF 8 1 7, o1 9 (aX .mul 6 8), fA 10 0 3, lF 11 1 10, fA 12 1
  2, lF 13 1 12, o1 14 (aX .mul 11 13), o1 15 (aX .lss 9 14), m1 4 15]) .ret))
abbrev f_frame_less := finF [(.tmp 4)] false
def c_frame_less : AFn := .code 2 16 b_frame_less [(.tmp 4)] false
-- 66
def b_frame_chords_1_r0 : ACode := (rF [o1 68 (aK .add 14 1), m1 14 68])
def b_frame_chords_1_r1 : ACode := (rF [o1 67 (aK .add 23 1), m1 23 67])
def b_frame_chords_1_r2 : ACode := (rF [o1 66 (aK .add 34 1), m1 34 66])
def b_frame_chords_1_l3 : ACode := (sq (rF [o1 45 (aK .lss 44 2)]) (sq (cn 45 .skip (.exit 6)) (sq (.block 7 (sq (rF [o1 46 (.index 2 1 false (t1 43) (t1 44)), m1 10 46]) (sq (rF [fA 47 0 6, lF 48 1
  47, m1 49 8, o1 50 (.build [.v (.int .i64 0), .v (.int .i64 0)] [(0, (1, (t1 48))), (1, (1, (t1 49)))]), fA 51 0 4, lF 52 1 51, m1 53 10, o1 54 (.build [.v (.int .i64 0), .v (.int .i64 0)] [(0, (1,
  (t1 52))), (1, (1, (t1 53)))]), o1 55 (.build [.v (.int .i64 0), .v (.int .i64 0), .v (.int .i64 0), .v (.int .i64 0)] [(0, (2, (t1 50))), (2, (2, (t1 54)))]), o1 11 (.alloc [.v (.int .i64 0), .v
  (.int .i64 0), .v (.int .i64 0), .v (.int .i64 0)]), sT 4 11 55]) (sq (rF [lT 56 4 11, lF 57 1 1, o1 58 (cF 67 [t1 56, t1 57]), m1 59 58, gT 60 59 (mX 0), gT 61 59 (lY 4 11), gT 62 59 (.callv false
  (t1 60) [t1 61]), gT 63 59 (uX 62), o1 64 (pA 59 63)]) (cn 64 .ret .skip))))) (rF [o1 65 (aK .add 44 1), m1 44 65]))))
def b_frame_chords_1_l2 : ACode := (sq (rF [o1 35 (aK .lss 34 2)]) (sq (cn 35 .skip (.exit 4)) (sq (.block 5 (sq (rF [o1 36 (.index 2 1 false (t1 33) (t1 34)), m1 8 36]) (sq (rF [fA 37 1 4, fA 38 0
  37, lF 39 1 38, fA 40 1 4, fA 41 1 40, lF 42 1 41, o1 43 (.build [.v (.int .i64 0), .v (.int .i64 0)] [(0, (1, (t1 39))), (1, (1, (t1 42)))]), o1 44 (mI 0)]) (.block 6 (.loop
  b_frame_chords_1_l3))))) b_frame_chords_1_r2)))
def b_frame_chords_1_l1 : ACode := (sq (rF [o1 24 (aX .lss 23 22)]) (sq (cn 24 .skip (.exit 2)) (sq (.block 3 (sq (rF [o1 25 (iX 3 21 23), lT 26 3 25, o1 6 (.alloc [.v (.int .i64 0), .v (.int .i64 0),
  .v (.int .i64 0)]), sT 3 6 26]) (sq (rF [fA 27 1 6, fA 28 0 27, lF 29 1 28, fA 30 1 6, fA 31 1 30, lF 32 1 31, o1 33 (.build [.v (.int .i64 0), .v (.int .i64 0)] [(0, (1, (t1 29))), (1, (1, (t1
  32)))]), o1 34 (mI 0)]) (.block 4 (.loop b_frame_chords_1_l2))))) b_frame_chords_1_r1)))
def b_frame_chords_1_l0 : ACode := (sq (rF [o1 15 (aX .lss 14 13)]) (sq (cn 15 .skip (.exit 0)) (sq (.block 1 (sq (rF [m1 16 14, o1 17 (iX 3 12 14), lT 18 3 17, o1 4 (.alloc [.v (.int .i64 0), .v
  (.int .i64 0), .v (.int .i64 0)]), m1 3 16, sT 3 4 18]) (sq (rF [lF 19 1 1, m1 20 3, o1 21 (.slice (.sl 3) (t1 19) none (some (t1 20)) none), o1 22 (nX 21), o1 23 (mI 0)]) (.block 2 (.loop
  b_frame_chords_1_l1))))) b_frame_chords_1_r0)))
def b_frame_chords_1 : ACode := (sq (rF [lF 12 1 1, o1 13 (nX 12), o1 14 (mI 0)]) (.block 0 (.loop b_frame_chords_1_l0)))
abbrev k_frame_chords_1_3 : List K := [.blk 6, .blk 5, .c b_frame_chords_1_r2, .lp b_frame_chords_1_l2, .blk 4, .blk 3, .c b_frame_chords_1_r1, .lp b_frame_chords_1_l1, .blk 2, .blk 1, .c
  b_frame_chords_1_r0, .lp b_frame_chords_1_l0, .blk 0]
abbrev k_frame_chords_1_2 : List K := [.blk 4, .blk 3, .c b_frame_chords_1_r1, .lp b_frame_chords_1_l1, .blk 2, .blk 1, .c b_frame_chords_1_r0, .lp b_frame_chords_1_l0, .blk 0]
abbrev k_frame_chords_1_1 : List K := [.blk 2, .blk 1, .c b_frame_chords_1_r0, .lp b_frame_chords_1_l0, .blk 0]
abbrev k_frame_chords_1_0 : List K := [.blk 0]
abbrev f_frame_chords_1 := finF [] false
def c_frame_chords_1 : AFn := .code 2 69 b_frame_chords_1 [] false
-- 67
def b_frame_chord_fits_r0 : ACode := (sq (rF [o1 4 (mB true)]) .ret)
def b_frame_chord_fits_l0 : ACode := (sq (rF [o1 10 (aX .lss 9 8)]) (sq (cn 10 .skip (.exit 0)) (sq (.block 1 (sq (rF [o1 11 (iX 3 7 9), lT 12 3 11, o1 6 (.alloc [.v (.int .i64 0), .v (.int .i64 0),
  .v (.int .i64 0)]), sT 3 6 12]) (sq (rT [lT 13 4 2, fA 14 0 6, lF 15 1 14, o1 16 (.call true 40 [t1 13, t1 15]), fA 17 1 6, fA 18 0 17, lF 19 1 18, lT 20 4 2, o1 21 (.call true 42 [t1 20]), o1 22
  (aX .mul 19 21), fA 23 1 6, fA 24 1 23, lF 25 1 24, lT 26 4 2, o1 27 (.call true 42 [t1 26]), o1 28 (aX .mul 25 27), o1 29 (cF 38 [t1 16, t1 22, t1 28]), o1 30 (uX 29)]) (cn 30 (sq (rF [o1 4 (mB
  false)]) .ret) .skip)))) (rF [o1 31 (aK .add 9 1), m1 9 31]))))
def b_frame_chord_fits : ACode := (sq (rF [o1 2 (.box 4 (t1 0)), o1 4 (mB false)]) (sq (sq (rF [m1 7 1, o1 8 (nX 7), o1 9 (mI 0)]) (.block 0 (.loop b_frame_chord_fits_l0))) b_frame_chord_fits_r0))
abbrev k_frame_chord_fits_0 : List K := [.blk 0, .c b_frame_chord_fits_r0]
abbrev f_frame_chord_fits := finF [(.tmp 4)] false
def c_frame_chord_fits : AFn := .code 2 32 b_frame_chord_fits [(.tmp 4)] false
-- 68
def b_frame_CheckRules : ACode := (sq (rF [o1 1 (.box 2 (t1 0)), o1 2 (mI 0)]) (sq (rF [fA 3 0 1, lF 4 1 3, o1 5 (cF 38 [t1 4, i1 4, i1 24]), m1 6 5, gT 7 6 (fX 1 1), gT 8 6 (lX 1 7), gT 9 6 (cF 38
  [t1 8, i1 1, i1 4]), o1 10 (pA 6 9), o1 11 (cF 22 [t1 10, i1 2]), m1 2 11]) .ret))
abbrev f_frame_CheckRules := finF [(.tmp 2)] false
def c_frame_CheckRules : AFn := .code 1 12 b_frame_CheckRules [(.tmp 2)] false
-- 69
def b_frame_isByte : ACode := (sq (rF [o1 2 (mB false)]) (sq (rF [m1 3 0, o1 4 (cF 38 [t1 3, i1 0, i1 255]), m1 2 4]) .ret))
abbrev f_frame_isByte := finF [(.tmp 2)] false
def c_frame_isByte : AFn := .code 1 5 b_frame_isByte [(.tmp 2)] false
-- 70
def b_frame_bytesErr : ACode := (sq (rF [o1 2 (mI 0)]) (sq (rF [m1 3 0, o1 4 (cF 75 [t1 3, .const (.fn 76 [] [])]), m1 2 4]) .ret))
abbrev f_frame_bytesErr := finF [(.tmp 2)] false
def c_frame_bytesErr : AFn := .code 1 5 b_frame_bytesErr [(.tmp 2)] false
-- 71
def b_cmp_isNaN_int : ACode := (sq (rF [o1 2 (mB false)]) (sq (rF [m1 3 0, m1 4 0, o1 5 (aX .neq 3 4), m1 2 5]) .ret))
abbrev f_cmp_isNaN_int := finF [(.tmp 2)] false
def c_cmp_isNaN_int : AFn := .code 1 6 b_cmp_isNaN_int [(.tmp 2)] false
-- 72
def b_z_stableCmpFunc_numbered_r0 : ACode := (sq (sq (rF [m1 49 7, m1 50 6, o1 51 (aX .add 49 50), m1 9 51]) (sq (rF [m1 52 9, m1 53 1, o1 54 (aX .lss 52 53)]) (cn 54 (rF [m1 55 0, m1 56 7, m1 57 9,
  m1 58 1, m1 59 2, o1 60 (cF 78 [t1 55, t1 56, t1 57, t1 58, t1 59])]) .skip))) (rF [m1 61 6, o1 62 (aK .mul 61 2), m1 6 62]))
def b_z_stableCmpFunc_numbered_l1 : ACode := (sq (sq (rF [m1 33 8, m1 34 1, o1 35 (aX .leq 33 34)]) (cn 35 .skip (.exit 4))) (.block 5 (sq (rF [m1 36 0, m1 37 7, m1 38 7, m1 39 6, o1 40 (aX .add 38
  39), m1 41 8, m1 42 2, o1 43 (cF 78 [t1 36, t1 37, t1 40, t1 41, t1 42])]) (sq (rF [m1 44 8, m1 7 44]) (rF [m1 45 8, m1 46 6, o1 47 (.arith .mul (i1 2) (t1 46)), o1 48 (aX .add 45 47), m1 8 48])))))
def b_z_stableCmpFunc_numbered_l0 : ACode := (sq (sq (rF [m1 28 6, m1 29 1, o1 30 (aX .lss 28 29)]) (cn 30 .skip (.exit 2))) (.block 3 (sq (rF [m1 31 6, o1 32 (.arith .mul (i1 2) (t1 31)), o1 7 (mI
  0), m1 8 32]) (sq (.block 4 (.loop b_z_stableCmpFunc_numbered_l1)) b_z_stableCmpFunc_numbered_r0))))
def b_z_stableCmpFunc_numbered_r1 : ACode := (sq (rF [m1 23 0, m1 24 7, m1 25 1, m1 26 2, o1 27 (cF 77 [t1 23, t1 24, t1 25, t1 26])]) (.block 2 (.loop b_z_stableCmpFunc_numbered_l0)))
def b_z_stableCmpFunc_numbered_l2 : ACode := (sq (sq (rF [m1 11 8, m1 12 1, o1 13 (aX .leq 11 12)]) (cn 13 .skip (.exit 0))) (.block 1 (sq (rF [m1 14 0, m1 15 7, m1 16 8, m1 17 2, o1 18 (cF 77 [t1 14,
  t1 15, t1 16, t1 17])]) (sq (rF [m1 19 8, m1 7 19]) (rF [m1 20 8, m1 21 6, o1 22 (aX .add 20 21), m1 8 22])))))
def b_z_stableCmpFunc_numbered : ACode := (sq (rF [o1 6 (mI 20)]) (sq (rF [m1 10 6, o1 7 (mI 0), m1 8 10]) (sq (.block 0 (.loop b_z_stableCmpFunc_numbered_l2)) b_z_stableCmpFunc_numbered_r1)))
abbrev k_z_stableCmpFunc_numbered_1 : List K := [.blk 4, .c b_z_stableCmpFunc_numbered_r0, .blk 3, .lp b_z_stableCmpFunc_numbered_l0, .blk 2]
abbrev k_z_stableCmpFunc_numbered_0 : List K := [.blk 2]
abbrev k_z_stableCmpFunc_numbered_2 : List K := [.blk 0, .c b_z_stableCmpFunc_numbered_r1]
abbrev f_z_stableCmpFunc_numbered := finF [] false
def c_z_stableCmpFunc_numbered : AFn := .code 3 63 b_z_stableCmpFunc_numbered [] false
-- 73
def b_z_Grow_int : ACode := (sq (rF [o1 4 (.move (.const (.slice .nilS 0 [])))]) (sq (sq (rF [m1 5 1, o1 6 (aK .lss 5 0)]) (cn 6 (rF [o1 7 (.mkIface 9 (.const (.v (.string ⟨#[99, 97, 110, 110, 111,
  116, 32, 98, 101, 32, 110, 101, 103, 97, 116, 105, 118, 101]⟩)))), ⟨none, none, (.nilCheck (.const (.v (.tuple (.mk [])))))⟩]) .skip)) (sq (sq (rF [m1 8 1, m1 9 0, o1 10 (.capz (t1 9)), m1 11 0, o1
  12 (nX 11), o1 13 (aX .sub 10 12), o1 14 (aX .sub 8 13), m1 1 14]) (sq (rF [m1 15 1, o1 16 (aK .gtr 15 0)]) (cn 16 (rF [m1 17 0, m1 18 0, o1 19 (.capz (t1 18)), o1 20 (.slice (.sl 1) (t1 17) none
  (some (t1 19)) none), m1 21 1, o1 22 (.appendz 1 [.v (.int .i64 0)] (t1 20) (t1 21)), m1 23 0, o1 24 (nX 23), o1 25 (.slice (.sl 1) (t1 22) none (some (t1 24)) none), m1 0 25]) .skip))) (sq (rF [m1
  26 0, m1 4 26]) .ret))))
abbrev f_z_Grow_int := finF [(.tmp 4)] false
def c_z_Grow_int : AFn := .code 2 27 b_z_Grow_int [(.tmp 4)] false
-- 74
def b_frame_lowest_r0 : ACode := (sq (rT [m1 18 0, m1 19 5, o1 20 (aX .quo 18 19), m1 21 1, m1 22 5, o1 23 (aX .quo 21 22), o1 24 (.build [.v (.int .i64 0), .v (.int .i64 0)] [(0, (1, (t1 20))), (1,
  (1, (t1 23)))]), sT 2 4 24]) .ret)
def b_frame_lowest_l0 : ACode := (sq (sq (rF [m1 12 6, o1 13 (aK .neq 12 0)]) (cn 13 .skip (.exit 0))) (.block 1 (rT [m1 14 6, m1 15 5, m1 16 6, o1 17 (aX .rem 15 16), m1 5 14, m1 6 17])))
def b_frame_lowest : ACode := (sq (rF [o1 4 (.alloc [.v (.int .i64 0), .v (.int .i64 0)])]) (sq (rF [m1 7 1, m1 8 0, m1 9 0, o1 10 (.un .neg (t1 9)), o1 11 (.minmax true [t1 8, t1 10]), m1 5 7, m1 6
  11]) (sq (.block 0 (.loop b_frame_lowest_l0)) b_frame_lowest_r0)))
abbrev k_frame_lowest_0 : List K := [.blk 0, .c b_frame_lowest_r0]
abbrev f_frame_lowest := finF [(.cell true 2 4)] false
def c_frame_lowest : AFn := .code 2 25 b_frame_lowest [(.cell true 2 4)] false
-- 75
def b_frame_each_int_r0 : ACode := (sq (rF [o1 4 (mI 0)]) .ret)
def b_frame_each_int_l0 : ACode := (sq (rF [o1 11 (aX .lss 10 9)]) (sq (cn 11 .skip (.exit 0)) (sq (.block 1 (sq (rF [o1 12 (iX 1 8 10), lF 13 1 12, m1 6 13]) (sq (rF [m1 14 1, m1 15 6, o1 16 (.callv
  false (t1 14) [t1 15]), m1 7 16]) (sq (rF [m1 17 7, o1 18 (aK .neq 17 0)]) (cn 18 (sq (rF [m1 19 7, m1 4 19]) .ret) .skip))))) (rF [o1 20 (aK .add 10 1), m1 10 20]))))
def b_frame_each_int : ACode := (sq (rF [o1 4 (mI 0)]) (sq (sq (rF [m1 8 0, o1 9 (nX 8), o1 10 (mI 0)]) (.block 0 (.loop b_frame_each_int_l0))) b_frame_each_int_r0))
abbrev k_frame_each_int_0 : List K := [.blk 0, .c b_frame_each_int_r0]
abbrev f_frame_each_int := finF [(.tmp 4)] false
def c_frame_each_int : AFn := .code 2 21 b_frame_each_int [(.tmp 4)] false
-- 76
def b_frame_bytesErr_1 : ACode := (sq (rF [o1 2 (mI 0)]) (sq (rF [m1 3 0, o1 4 (cF 69 [t1 3]), o1 5 (cF 22 [t1 4, i1 2]), m1 2 5]) .ret))
abbrev f_frame_bytesErr_1 := finF [(.tmp 2)] false
def c_frame_bytesErr_1 : AFn := .code 1 6 b_frame_bytesErr_1 [(.tmp 2)] false
-- 77
def b_z_insertionSortCmpFunc_numbered_r0 : ACode := (rF [m1 15 8, o1 16 (aK .add 15 1), m1 8 16])
def b_z_insertionSortCmpFunc_numbered_l1 : ACode := (sq (sq (rT [m1 18 9, m1 19 1, o1 20 (aX .gtr 18 19), m1 21 20, gT 22 21 (mX 3), gT 23 21 (mX 0), gT 24 21 (mX 9), gT 25 21 (iX 5 23 24), gT 26 21
  (lY 5 25), gT 27 21 (mX 0), gT 28 21 (mX 9), gT 29 21 (aK .sub 28 1), gT 30 21 (iX 5 27 29), gT 31 21 (lY 5 30), gT 32 21 (.callv false (t1 22) [t1 26, t1 31]), gT 33 21 (aK .lss 32 0), o1 34 (pA 21
  33)]) (cn 34 .skip (.exit 2))) (sq (.block 3 (rT [m1 37 0, m1 38 9, m1 39 0, m1 40 9, o1 41 (aK .sub 40 1), m1 42 0, m1 43 9, o1 44 (aK .sub 43 1), o1 45 (iX 5 42 44), lT 46 5 45, m1 47 0, m1 48 9,
  o1 49 (iX 5 47 48), lT 50 5 49, o1 51 (iX 5 37 38), sT 5 51 46, o1 52 (iX 5 39 41), sT 5 52 50])) (rF [m1 35 9, o1 36 (aK .sub 35 1), m1 9 36])))
def b_z_insertionSortCmpFunc_numbered_l0 : ACode := (sq (sq (rF [m1 12 8, m1 13 2, o1 14 (aX .lss 12 13)]) (cn 14 .skip (.exit 0))) (sq (.block 1 (sq (rF [m1 17 8, m1 9 17]) (.block 2 (.loop
  b_z_insertionSortCmpFunc_numbered_l1)))) b_z_insertionSortCmpFunc_numbered_r0))
def b_z_insertionSortCmpFunc_numbered : ACode := (sq (rF [m1 10 1, o1 11 (aK .add 10 1), m1 8 11]) (.block 0 (.loop b_z_insertionSortCmpFunc_numbered_l0)))
abbrev k_z_insertionSortCmpFunc_numbered_1 : List K := [.blk 2, .blk 1, .c b_z_insertionSortCmpFunc_numbered_r0, .lp b_z_insertionSortCmpFunc_numbered_l0, .blk 0]
abbrev k_z_insertionSortCmpFunc_numbered_0 : List K := [.blk 0]
abbrev f_z_insertionSortCmpFunc_numbered := finF [] false
def c_z_insertionSortCmpFunc_numbered : AFn := .code 4 53 b_z_insertionSortCmpFunc_numbered [] false

def tab : List (Option AFn) := [none, none, none, some c_t_TopFrameClockSent, some c_t_frameShown, some c_r_RulesErr, some c_r_PairsErr, some c_frame_Packed, some c_r_CopyFrame, some c_r_FramesErr,
  some c_frame_Extracted, some c_b_Within, some c_frame_PiecesOf, some c_r_CopyPairs, some c_frame_TimeAt, some c_l_Rules, some c_l_Packets, some c_l_Pairs, some c_b_Ranges, some c_r_CheckPairs, some
  c_frame_openChannel, some c_frame_first, some c_frame_unless, some c_frame_isCount, some c_frame_packetsErr, some c_frame_stream, some c_frame_link_filled, some c_z_Chunk_int, some c_z_Clone_int,
  some c_z_BinarySearch_int, some c_b_CopyInts, some c_r_FrameErr, some c_frame_openFrames, some c_frame_ordered, some c_frame_reader_read, some c_frame_CheckPairs, some c_frame_isLine, some
  c_frame_linesErr, some c_frame_within, some c_frame_chords, some c_frame_chord_at, some c_frame_floor, some c_frame_chord_den, some c_frame_open, some c_frame_link_channelErr, some
  c_frame_each_api_FramePacket, some c_frame_CheckPacket, some c_z_Clone_FramePacket, some c_slices_Chunk_int_int__1, some c_cmp_Less_int, some c_z_isNaN_int, some c_r_ChannelErr, some c_r_BytesErr,
  some c_frame_each_api_FrameFrame, some c_frame_link_frameErr, some c_z_SortStableFunc_numbered, some c_frame_ordered_1, some c_cmp_Compare_int, some c_z_CompactFunc_numbered, some c_frame_ordered_2,
  some c_frame_reader_expected, some c_frame_reader_close, some c_z_Concat_int, some c_frame_CheckPairs_1, some c_frame_rates, some c_frame_less, some c_frame_chords_1, some c_frame_chord_fits, some
  c_frame_CheckRules, some c_frame_isByte, some c_frame_bytesErr, some c_cmp_isNaN_int, some c_z_stableCmpFunc_numbered, some c_z_Grow_int, some c_frame_lowest, some c_frame_each_int, some
  c_frame_bytesErr_1, some c_z_insertionSortCmpFunc_numbered]
def AP : FuncId → Option AFn := fun f => (tab[f]?).join

end Go.Ax.Sx.Ck
