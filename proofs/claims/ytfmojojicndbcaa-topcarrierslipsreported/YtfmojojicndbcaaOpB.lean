/-
  From the executor's answer to a law's row: the arguments opened and shut.
-/
import Derived.Test.YtfmojojicndbcaaOpA
import Derived.Test.YtfmojojicndbcaaAxZ
import Derived.Test.YtfmojojicndbcaaSxA
import Derived.ProofKit
namespace Go.Ax
open Go.ChangeShapes Go.WideShapes Go.ChangeAt Go.RowKit Sx

def ArgShp (P : Program) (d : Nat) (t : TypeId) (x : AV) : Prop :=
  match P.underlying t with
  | some (.struct _) | some (.array _ _) => ∃ avs, x = .agg avs ∧ Shp P d t avs
  | _ => Shp P d t [x]

inductive ArgsShp (P : Program) (d : Nat) : List TypeId → List AV → Prop
  | nil : ArgsShp P d [] []
  | cons {t : TypeId} {ts : List TypeId} {x : AV} {xs : List AV} (h : ArgShp P d t x) (r : ArgsShp P d ts xs) : ArgsShp P d (t :: ts) (x :: xs)

section
variable {H : Type} {enc : TypeId × Value → H} {P : Program} {w : World}

theorem cells_other {v : Value} {cs : Array Value} (h : v.cells = cs) (hn : ∀ c, v ≠ .agg c) : cs.toList = [v] := by
  subst h
  cases v <;> first | rfl | exact absurd rfl (hn _)

theorem reads_agg {avs : List AV} {cs : Array Value} (h : RL w avs cs.toList) : Reads w (.agg avs) (.agg cs) :=
  .agg (by simpa using h.len.symm) (fun c hc => by
    obtain ⟨i, hi⟩ := List.getElem?_of_mem hc
    have hil := (List.getElem?_eq_some_iff.1 hi).1
    have hl := h.len
    have hcl : i < cs.toList.length := by omega
    exact (h.get i c (cs.toList[i]) hi (List.getElem?_eq_getElem hcl)).2) (fun i hi => by
    have hl := h.len
    have hcl : i < cs.toList.length := by omega
    have := (h.get i avs[i] (cs.toList[i]) (List.getElem?_eq_getElem hi) (List.getElem?_eq_getElem hcl)).1
    have e : cs.getD i Go.undef = cs.toList[i] := by
      have : i < cs.size := by simpa using hcl
      simp [Array.getD, this]
    rw [e]; exact this)

theorem open_arg {d : Nat} {r : Reach} {b0 : Nat} {t : TypeId} {v : Value} {x : DataW H} {ps : List MemPlace} (hok : okT P d t = true) (hval : Value.okWide P w r b0 t v) (h : DataW.Trod enc P w 0 (fun _ => true) true t v x ps) :
    ∃ a, Reads w a v ∧ ArgShp P d t a := by
  obtain ⟨fuel, hf⟩ := h
  obtain ⟨avs, h1, h2, h3⟩ := open_type d t fuel _ _ hok hf
  cases d with
  | zero => simp [okT] at hok
  | succ d =>
    unfold okT at hok
    cases hu : P.underlying t with
    | none => rw [hu] at hok; cases hok
    | some u =>
      rw [hu] at hok
      have key : (∀ c, v ≠ .agg c) → (P.cellsOf t = 1) → ∃ a, Reads w a v ∧ Shp P (d + 1) t [a] := by
        intro hn h1c
        have hc := cells_other (v := v) rfl hn
        rw [hc] at h1
        have hl := h1.len
        match avs, hl, h1, h3 with
        | [a], _, h1, h3 => exact ⟨a, (h1.get 0 a v rfl rfl).1, h3⟩
      cases u with
      | bool =>
        obtain ⟨a, k1, k2⟩ := key (fun c e => by subst e; simp only [Value.okWide, hu] at hval; simp [Cell.okWide, Cell.ok, hu] at hval) (by simpa using hok)
        exact ⟨a, k1, by simp only [ArgShp, hu]; exact k2⟩
      | int k =>
        obtain ⟨a, k1, k2⟩ := key (fun c e => by subst e; simp only [Value.okWide, hu] at hval; simp [Cell.okWide, Cell.ok, hu] at hval) (by simpa using hok)
        exact ⟨a, k1, by simp only [ArgShp, hu]; exact k2⟩
      | string =>
        obtain ⟨a, k1, k2⟩ := key (fun c e => by subst e; simp only [Value.okWide, hu] at hval; simp [Cell.okWide, Cell.ok, hu] at hval) (by simpa using hok)
        exact ⟨a, k1, by simp only [ArgShp, hu]; exact k2⟩
      | slice e =>
        obtain ⟨a, k1, k2⟩ := key (fun c e => by subst e; simp only [Value.okWide, hu] at hval; simp [Cell.okWide, Cell.ok, hu] at hval) (by simp only [Bool.and_eq_true, decide_eq_true_eq] at hok; exact hok.1.1)
        exact ⟨a, k1, by simp only [ArgShp, hu]; exact k2⟩
      | struct fs =>
        simp only [Value.okWide, hu] at hval
        obtain ⟨cs, rfl, _, _⟩ := hval
        exact ⟨.agg avs, reads_agg h1, by simp only [ArgShp, hu]; exact ⟨avs, rfl, h3⟩⟩
      | array n e =>
        simp only [Value.okWide, hu] at hval
        obtain ⟨cs, rfl, _, _⟩ := hval
        exact ⟨.agg avs, reads_agg h1, by simp only [ArgShp, hu]; exact ⟨avs, rfl, h3⟩⟩
      | _ => cases hok

theorem open_args {d : Nat} {r : Reach} {b0 : Nat} : ∀ {ts : List TypeId} {vs : List Value} {ds : List (DataW H)} {ps : List MemPlace}, (∀ t ∈ ts, okT P d t = true) → (∀ (j : Nat) t v, ts[j]? = some t → vs[j]? = some v → Value.okWide P w r b0 t v) →
    DataW.TrodAll enc P w 0 (fun _ => true) true ts vs ds ps → ∃ as : List AV, ArgsShp P d ts as ∧ as.length = vs.length ∧ ∀ (i : Nat) a v, as[i]? = some a → vs[i]? = some v → Reads w a v
  | [], [], [], _, _, _, _ => ⟨[], .nil, rfl, fun i a v h => by simp at h⟩
  | t :: ts, v :: vs, x :: ds, _, hok, hval, ⟨p, q, h1, h2, _⟩ => by
    obtain ⟨a, k1, k2⟩ := open_arg (hok t (List.mem_cons_self ..)) (hval 0 t v rfl rfl) h1
    obtain ⟨as, m1, m2, m3⟩ := open_args (fun t ht => hok t (List.mem_cons_of_mem _ ht)) (fun j t v h1 h2 => hval (j + 1) t v (by simpa using h1) (by simpa using h2)) h2
    exact ⟨a :: as, .cons k2 m1, by simp [m2], fun i b u hb hu => by
      cases i with
      | zero => simp at hb hu; subst hb hu; exact k1
      | succ i => simp at hb hu; exact m3 i b u hb hu⟩

theorem trodAll_len {sp : Nat → Bool} {held : Bool} {base : Nat} : ∀ {ts : List TypeId} {vs : List Value} {ds : List (DataW H)} {ps : List MemPlace}, DataW.TrodAll enc P w base sp held ts vs ds ps → ds.length = ts.length
  | [], [], [], _, _ => rfl
  | t :: ts, v :: vs, x :: ds, _, ⟨p, q, h1, h2, _⟩ => by simp [trodAll_len h2]

/-- The arguments read behind the call as they did before. -/
theorem stay_args (hl : laidOutB P = true) {W' : World} (hb : Below w.heap.size w W') {sp : Nat → Bool} : ∀ {ts : List TypeId} {vs : List Value} {ds : List (DataW H)} {ps : List MemPlace}, (∀ t ∈ ts, P.readableRec t = true ∧ t < P.types.size) →
    DataW.TrodAll enc P w 0 (fun _ => true) true ts vs ds ps → (∀ p ∈ ps, p.block < w.heap.size) → (∀ p ∈ ps, sp p.block = true) → DataW.TrodAll enc P W' 0 sp true ts vs ds ps
  | [], [], [], _, _, h, _, _ => h
  | t :: ts, v :: vs, x :: ds, _, hT, ⟨p, q, h1, h2, e⟩, hlt, hsp => by
    subst e
    have ht := hT t (List.mem_cons_self ..)
    exact ⟨p, q, WideElems.Trod_stays hl ht.1 ht.2 h1 (fun y hy => hb.same (hlt y (List.mem_append_left _ hy))) (fun y hy => hsp y (List.mem_append_left _ hy)),
      stay_args hl hb (fun t ht => hT t (List.mem_cons_of_mem _ ht)) h2 (fun y hy => hlt y (List.mem_append_right _ hy)) (fun y hy => hsp y (List.mem_append_right _ hy)), rfl⟩

theorem post_of_below {f : Func} {s : ChangeSpec} {apart fresh handsOn again : Bool} {W W' : World} {args : Array Value} {v : Value} {ds gs : List (DataW H)} {before pa pv : List MemPlace}
    (hW : DataW.Whole enc P f.params.toList s.vars apart W args.toList ds gs before)
    (hres : ∀ (b : Nat) (sp : Nat → Bool) (hd : Bool), DataW.TrodAll enc P W' b sp hd f.resultTypes.toList (v.resultList f.resultTypes.size) (s.fn H (ds ++ gs)).results [])
    (hargs : ∀ sp : Nat → Bool, (∀ p ∈ before, sp p.block = true) → DataW.TrodAll enc P W' 0 sp true f.params.toList args.toList (s.fn H (ds ++ gs)).args pa)
    (hvars : ∀ sp : Nat → Bool, (∀ p ∈ before, sp p.block = true) → DataW.TrodVars enc P W' sp s.vars (s.fn H (ds ++ gs)).vars pv)
    (hps : before = pa ++ pv) (hb : Below W.heap.size W W')
    (hok : ∀ (j : Nat) (t : TypeId) (r : Value), f.resultTypes[j]? = some t → (v.resultList f.resultTypes.size)[j]? = some r → Value.okWide P W' .any 0 t r) :
    s.post enc P f apart fresh handsOn again W args v W' := by
  have hlt : ∀ p ∈ before, p.block < W.heap.size := fun p hp => hW.lt p hp
  have hold : ∀ p ∈ before, (fun b => decide (b < W.heap.size)) p.block = true := fun p hp => by simpa using hlt p hp
  refine ⟨ds, gs, before, [], pa, pv, hW, hres _ _ _, hargs _ hold, hvars _ hold, World.keptBut_mono (fun p hp => ⟨hp, ?_⟩) (hb.frame (· ∈ before)), fun _ => ?_⟩
  · rw [hps, List.mem_append] at hp
    exact Or.inr hp
  · obtain ⟨_, _, _, _, _, hz, hn⟩ := hW
    refine ⟨hok, _, _, ([] ++ pa) ++ pv, ⟨[] ++ pa, pv, trodAll_append (hargs _ (fun _ _ => rfl)) (hres _ _ _), hvars _ (fun _ _ => rfl), rfl, ?_, ?_⟩, ?_⟩
    · intro b off hp
      have hin : MemPlace.cell b off ∈ before := by rw [hps]; simpa using hp
      rw [hb.frozen (hlt _ hin)]
      exact hz b off hin
    · intro ha
      have := hn ha
      rw [hps] at this
      simpa using this
    · intro p hp _
      rw [hps]
      simpa using hp

/-- A law that the executor finds true. -/
def LawOk (P : Program) (AP : FuncId → Option AFn) (f : FuncId) (d : Nat) (ts : List TypeId) : Prop :=
  ∀ (as : List AV) (s : Sig), Ok s → ArgsShp P d ts as → callL AP (.fn f) as s = some (.v (.bool true), s)

theorem law_calls {AP : FuncId → Option AFn} (hp : ProgOk P AP) {f : FuncId} {d : Nat} {ts : List TypeId} (hlaw : LawOk P AP f d ts) {args : Array Value} {ds : List (DataW H)} {ps : List MemPlace} {r : Reach} {b0 : Nat} (hok : ∀ t ∈ ts, okT P d t = true)
    (hval : ∀ (j : Nat) t v, ts[j]? = some t → args.toList[j]? = some v → Value.okWide P w r b0 t v) (hA : DataW.TrodAll enc P w 0 (fun _ => true) true ts args.toList ds ps) :
    Calls P f args w fun e w' => e = .returned (.bool true) ∧ Below w.heap.size w w' := by
  obtain ⟨as, h1, h2, h3⟩ := open_args hok hval hA
  obtain ⟨n, hn⟩ := callL_iff.1 (hlaw as startS ⟨Nat.le_refl _, Nat.le_refl _⟩ h1)
  refine run_sound hp (by simpa using h2.symm) (fun i hi => ?_) hn
  have hi' : i < args.toList.length := by omega
  have e : args.getD i Go.undef = args.toList[i] := by
    have : i < args.size := by simpa using hi'
    simp [Array.getD, this]
  rw [e]
  exact h3 i as[i] args.toList[i] (List.getElem?_eq_getElem hi) (List.getElem?_eq_getElem hi')
end
end Go.Ax
