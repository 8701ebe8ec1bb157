/-
  What the abstract executor's states say of a world: the relation, and how it is kept.
-/
import Derived.Test.YtfmojojicndbcaaAxB
import Derived.RangeFuncLeaves
import Derived.RangeFuncRecord
import Derived.Below
namespace Go.Ax
open Go.RowKit

abbrev IMap := Nat → Nat → Option Value

def plain : Value → Bool
  | .bool _ | .int _ _ | .string _ | .pointer none | .nilFunc | .nilIface => true
  | _ => false

inductive RelC (I : IMap) : AV → Value → Prop
  | v {x : Value} (h : plain x = true) : RelC I (.v x) x
  | nilS {es : Nat} : RelC I (.slice .nilS es []) (.slice none 0 0)
  | slice {o : Own} {es : Nat} {xs : List (List AV)} {blk off cap : Nat} (f : Nat → Nat → Value)
      (ho : o = .any ∨ (o = .full ∧ cap = xs.length)) (hc : xs.length ≤ cap) (hes : ∀ r, r ∈ xs → r.length = es)
      (hcell : ∀ r, r ∈ xs → ∀ c, c ∈ r → c.isCell = true)
      (hI : ∀ i (hi : i < xs.length) j (_ : j < xs[i].length), I blk (off + i * es + j) = some (f i j))
      (hR : ∀ i (hi : i < xs.length) j (hj : j < xs[i].length), RelC I (xs[i][j]) (f i j)) :
      RelC I (.slice o es xs) (.slice (some ⟨blk, off, none⟩) xs.length cap)
  | empty {o : Own} {es : Nat} {a : Addr} (ho : o = .any ∨ o = .full) : RelC I (.slice o es []) (.slice (some a) 0 0)
  | eptr {cs : List AV} {off blk o0 : Nat} (f : Nat → Value) (hcell : ∀ c, c ∈ cs → c.isCell = true)
      (hI : ∀ i, i < cs.length → I blk (o0 + i) = some (f i))
      (hR : ∀ i (hi : i < cs.length), RelC I cs[i] (f i)) : RelC I (.eptr cs off) (.pointer (some ⟨blk, o0 + off, none⟩))
  | iface {t : TypeId} {x : AV} {y : Value} (h : RelC I x y) : RelC I (.iface t x) (.iface t y)
  | agg {cs : List AV} {arr : Array Value} (hl : arr.size = cs.length) (hcell : ∀ c, c ∈ cs → c.isCell = true)
      (hR : ∀ i (hi : i < cs.length), RelC I cs[i] (arr.getD i Go.undef)) : RelC I (.agg cs) (.agg arr)
  | fn {f : FuncId} {first caps : List AV} {a1 a2 : Array Value} (l1 : a1.size = first.length) (l2 : a2.size = caps.length)
      (r1 : ∀ i (hi : i < first.length), RelC I first[i] (a1.getD i Go.undef))
      (r2 : ∀ i (hi : i < caps.length), RelC I caps[i] (a2.getD i Go.undef)) : RelC I (.fn f first caps) (.func (.func f) a1 a2)

structure TokG where
  n : Option Nat
  blk : Nat
  cap : Nat
  es : Nat

structure GRec where
  bl : List Nat
  tk : List TokG
  nl : Nat
  marks : List Nat

inductive Owner where
  | box (d b : Nat)
  | tok (d g : Nat)
  | loop (l : Nat)
  | mark (d i : Nat)

structure Ghost where
  I : IMap
  acts : List GRec
  loops : List Nat
  own : Nat → Option Owner

inductive Rel (G : Ghost) (k nl : Nat) : AV → Value → Prop
  | cl {x : AV} {y : Value} (h : RelC G.I x y) : Rel G k nl x y
  | undef : Rel G k nl AV.undef Go.undef
  | tok {d g es : Nat} {xs : List (List AV)} {a : Addr} {cap : Nat} (T : TokG) (gr : GRec) (hd : d ≤ k) (hg : G.acts[d]? = some gr) (ht : gr.tk[g]? = some T)
      (hes : T.es = es) (hc : RelC G.I (.slice .any es xs) (.slice (some a) xs.length cap))
      (hn : ∀ n, T.n = some n → xs.length ≤ n ∧ (xs.length = n → a = ⟨T.blk, 0, none⟩ ∧ cap = T.cap)) :
      Rel G k nl (.slice (.tok d g) es xs) (.slice (some a) xs.length cap)
  | ptr {d b off blk : Nat} (gr : GRec) (hd : d ≤ k) (hg : G.acts[d]? = some gr) (hb : gr.bl[b]? = some blk) :
      Rel G k nl (.ptr d b off) (.pointer (some ⟨blk, off, none⟩))
  | rsl {d b off es n cap blk : Nat} (gr : GRec) (hd : d ≤ k) (hg : G.acts[d]? = some gr) (hb : gr.bl[b]? = some blk) (hn : n ≤ cap) :
      Rel G k nl (.rsl d b off es n cap) (.slice (some ⟨blk, off, none⟩) n cap)
  | yield {l r : Nat} (hl : l < nl) (h : G.loops[l]? = some r) : Rel G k nl (.yield l) (.func (.yield r) #[] #[])
  | agg {cs : List AV} {arr : Array Value} (hl : arr.size = cs.length) (hcell : ∀ c, c ∈ cs → c.isCell = true)
      (hR : ∀ i (hi : i < cs.length), Rel G k nl cs[i] (arr.getD i Go.undef)) : Rel G k nl (.agg cs) (.agg arr)
  | tuple {vs : List AV} {arr : Array Value} (hl : arr.size = vs.length)
      (hR : ∀ i (hi : i < vs.length), Rel G k nl vs[i] (arr.getD i Go.undef)) : Rel G k nl (.tuple vs) (.tuple arr)
  | fn {f : FuncId} {first caps : List AV} {a1 a2 : Array Value} (l1 : a1.size = first.length) (l2 : a2.size = caps.length)
      (r1 : ∀ i (hi : i < first.length), RelC G.I first[i] (a1.getD i Go.undef))
      (r2 : ∀ i (hi : i < caps.length), Rel G k nl caps[i] (a2.getD i Go.undef)) : Rel G k nl (.fn f first caps) (.func (.func f) a1 a2)

def TokLe (T T' : TokG) : Prop := T'.es = T.es ∧ (T' = T ∨ T'.n = none ∨ ∃ n n', T.n = some n ∧ T'.n = some n' ∧ n < n')

theorem TokLe.refl (T : TokG) : TokLe T T := ⟨rfl, .inl rfl⟩
theorem TokLe.trans {T T' T'' : TokG} (h : TokLe T T') (h' : TokLe T' T'') : TokLe T T'' := by
  obtain ⟨e, h⟩ := h
  obtain ⟨e', h'⟩ := h'
  refine ⟨e'.trans e, ?_⟩
  rcases h' with rfl | h' | ⟨n, n', h1, h2, h3⟩
  · exact h
  · exact .inr (.inl h')
  · rcases h with rfl | h | ⟨m, m', h4, h5, h6⟩
    · exact .inr (.inr ⟨n, n', h1, h2, h3⟩)
    · rw [h] at h1; cases h1
    · rw [h5] at h1
      injection h1 with h1
      exact .inr (.inr ⟨m, n', h4, h2, by omega⟩)

structure RecLe (gr gr' : GRec) : Prop where
  bl : ∀ (b blk : Nat), gr.bl[b]? = some blk → gr'.bl[b]? = some blk
  tk : ∀ (g : Nat) (T : TokG), gr.tk[g]? = some T → ∃ T', gr'.tk[g]? = some T' ∧ TokLe T T'
  nl : gr'.nl = gr.nl

theorem RecLe.refl (gr : GRec) : RecLe gr gr := ⟨fun _ _ h => h, fun _ T h => ⟨T, h, .refl T⟩, rfl⟩
theorem RecLe.trans {a b c : GRec} (h : RecLe a b) (k : RecLe b c) : RecLe a c :=
  ⟨fun i x e => k.bl i x (h.bl i x e), fun g T e => let ⟨T', e', l'⟩ := h.tk g T e; let ⟨T'', e'', l''⟩ := k.tk g T' e'; ⟨T'', e'', l'.trans l''⟩, k.nl.trans h.nl⟩

structure GLe (k nl : Nat) (G G' : Ghost) : Prop where
  I : ∀ b i v, G.I b i = some v → G'.I b i = some v
  acts : ∀ (d : Nat) (gr : GRec), d ≤ k → G.acts[d]? = some gr → ∃ gr', G'.acts[d]? = some gr' ∧ RecLe gr gr' ∧ (d < k → gr'.marks = gr.marks)
  loops : ∀ (l r : Nat), l < nl → G.loops[l]? = some r → G'.loops[l]? = some r

theorem GLe.refl (k nl : Nat) (G : Ghost) : GLe k nl G G := ⟨fun _ _ _ h => h, fun _ gr _ h => ⟨gr, h, .refl gr, fun _ => rfl⟩, fun _ _ _ h => h⟩
theorem GLe.trans {k nl : Nat} {a b c : Ghost} (h : GLe k nl a b) (h' : GLe k nl b c) : GLe k nl a c :=
  ⟨fun i j v e => h'.I i j v (h.I i j v e), fun d gr hd e => let ⟨gr', e', l', m'⟩ := h.acts d gr hd e; let ⟨gr'', e'', l'', m''⟩ := h'.acts d gr' hd e'; ⟨gr'', e'', l'.trans l'', fun hlt => (m'' hlt).trans (m' hlt)⟩,
   fun l r hl e => h'.loops l r hl (h.loops l r hl e)⟩
theorem GLe.less {k nl k' nl' : Nat} {G G' : Ghost} (h : GLe k nl G G') (hk : k' ≤ k) (hl : nl' ≤ nl) : GLe k' nl' G G' :=
  ⟨h.I, fun d gr hd e => let ⟨gr', e', l', m'⟩ := h.acts d gr (by omega) e; ⟨gr', e', l', fun hlt => m' (by omega)⟩, fun l r hlt e => h.loops l r (by omega) e⟩

theorem RelC.mono {I I' : IMap} (hI : ∀ b i v, I b i = some v → I' b i = some v) {x : AV} {y : Value} (h : RelC I x y) : RelC I' x y := by
  induction h with
  | v h => exact .v h
  | nilS => exact .nilS
  | slice f ho hc hes hcell h1 _ ih => exact .slice f ho hc hes hcell (fun i hi j hj => hI _ _ _ (h1 i hi j hj)) ih
  | empty ho => exact .empty ho
  | eptr f hcell h1 _ ih => exact .eptr f hcell (fun i hi => hI _ _ _ (h1 i hi)) ih
  | iface _ ih => exact .iface ih
  | agg hl hcell _ ih => exact .agg hl hcell ih
  | fn l1 l2 _ _ ih1 ih2 => exact .fn l1 l2 ih1 ih2

theorem Rel.mono {G G' : Ghost} {k nl k' nl' : Nat} (h : GLe k nl G G') (hk : k ≤ k') (hl : nl ≤ nl') {x : AV} {y : Value} (r : Rel G k nl x y) : Rel G' k' nl' x y := by
  induction r with
  | cl hc => exact .cl (hc.mono h.I)
  | undef => exact .undef
  | tok T gr hd hg ht hes hc hn =>
    obtain ⟨gr', hg', hle, _⟩ := h.acts _ _ hd hg
    obtain ⟨T', ht', he, hT⟩ := hle.tk _ _ ht
    refine .tok T' gr' (by omega) hg' ht' (he.trans hes) (hc.mono h.I) (fun n hn' => ?_)
    rcases hT with rfl | hT | ⟨m, m', h1, h2, h3⟩
    · exact hn n hn'
    · rw [hT] at hn'; cases hn'
    · rw [h2] at hn'
      injection hn' with hn'
      have := (hn m h1).1
      exact ⟨by omega, fun e => by omega⟩
  | ptr gr hd hg hb =>
    obtain ⟨gr', hg', hle, _⟩ := h.acts _ _ hd hg
    exact .ptr gr' (by omega) hg' (hle.bl _ _ hb)
  | rsl gr hd hg hb hn =>
    obtain ⟨gr', hg', hle, _⟩ := h.acts _ _ hd hg
    exact .rsl gr' (by omega) hg' (hle.bl _ _ hb) hn
  | yield hlt he => exact .yield (by omega) (h.loops _ _ hlt he)
  | agg hl' hcell _ ih => exact .agg hl' hcell ih
  | tuple hl' _ ih => exact .tuple hl' ih
  | fn l1 l2 r1 _ ih => exact .fn l1 l2 (fun i hi => (r1 i hi).mono h.I) ih

/-! ### The relation of a state to a world -/

def BoxRel (B0 : Nat) (G : Ghost) (d nl b : Nat) (cs : List AV) (blk : Nat) (w : World) : Prop :=
  B0 ≤ blk ∧ G.own blk = some (.box d b) ∧ (∀ i, G.I blk i = none) ∧
    ∃ arr ty, w.heap[blk]? = some (.cells arr ty) ∧ arr.size = cs.length ∧ ∀ i (hi : i < cs.length), cs[i].isCell = true ∧ Rel G d nl cs[i] (arr.getD i Go.undef)

def TokRel (B0 : Nat) (G : Ghost) (d g : Nat) (n : Option Nat) (T : TokG) (w : World) : Prop :=
  T.n = n ∧ ∀ m, n = some m → B0 ≤ T.blk ∧ G.own T.blk = some (.tok d g) ∧ (∀ i, m * T.es ≤ i → G.I T.blk i = none) ∧
    m ≤ T.cap ∧ 0 < T.es ∧ ∃ arr ty, w.heap[T.blk]? = some (.cells arr ty) ∧ arr.size = T.cap * T.es

def MarkRel (B0 : Nat) (G : Ghost) (d i b : Nat) (w : World) : Prop :=
  B0 ≤ b ∧ G.own b = some (.mark d i) ∧ w.heap[b]? = some (.deferred (some []))

structure RecRel (B0 : Nat) (G : Ghost) (d : Nat) (r : Rec) (gr : GRec) (w : World) : Prop where
  blen : gr.bl.length = r.boxes.length
  tlen : gr.tk.length = r.toks.length
  box : ∀ (b : Nat) (cs : List AV) (blk : Nat), r.boxes[b]? = some cs → gr.bl[b]? = some blk → BoxRel B0 G d gr.nl b cs blk w
  tok : ∀ (g : Nat) (n : Option Nat) (T : TokG), r.toks[g]? = some n → gr.tk[g]? = some T → TokRel B0 G d g n T w
  mark : ∀ (i b : Nat), gr.marks[i]? = some b → MarkRel B0 G d i b w

def exitCode : AExit → Option Code
  | .normal => none
  | .exit id => some (.exit id)
  | .ret => some .ret

def LoopObj (P : Program) (G : Ghost) (l : Nat) (lp : ALoop) (rc : Loop) : Prop :=
  (lp.ready = true → rc.state = .ready ∧ lp.pend = none) ∧
    (lp.ready = false → rc.state = (if lp.pend.isSome then .done else .busy)) ∧ rc.pending = lp.pend.bind exitCode ∧ lp.pend ≠ some .normal ∧
    rc.params.toList = lp.params ∧ comp P rc.assign = some lp.assign ∧ comp P rc.body = some lp.body ∧ tmpsOk rc.tmps.size lp.assign = true ∧ tmpsOk rc.tmps.size lp.body = true ∧
    (∀ p, p ∈ lp.params → p < rc.tmps.size) ∧
    ∃ k nl, k + 1 ≤ G.acts.length ∧ nl ≤ l ∧ (∀ d gr, G.acts[d]? = some gr → l < gr.nl → k < d) ∧ ∀ t, Rel G k nl (lp.tmps t) (rc.tmps.getD t Go.undef)

def LoopRel (P : Program) (B0 : Nat) (G : Ghost) (l : Nat) (lp : ALoop) (r : Nat) (w : World) : Prop :=
  B0 ≤ r ∧ G.own r = some (.loop l) ∧ ∃ rc : Loop, w.heap[r]? = some (.loop rc) ∧ LoopObj P G l lp rc

structure SRel (P : Program) (B0 : Nat) (w0 : World) (G : Ghost) (s : Sig) (w : World) : Prop where
  imm : ∀ (b i : Nat) (v : Value), G.I b i = some v → w.cell? ⟨b, i, none⟩ = some v
  len : G.acts.length = s.acts.length
  llen : G.loops.length = s.loops.length
  rec_ : ∀ (d : Nat) (r : Rec) (gr : GRec), s.acts[d]? = some r → G.acts[d]? = some gr → RecRel B0 G d r gr w
  loop : ∀ (l : Nat) (lp : ALoop) (r : Nat), s.loops[l]? = some lp → G.loops[l]? = some r → LoopRel P B0 G l lp r w
  nls : ∀ (d : Nat) (gr : GRec), G.acts[d]? = some gr → gr.nl ≤ s.loops.length
  nlm : ∀ (d d' : Nat) (gr gr' : GRec), d ≤ d' → G.acts[d]? = some gr → G.acts[d']? = some gr' → gr.nl ≤ gr'.nl
  below : Below B0 w0 w
  low : B0 ≤ w.heap.size
  ownlt : ∀ (b : Nat) (o : Owner), G.own b = some o → b < w.heap.size

/-! ### Keeping it -/
section
variable {P : Program} {B0 : Nat} {w0 : World} {G G' : Ghost} {w w' : World}

theorem BoxRel.keep {d nl b blk : Nat} {cs : List AV} (h : BoxRel B0 G d nl b cs blk w) (hle : GLe d nl G G') (ho : G'.own blk = some (.box d b)) (hh : w'.heap[blk]? = w.heap[blk]?)
    (hI : ∀ i, G.I blk i = none → G'.I blk i = none) : BoxRel B0 G' d nl b cs blk w' := by
  obtain ⟨h1, _, h3, arr, ty, h4, h5, h6⟩ := h
  exact ⟨h1, ho, fun i => hI i (h3 i), arr, ty, hh.trans h4, h5, fun i hi => ⟨(h6 i hi).1, (h6 i hi).2.mono hle (Nat.le_refl _) (Nat.le_refl _)⟩⟩

theorem TokRel.keep {d g : Nat} {n : Option Nat} {T : TokG} (h : TokRel B0 G d g n T w) (ho : n.isSome → G'.own T.blk = some (.tok d g)) (hh : n.isSome → w'.heap[T.blk]? = w.heap[T.blk]?)
    (hI : n.isSome → ∀ i, G.I T.blk i = none → G'.I T.blk i = none) : TokRel B0 G' d g n T w' := by
  obtain ⟨h1, h2⟩ := h
  refine ⟨h1, fun m hm => ?_⟩
  have hs : n.isSome = true := by rw [hm]; rfl
  obtain ⟨a1, _, a3, a4, a5, arr, ty, a6, a7⟩ := h2 m hm
  exact ⟨a1, ho hs, fun i hi => hI hs i (a3 i hi), a4, a5, arr, ty, (hh hs).trans a6, a7⟩

theorem MarkRel.keep {d i b : Nat} (h : MarkRel B0 G d i b w) (ho : G'.own b = some (.mark d i)) (hh : w'.heap[b]? = w.heap[b]?) : MarkRel B0 G' d i b w' :=
  ⟨h.1, ho, hh.trans h.2.2⟩

theorem LoopObj.keep {l : Nat} {lp : ALoop} {rc : Loop} (h : LoopObj P G l lp rc) (hle : ∀ k nl, k + 1 ≤ G.acts.length → nl ≤ l → GLe k nl G G') (hlen : G.acts.length ≤ G'.acts.length) : LoopObj P G' l lp rc := by
  obtain ⟨a1, a2, a3, a4, a5, a6, a7, a8, a9, a10, k, nl, a11, a12, a14, a13⟩ := h
  refine ⟨a1, a2, a3, a4, a5, a6, a7, a8, a9, a10, k, nl, by omega, a12, fun d gr' hg hl => ?_, fun t => (a13 t).mono (hle k nl a11 a12) (Nat.le_refl _) (Nat.le_refl _)⟩
  by_cases hd : d < G.acts.length
  · obtain ⟨gr'', e, hr, _⟩ := (hle d 0 hd (Nat.zero_le _)).acts d _ (Nat.le_refl _) (List.getElem?_eq_getElem hd)
    rw [hg] at e
    injection e with e
    exact a14 d _ (List.getElem?_eq_getElem hd) (by rw [← hr.nl, ← e]; exact hl)
  · omega

theorem LoopRel.keep {l r : Nat} {lp : ALoop} (h : LoopRel P B0 G l lp r w) (hle : ∀ k nl, k + 1 ≤ G.acts.length → nl ≤ l → GLe k nl G G') (hlen : G.acts.length ≤ G'.acts.length)
    (ho : G'.own r = some (.loop l)) (hh : w'.heap[r]? = w.heap[r]?) : LoopRel P B0 G' l lp r w' := by
  obtain ⟨h1, _, rc, h3, h4⟩ := h
  exact ⟨h1, ho, rc, hh.trans h3, h4.keep hle hlen⟩

/-- Whoever owns a block owns it still, and it is as it was. -/
def KeepsOwn (X : Owner → Prop) (G : Ghost) (w : World) (G' : Ghost) (w' : World) : Prop :=
  ∀ b o, G.own b = some o → ¬ X o → G'.own b = some o ∧ w'.heap[b]? = w.heap[b]? ∧ ∀ i, G.I b i = none → G'.I b i = none

theorem RecRel.keep {X : Owner → Prop} {d : Nat} {r : Rec} {gr : GRec} (h : RecRel B0 G d r gr w) (hle : GLe d gr.nl G G') (hk : KeepsOwn X G w G' w')
    (hX : ∀ o, X o → (∀ b, o ≠ .box d b) ∧ (∀ g, o ≠ .tok d g) ∧ ∀ i, o ≠ .mark d i) : RecRel B0 G' d r gr w' := by
  refine ⟨h.blen, h.tlen, fun b cs blk h1 h2 => ?_, fun g n T h1 h2 => ?_, fun i b h1 => ?_⟩
  · have hb := h.box b cs blk h1 h2
    obtain ⟨k1, k2, k3⟩ := hk _ _ hb.2.1 (fun hx => (hX _ hx).1 b rfl)
    exact hb.keep hle k1 k2 k3
  · have ht := h.tok g n T h1 h2
    have hs : ∀ (hn : n.isSome = true), G'.own T.blk = some (.tok d g) ∧ w'.heap[T.blk]? = w.heap[T.blk]? ∧ ∀ i, G.I T.blk i = none → G'.I T.blk i = none := fun hn => by
      obtain ⟨m, hm⟩ := Option.isSome_iff_exists.1 hn
      exact hk _ _ (ht.2 m hm).2.1 (fun hx => (hX _ hx).2.1 g rfl)
    exact ht.keep (fun hn => (hs hn).1) (fun hn => (hs hn).2.1) (fun hn => (hs hn).2.2)
  · have hm := h.mark i b h1
    obtain ⟨k1, k2, _⟩ := hk _ _ hm.2.1 (fun hx => (hX _ hx).2.2 i rfl)
    exact hm.keep k1 k2

/-- A step that touches nobody's block. -/
theorem SRel.keep {s : Sig} (h : SRel P B0 w0 G s w) (hI : ∀ b i v, G.I b i = some v → G'.I b i = some v) (ha : G'.acts = G.acts) (hl : G'.loops = G.loops)
    (hk : KeepsOwn (fun _ => False) G w G' w') (him : ∀ b i v, G'.I b i = some v → w'.cell? ⟨b, i, none⟩ = some v) (hb : Below B0 w w')
    (hol : ∀ b o, G'.own b = some o → b < w'.heap.size) : SRel P B0 w0 G' s w' := by
  have hle : ∀ k nl, GLe k nl G G' := fun k nl => ⟨hI, fun d gr _ e => ⟨gr, by rw [ha]; exact e, .refl gr, fun _ => rfl⟩, fun l r _ e => by rw [hl]; exact e⟩
  refine ⟨him, by rw [ha]; exact h.len, by rw [hl]; exact h.llen, fun d r gr h1 h2 => ?_, fun l lp r h1 h2 => ?_, fun d gr h1 => h.nls d gr (by rw [← ha]; exact h1), by rw [ha]; exact h.nlm, h.below.trans hb, Nat.le_trans h.low hb.size, hol⟩
  · rw [ha] at h2
    exact (h.rec_ d r gr h1 h2).keep (hle _ _) hk (fun o ho => ho.elim)
  · rw [hl] at h2
    have hr := h.loop l lp r h1 h2
    obtain ⟨k1, k2, _⟩ := hk _ _ hr.2.1 (fun hx => hx)
    exact hr.keep (fun k nl _ _ => hle k nl) (by rw [ha]; exact Nat.le_refl _) k1 k2

theorem SRel.drew {s : Sig} (h : SRel P B0 w0 G s w) : SRel P B0 w0 G s w.drew :=
  h.keep (fun _ _ _ e => e) rfl rfl (fun _ _ e _ => ⟨e, rfl, fun _ h => h⟩) (fun b i v e => h.imm b i v e) ((Below.refl _ _).drew) h.ownlt

theorem SRel.I_lt {s : Sig} (h : SRel P B0 w0 G s w) {b i : Nat} {v : Value} (e : G.I b i = some v) : b < w.heap.size :=
  World.block_lt_of_cell? _ _ (h.imm b i v e)

theorem SRel.I_new {s : Sig} (h : SRel P B0 w0 G s w) (i : Nat) : G.I w.heap.size i = none := by
  cases e : G.I w.heap.size i with
  | none => rfl
  | some v => have := h.I_lt e; omega

theorem SRel.own_new {s : Sig} (h : SRel P B0 w0 G s w) : G.own w.heap.size = none := by
  cases e : G.own w.heap.size with
  | none => rfl
  | some v => have := h.ownlt _ _ e; omega

/-- The new cells of a block that nobody will write to. -/
def Ghost.addI (G : Ghost) (b : Nat) (arr : Array Value) : Ghost := { G with I := fun c i => if c = b then arr[i]? else G.I c i }

theorem Ghost.addI_le (G : Ghost) (b : Nat) (arr : Array Value) (hn : ∀ i, G.I b i = none) (k nl : Nat) : GLe k nl G (G.addI b arr) :=
  ⟨fun c i v e => by
    simp only [Ghost.addI]
    split
    · rename_i hc; subst hc; rw [hn] at e; cases e
    · exact e, fun d gr _ e => ⟨gr, e, .refl gr, fun _ => rfl⟩, fun _ _ _ e => e⟩

/-- A new block that is only read from here on. -/
theorem SRel.allocI {s : Sig} (h : SRel P B0 w0 G s w) (arr : Array Value) (ty : TypeId) (fz : Nat × Nat) : SRel P B0 w0 (G.addI w.heap.size arr) s (w.alloc (.cells arr ty fz)) := by
  have hle := G.addI_le w.heap.size arr h.I_new 0 0
  refine h.keep hle.I rfl rfl (fun b o e _ => ⟨e, Below.heap_alloc _ _ _ (h.ownlt _ _ e), fun i hi => ?_⟩) (fun b i v e => ?_) ((Below.refl _ _).alloc h.low _) (fun b o e => ?_)
  · simp only [Ghost.addI]
    rw [if_neg (by have := h.ownlt _ _ e; omega)]
    exact hi
  · simp only [Ghost.addI] at e
    split at e
    · rename_i hb
      subst hb
      have hn : (w.alloc (.cells arr ty fz)).heap[w.heap.size]? = some (.cells arr ty fz) := World.alloc_heap_new w _
      simp only [World.cell?, hn]
      exact e
    · have := h.imm b i v e
      rw [World.cell?_alloc_old _ _ _ (by rename_i hb; exact hb)]
      exact this
  · have := h.ownlt b o e
    simp; omega

end

end Go.Ax
