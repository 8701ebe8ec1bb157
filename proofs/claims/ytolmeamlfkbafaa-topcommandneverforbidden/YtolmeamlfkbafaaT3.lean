/-
  append to a slice whose elements may be written to: a box that takes another's place.
-/
import Derived.Test.YtolmeamlfkbafaaT2
import Derived.Laws.IdiomCopy
import Derived.Laws.StructEq
import Derived.Laws.IdiomStrings
import Derived.Laws.BytesString
import Derived.Laws.Slices
namespace Go.Ax
open Go.RowKit
section
variable {P : Program} {B0 : Nat} {w0 : World} {G : Ghost} {k nl : Nat} {w : World} {s : Sig}
theorem At.drew (h : At P B0 w0 G k nl s w) : At P B0 w0 G k nl s w.drew := ⟨h.rel.drew, h.len, h.cur⟩
theorem flatten_get {α : Type} {es : Nat} (h0 : 0 < es) : ∀ {ys : List (List α)}, (∀ r, r ∈ ys → r.length = es) → ys.flatten.length = ys.length * es ∧ ∀ c (hc : c < ys.flatten.length), ∃ (h1 : c / es < ys.length) (h2 : c % es < (ys[c / es]).length), ys.flatten[c] = ys[c / es][c % es]
 | [], _ => ⟨by simp, fun c hc => by simp at hc⟩
 | r :: ys, h => by
  have hr := h r (by simp)
  obtain ⟨e1, e2⟩ := flatten_get h0 (ys := ys) fun q hq => h q (List.mem_cons_of_mem _ hq)
  refine ⟨by rw [List.flatten_cons, List.length_append, e1, hr, List.length_cons, Nat.add_mul]; omega, fun c hc => ?_⟩
  by_cases hlt : c < es
  ·have d1 : c / es = 0 := Nat.div_eq_of_lt hlt
   have d2 : c % es = c := Nat.mod_eq_of_lt hlt
   refine ⟨by rw [d1]; simp, by simp only [d1, d2, List.getElem_cons_zero]; omega, ?_⟩
   simp only [d1, d2, List.getElem_cons_zero, List.flatten_cons]
   rw [List.getElem_append_left (by omega)]
  ·have hge : es ≤ c := by omega
   have d1 : c / es = (c - es) / es + 1 := by rw [Nat.div_eq_sub_div h0 hge]
   have d2 : c % es = (c - es) % es := by rw [Nat.mod_eq_sub_mod hge]
   have hc' : c - es < ys.flatten.length := by
    rw [List.flatten_cons, List.length_append, hr] at hc
    omega
   obtain ⟨g1, g2, g3⟩ := e2 (c - es) hc'
   refine ⟨by rw [d1]; simp; exact g1, by simp only [d1, d2, List.getElem_cons_succ]; exact g2, ?_⟩
   simp only [d1, d2, List.getElem_cons_succ, List.flatten_cons]
   rw [List.getElem_append_right (by omega)]
   simp only [hr]
   exact g3
theorem regrowAt_sound (h : At P B0 w0 G k nl s w) {d b es n rc : Nat} {cs ds : List AV} {r : Rec} {gr : GRec} {blk blk' : Nat} {arr' : Array Value} {ty' : TypeId} {w' : World} (hd : d ≤ k) (hr : s.acts[d]? = some r) (hg : G.acts[d]? = some gr)
  (hb : r.boxes[b]? = some cs) (hbl : gr.bl[b]? = some (some blk)) (hcs : cs ≠ []) (hne : ds ≠ []) (hcell : ∀ c, c ∈ ds → c.isCell = true) (hR : RowLe (Rel G d gr.nl) ds arr') (hw : w'.heap[blk']? = some (.cells arr' ty'))
  (hold : ∀ c, c < w.heap.size → c ≠ blk' → w'.heap[c]? = w.heap[c]?) (hnew : blk' = blk ∨ blk' = w.heap.size) (hbelow : Below B0 w w') (hsz : w.heap.size ≤ w'.heap.size) (hsize : arr'.size = rc * es) (hn : n ≤ rc) :
  StepTo P B0 w0 G k nl s (s.regrowAt d b ds) w' (.rsl d (s.nbox d) 0 es n 0) (.slice (some ⟨blk', 0, none⟩) n rc) := by
 have hrr := h.rel.rec_ d r gr hr hg
 have hbx := hrr.box b cs blk hb hbl
 obtain ⟨b1, ⟨x0, b2, b2'⟩, b3, arr0, ty0, b4, _⟩ := hbx
 have hx0 := b2' hcs
 have b3 := b3 hcs
 subst hx0
 have hblk := h.rel.ownlt _ _ b2
 have hlt' : blk' < w'.heap.size := by
  rcases hnew with e | e
  ·omega
  ·rw [e]
   apply Classical.byContradiction
   intro hc
   rw [e] at hw
   have := (Array.getElem?_eq_some_iff.1 hw).1
   omega
 have hI' : ∀ i, G.I blk' i = none := by
  rcases hnew with e | e
  ·rw [e]; exact b3
  ·rw [e]; exact h.rel.I_new
 have hB : B0 ≤ blk' := by
  rcases hnew with e | e
  ·rw [e]; exact b1
  ·rw [e]; exact h.rel.low
 have hbnd : x0 < r.boxes.length := (List.getElem?_eq_some_iff.1 hb).1
 let T : TokG := ⟨none, 0, 0, 0⟩
 let gf : GRec → GRec := fun q => { q with bl := q.bl ++ [some blk'], tk := q.tk ++ [T], gs := fun j => if j = r.boxes.length then some (rc * es) else q.gs j }
 let G' : Ghost := { G with acts := G.acts.modify d gf, own := fun c => if c = blk' then some (.box d r.boxes.length) else G.own c }
 have hk : KeepsOwn (· = .box d x0) G w G' w' := fun c o e hne => by
  have hlt := h.rel.ownlt c o e
  have hc : c ≠ blk' := by
   rintro rfl
   rcases hnew with e' | e'
   ·rw [e', b2] at e; injection e with e; exact hne e.symm
   ·omega
  exact ⟨by simp only [G']; rw [if_neg hc]; exact e, hold c hlt hc, fun _ e => e⟩
 have hle0 : RecLe gr (gf gr) := ⟨fun j q e => get_old e, fun g U e => ⟨U, get_old e, .refl U⟩, rfl, fun j m e => by
  obtain ⟨q, hq⟩ := hrr.gsl j m e
  have := (List.getElem?_eq_some_iff.1 hq).1
  rw [hrr.blen] at this
  simp only [gf]
  rw [if_neg (by omega)]; exact e, fun _ _ e => e⟩
 have hle : GLe d gr.nl G G' := ⟨fun _ _ _ e => e, fun d' q _ e => by
  simp only [G', modify_get]
  by_cases hd : d = d'
  ·subst hd
   rw [hg] at e
   injection e with e
   subst e
   exact ⟨_, by rw [if_pos rfl, hg]; rfl, hle0, fun _ => rfl⟩
  ·exact ⟨q, by rw [if_neg hd]; exact e, .refl q, fun _ => rfl⟩, fun _ _ _ e => e⟩
 have hstep := h.rel.onRec (G' := G') (w' := w') hr hg (fun r => { r with boxes := r.boxes.set x0 [] ++ [ds], toks := r.toks ++ [none] }) gf (· = .box d x0) rfl rfl (fun _ _ _ e => e) hle0 rfl hk
  (fun o ho => .inl ⟨_, ho⟩) ?_ (fun c i v e => ?_) hbelow (fun c o e => ?_)
 ·obtain ⟨hs, hle'⟩ := hstep
  have hs' : SRel P B0 w0 G' (s.regrowAt d x0 ds) w' := hs
  have hlen : (s.regrowAt d x0 ds).acts.length = s.acts.length := by simp [Sig.regrowAt, Sig.onRec]
  have hat := h.to hs' (hle' k nl) hlen
  have hnb : s.nbox d = r.boxes.length := by simp [Sig.nbox, hr]
  have hga : G'.acts[d]? = some (gf gr) := by
   show (G.acts.modify d _)[d]? = _
   rw [modify_get, if_pos rfl, hg]; rfl
  have hgb : (gf gr).bl[r.boxes.length]? = some (some blk') := by
   show (gr.bl ++ [some blk'])[r.boxes.length]? = _
   rw [← hrr.blen, List.getElem?_append_right (Nat.le_refl _)]
   simp
  refine ⟨G', hat, hle' _ _, by simp [Sig.regrowAt, Sig.onRec], ?_⟩
  rw [hnb]
  exact .rsl _ hd hga hgb hn (Nat.zero_le _) (fun _ _ => by simp only [gf]; rw [if_pos trivial]) (fun _ => rfl)
 ·have hset : ∀ (j : Nat) (q : List AV), (r.boxes.set x0 [] ++ [ds])[j]? = some q → (j = r.boxes.length ∧ q = ds) ∨ (j = x0 ∧ q = []) ∨ (j ≠ x0 ∧ j < r.boxes.length ∧ r.boxes[j]? = some q) := fun j q e => by
   rcases get_push e with ⟨hj, e⟩ | ⟨hj, e⟩
   ·rw [List.length_set] at hj
    rw [List.getElem?_set] at e
    by_cases hjx : x0 = j
    ·subst hjx
     rw [if_pos rfl, if_pos hj] at e
     injection e with e
     exact .inr (.inl ⟨rfl, e.symm⟩)
    ·rw [if_neg hjx] at e
     exact .inr (.inr ⟨fun e => hjx e.symm, hj, e⟩)
   ·rw [List.length_set] at hj
    exact .inl ⟨hj, e⟩
  have hblold : ∀ (j q : Nat), j < r.boxes.length → (gf gr).bl[j]? = some (some q) → gr.bl[j]? = some (some q) := fun j q hj e => by
   rcases get_push e with ⟨_, e⟩ | ⟨hj', _⟩
   ·exact e
   ·rw [hrr.blen] at hj'; omega
  have dead : ∀ (j q : Nat), gr.bl[j]? = some (some q) → j < r.boxes.length → BoxRel B0 G' d gr.nl j ((gf gr).gs j) [] q w' := fun j q e hj => by
   obtain ⟨q1, ⟨x, q2, q2'⟩, q3, arr1, ty1, q4, _⟩ := hrr.box j _ q (List.getElem?_eq_getElem hj) e
   by_cases hqb : q = blk'
   ·subst hqb
    exact ⟨q1, ⟨r.boxes.length, by simp [G'], fun hn => absurd rfl hn⟩, fun hn => absurd rfl hn, arr', ty', hw, Nat.zero_le _, fun hn => absurd rfl hn, fun i hi => absurd hi (Nat.not_lt_zero _)⟩
   ·exact ⟨q1, ⟨x, by simp only [G']; rw [if_neg hqb]; exact q2, fun hn => absurd rfl hn⟩, fun hn => absurd rfl hn, arr1, ty1, (hold q (h.rel.ownlt _ _ q2) hqb).trans q4, Nat.zero_le _, fun hn => absurd rfl hn, fun i hi => absurd hi (Nat.not_lt_zero _)⟩
  refine ⟨by simp [gf, hrr.blen], by simp [gf, hrr.tlen], fun j q blk2 e1 e2 => ?_, fun j q e1 e2 => ⟨by simp, by
   have e2' : (r.boxes.set x0 [] ++ [ds])[j]? = some [] := e2
   have hj := (List.getElem?_eq_some_iff.1 e2').1
   show j + 1 < (r.boxes.set x0 [] ++ [ds]).length
   simp only [List.length_append, List.length_set, List.length_cons, List.length_nil] at hj ⊢
   have hjn : j ≠ r.boxes.length := fun ej => by
    rw [ej, List.getElem?_append_right (by simp)] at e2'
    simp at e2'
    exact hne e2'
   omega⟩, fun g m U e1 e2 => ?_, fun i c e1 => ?_, fun j m e1 => ?_, fun j blk2 e1 => ?_⟩
  ·rcases hset j q e1 with ⟨rfl, rfl⟩ | ⟨rfl, rfl⟩ | ⟨hjx, hj, e1⟩
   ·have hbb : blk2 = blk' := by
     rcases get_push e2 with ⟨hj', _⟩ | ⟨_, e⟩
     ·rw [hrr.blen] at hj'; omega
     ·injection e
    subst hbb
    refine ⟨hB, ⟨_, by simp [G'], fun _ => rfl⟩, fun _ => hI', arr', ty', hw, hR.1, fun _ m hm => ?_, fun i hi => ⟨hcell _ (List.getElem_mem hi), ?_⟩⟩
    ·simp only [gf] at hm
     rw [if_pos trivial] at hm
     injection hm with hm
     rw [hsize, hm]
    ·exact (hR.2 i hi).mono hle (Nat.le_refl _) (Nat.le_refl _)
   ·exact dead _ _ (hblold _ _ hbnd e2) hbnd
   ·have e2' := hblold _ _ hj e2
    by_cases hq0 : q = []
    ·subst hq0; exact dead _ _ e2' hj
    ·have hjb := hrr.box j q blk2 e1 e2'
     obtain ⟨x, y1, y2⟩ := hjb.2.1
     obtain ⟨k1, k2, k3⟩ := hk _ _ y1 (fun e => by injection e with _ e; rw [y2 hq0] at e; exact hjx e)
     have := hjb.keep (G' := G') (w' := w') hle (fun z e => by rw [y1] at e; injection e with e; rw [← e]; exact k1) k2 k3
     show BoxRel B0 G' d gr.nl j (if j = r.boxes.length then some (rc * es) else gr.gs j) q blk2 w'
     rw [if_neg (by omega)]; exact this
  ·rcases get_push e1 with ⟨hlt, e1⟩ | ⟨hgl, rfl⟩
   ·have e2' : gr.tk[g]? = some U := by
     rcases get_push e2 with ⟨_, e2⟩ | ⟨hb', _⟩
     ·exact e2
     ·rw [hrr.tlen] at hb'; omega
    have ht := hrr.tok g m U e1 e2'
    have hs : ∀ (hn : m.isSome = true), G'.own U.blk = some (.tok d g) ∧ w'.heap[U.blk]? = w.heap[U.blk]? ∧ ∀ i, G.I U.blk i = none → G'.I U.blk i = none := fun hn => by
     obtain ⟨q, hq⟩ := Option.isSome_iff_exists.1 hn
     exact hk _ _ (ht.2 q hq).2.1 (fun e => by cases e)
    exact ht.keep (fun hn => (hs hn).1) (fun hn => (hs hn).2.1) (fun hn => (hs hn).2.2)
   ·have : U = T := by
     rcases get_push e2 with ⟨hb', _⟩ | ⟨_, e⟩
     ·rw [hrr.tlen] at hb'; omega
     ·exact e
    subst this
    exact ⟨rfl, fun q hq => by cases hq⟩
  ·have hm := hrr.mark i c e1
   obtain ⟨k1, k2, _⟩ := hk _ _ hm.2.1 (fun e => by cases e)
   exact hm.keep k1 k2
  ·simp only [gf] at e1
   split at e1
   ·rename_i hj
    subst hj
    refine ⟨blk', ?_⟩
    show (gr.bl ++ [some blk'])[r.boxes.length]? = _
    rw [← hrr.blen, List.getElem?_append_right (Nat.le_refl _)]
    simp
   ·obtain ⟨q, hq⟩ := hrr.gsl j m e1
    exact ⟨q, get_old hq⟩
  ·obtain ⟨hb', cs2, h2, h3⟩ := hrr.mp j blk2 e1
   have hjx : x0 ≠ j := by
    rintro rfl
    rw [hbl] at hb'; cases hb'
   exact ⟨get_old hb', cs2, get_old (by rw [List.getElem?_set, if_neg hjx]; exact h2), h3.kept hk (fun e => by injection e with _ e; exact hjx e.symm)⟩
 ·have hc : c ≠ blk' := by
   rintro rfl
   have : G.I c i = some v := e
   rw [hI'] at this; cases this
  rw [cells_congr (hold c (h.rel.I_lt e) hc) rfl]
  exact h.rel.imm c i v e
 ·simp only [G'] at e
  split at e
  ·rename_i hb; subst hb; exact hlt'
  ·have := h.rel.ownlt c o e; omega
theorem regrow_sound (h : At P B0 w0 G k nl s w) {b es n rc : Nat} {cs ds : List AV} {r : Rec} {gr : GRec} {blk blk' : Nat} {arr' : Array Value} {ty' : TypeId} {w' : World} (hr : s.acts[k]? = some r) (hg : G.acts[k]? = some gr)
  (hb : r.boxes[b]? = some cs) (hbl : gr.bl[b]? = some (some blk)) (hcs : cs ≠ []) (hne : ds ≠ []) (hcell : ∀ c, c ∈ ds → c.isCell = true) (hR : RowLe (Rel G k nl) ds arr') (hw : w'.heap[blk']? = some (.cells arr' ty'))
  (hold : ∀ c, c < w.heap.size → c ≠ blk' → w'.heap[c]? = w.heap[c]?) (hnew : blk' = blk ∨ blk' = w.heap.size) (hbelow : Below B0 w w') (hsz : w.heap.size ≤ w'.heap.size) (hsize : arr'.size = rc * es) (hn : n ≤ rc) :
  StepTo P B0 w0 G k nl s (s.regrow b ds) w' (.rsl s.cur (s.nbox s.cur) 0 es n 0) (.slice (some ⟨blk', 0, none⟩) n rc) := by
 have hnl : gr.nl = nl := by obtain ⟨g', e1, e2⟩ := h.cur; rw [hg] at e1; injection e1 with e1; rw [e1]; exact e2
 have e : s.regrow b ds = s.regrowAt k b ds := by simp only [Sig.regrow, Sig.regrowAt, h.cur_eq]
 rw [e, h.cur_eq]
 exact regrowAt_sound h (Nat.le_refl k) hr hg hb hbl hcs hne hcell (by rw [hnl]; exact hR) hw hold hnew hbelow hsz hsize hn
theorem setA_getM : ∀ (vs : List Value) (arr : Array Value) (o i : Nat), o + vs.length ≤ arr.size → (setA arr o vs).getD i Go.undef = if o ≤ i ∧ i < o + vs.length then vs.getD (i - o) Go.undef else arr.getD i Go.undef
 | [], arr, o, i, _ => by
  rw [if_neg (by simp only [List.length_nil]; omega)]; rfl
 | v :: r, arr, o, i, h => by
  have hl : (v :: r).length = r.length + 1 := rfl
  rw [hl] at h ⊢
  simp only [setA]
  rw [setA_getM r (arr.setIfInBounds o v) (o + 1) i (by simp; omega)]
  by_cases h1 : i = o
  ·subst h1
   rw [if_neg (by omega), if_pos (by omega)]
   have : i < arr.size := by omega
   simp [Array.getD, this]
  ·by_cases h2 : o + 1 ≤ i ∧ i < o + 1 + r.length
   ·rw [if_pos h2, if_pos (by omega)]
    obtain ⟨j, hj⟩ : ∃ j, i - o = j + 1 := ⟨i - o - 1, by omega⟩
    rw [hj, show i - (o + 1) = j by omega]; rfl
   ·rw [if_neg h2, if_neg (by omega)]
    by_cases h3 : i < arr.size
    ·have h4 : ¬ o = i := fun e => h1 e.symm
     simp [Array.getD, h3, h4]
    ·simp [Array.getD, h3]
theorem row_both {cs ds : List AV} {f g : Nat → Value} {rest : List Value} {n m : Nat} {R : AV → Value → Prop} (hn : cs.length = n) (hm : ds.length = m) (hc : ∀ i (hi : i < cs.length), R cs[i] (f i)) (hd : ∀ i (hi : i < ds.length), R ds[i] (g i)) :
  RowLe R (cs ++ ds) ((List.range (n + m)).map (both n f g) ++ rest).toArray := by
 refine ⟨by simp; omega, fun i hi => ?_⟩
 rw [List.length_append] at hi
 have hget : ((List.range (n + m)).map (both n f g) ++ rest).toArray.getD i Go.undef = both n f g i := by
  have h1 : i < n + m := by omega
  have h2 : i < n + m + rest.length := by omega
  simp only [Array.getD, List.size_toArray, List.length_append, List.length_map, List.length_range, h2, dite_true]
  simp [List.getElem_append, h1]
 rw [hget]
 unfold both
 by_cases hl : i < cs.length
 ·rw [List.getElem_append_left hl, if_pos (by omega)]; exact hc i hl
 ·rw [List.getElem_append_right (by omega), if_neg (by omega)]
  subst hn
  exact hd (i - cs.length) (by omega)
theorem appendm_sound (h : At P B0 w0 G k nl s w) {t u e ty : TypeId} {es by_ : Nat} {z : Value} (hT : ElemT P t e es by_ z) (hu : ∃ e', P.underlying u = some (.slice e')) {a b v : AV} {x y : Value} {s' : Sig}
    (hx : Rel G k nl a x) (hy : Rel G k nl b y) (ha : appendmOp s es a b = some (v, s')) :
    ∃ x' w', (Builtin.append_ #[t, u] ty #[x, y]).run P w = .ok x' w' ∧ StepTo P B0 w0 G k nl s s' w' v x' := by
  unfold appendmOp at ha
  split at ha
  case h_2 => cases ha
  rename_i oy e2 ys
  split at ha
  · rename_i hys
    have hys : ys = [] := by simpa using hys
    subst hys
    have hyc : ∃ bb c, y = .slice bb 0 c := by
      rcases hy.inv_slice with ⟨_, _, rfl⟩ | ⟨_, aa, c, rfl, _⟩
      · exact ⟨_, _, rfl⟩
      · exact ⟨_, _, rfl⟩
    obtain ⟨bb, c, rfl⟩ := hyc
    split at ha
    · rename_i o e1 xs
      injection ha with ha
      injection ha with h1 h2
      subst h1 h2
      have hself : StepTo P B0 w0 G k nl s s w (.slice o e1 xs) x := ⟨G, h, GLe.refl _ _ _, rfl, hx⟩
      rcases hx.inv_slice with ⟨_, _, rfl⟩ | ⟨_, aa, cap, rfl, _, hle, _⟩
      · exact ⟨_, w, append_none_run hT hu none bb c (Nat.le_refl _), hself⟩
      · exact ⟨_, w, append_none_run hT hu (some aa) bb c hle, hself⟩
    · rename_i d b off e1 n cap
      injection ha with ha
      injection ha with h1 h2
      subst h1 h2
      have hself : StepTo P B0 w0 G k nl s s w (.rsl d b off e1 n cap) x := ⟨G, h, GLe.refl _ _ _, rfl, hx⟩
      obtain ⟨blk, gr, rc, o0, rfl, _, _, _, hn, _⟩ := hx.inv_rsl
      exact ⟨_, w, append_none_run hT hu (some _) bb c hn, hself⟩
    · cases ha
  · rename_i hys
    split at ha
    case isFalse => cases ha
    rename_i he2
    subst he2
    have hy0 : 0 < ys.length := by
      cases ys with
      | nil => simp at hys
      | cons => simp
    rcases hy.inv_slice with ⟨_, hn, _⟩ | ⟨_, ay, cy, rfl, _, _, hyc, _⟩
    · rw [hn] at hy0; simp at hy0
    obtain ⟨hys', hcy, ly, ccy, fy, hyI, hyR⟩ := SliceC.flat hyc hT.pos
    have hay : ay = ⟨ay.block, ay.off, none⟩ := addr_eta (hys' (by omega))
    have hgy : ∀ c, c < ys.length * e2 → w.cell? (ay.add c) = some (fy c) := fun c hc => by
      rw [hay, addr_add]; exact h.rel.imm _ _ _ (hyI c hc)
    obtain ⟨fl1, fl2⟩ := flatten_get hT.pos ly
    have hyflat : ∀ c (hc : c < ys.flatten.length), RelC G.I ys.flatten[c] (fy c) := fun c hc => by
      obtain ⟨g1, g2, g3⟩ := fl2 c hc
      rw [g3]
      have := hyR _ g1 _ g2
      rw [Nat.div_add_mod'] at this
      exact this
    have hycell : ∀ c, c ∈ ys.flatten → c.isCell = true := fun c hc => by
      obtain ⟨r, hr, hcr⟩ := List.mem_flatten.1 hc
      exact ccy r hr c hcr
    have hyne : ys.flatten ≠ [] := fun e => by
      have := congrArg List.length e
      rw [fl1] at this
      have h2 := Nat.mul_pos hy0 hT.pos
      simp only [List.length_nil] at this
      omega
    split at ha
    · rename_i o e1 xs
      split at ha
      case isFalse => cases ha
      rename_i hcond
      obtain ⟨hcond, hmost⟩ := hcond
      injection ha with ha
      injection ha with h1 h2
      subst h1 h2
      have fin : ∀ (base : Option Addr) (cx : Nat) (f : Nat → Value), cx = xs.length → (∀ r, r ∈ xs → r.length = e2) → (∀ r, r ∈ xs → ∀ c, c ∈ r → c.isCell = true) → (∀ i (hi : i < xs.length) j (hj : j < xs[i].length), RelC G.I (xs[i][j]) (f (i * e2 + j))) →
          (∀ b, base = some b → ∀ c, c < xs.length * e2 → w.cell? (b.add c) = some (f c)) → (base = none → xs.length = 0) →
          ∃ x' w', (Builtin.append_ #[t, u] ty #[.slice base xs.length cx, .slice (some ay) ys.length cy]).run P w = .ok x' w' ∧ StepTo P B0 w0 G k nl s (s.newBox (xs.flatten ++ ys.flatten)).2 w' (.rsl s.cur (s.nbox s.cur) 0 e2 (xs.length + ys.length) 0) x' := by
        intro base cx f hcx lx ccx hxR hf hf0
        subst hcx
        obtain ⟨newCap, rest, hcap, hrest, hrun⟩ := append_grow_run (P := P) (w := w) (ty := ty) (n := xs.length) (m := ys.length) (cap := xs.length) (c := cy) (base := base) (a := ay) (f := f) (g := fy) hT hu (by omega) (big_most hT (by omega) hmost) hf hf0 hgy
        refine ⟨_, _, hrun, ?_⟩
        obtain ⟨gl1, gl2⟩ := flatten_get hT.pos lx
        have hxflat : ∀ c (hc : c < xs.flatten.length), RelC G.I xs.flatten[c] (f c) := fun c hc => by
          obtain ⟨g1, g2, g3⟩ := gl2 c hc
          rw [g3]
          have := hxR _ g1 _ g2
          rw [Nat.div_add_mod'] at this
          exact this
        have hrow := row_both (R := Rel G k nl) (cs := xs.flatten) (ds := ys.flatten) (f := f) (g := fy) (rest := rest) gl1 fl1 (fun i hi => .cl (hxflat i hi)) (fun i hi => .cl (hyflat i hi))
        have hsz : ((List.range (xs.length * e2 + ys.length * e2)).map (both (xs.length * e2) f fy) ++ rest).toArray.size = newCap * e2 := by
          simp only [List.size_toArray, List.length_append, List.length_map, List.length_range, hrest]
          rw [← Nat.add_mul, ← Nat.add_mul]
          congr 1; omega
        exact (newBox_sound h.drew e (some (newCap * e2)) (fun n hn => by injection hn with hn; rw [hsz, hn]) (fun e => hyne (List.append_eq_nil_iff.1 e).2) (fun c hc => by
          rcases List.mem_append.1 hc with hc | hc
          · obtain ⟨r, hr, hcr⟩ := List.mem_flatten.1 hc
            exact ccx r hr c hcr
          · exact hycell c hc) hrow).2.2 e2 (xs.length + ys.length) 0 newCap hcap (Nat.zero_le _) (fun _ _ => rfl)
      rcases hx.inv_slice with ⟨_, rfl, rfl⟩ | ⟨hnn, ax, cx, rfl, _, _, hxc, hfull⟩
      · exact fin none 0 (fun _ => Go.undef) rfl (by simp) (by simp) (fun i hi => absurd hi (Nat.not_lt_zero _)) (fun _ e => by cases e) (fun _ => rfl)
      · rcases hcond with hc | ⟨hc, he⟩
        · cases o <;> simp [Own.isNil] at hc
          exact absurd rfl hnn
        · subst he
          have ho : o = .full := by cases o <;> simp [Own.isFull] at hc ⊢
          have hcx := hfull ho
          obtain ⟨hxs', _, lx, ccx, fx, hxI, hxR⟩ := SliceC.flat hxc hT.pos
          have hax : ∀ c, c < xs.length * e1 → ax = ⟨ax.block, ax.off, none⟩ := fun c hc => addr_eta (hxs' (by
            rcases Nat.eq_zero_or_pos xs.length with h0 | h0
            · rw [h0] at hc; simp at hc
            · omega))
          exact fin (some ax) cx fx hcx lx ccx hxR (fun b e c hc => by injection e with e; subst e; rw [hax c hc, addr_add]; exact h.rel.imm _ _ _ (hxI c hc)) (fun e => by cases e)
    · rename_i d b off e1 n cap
      split at ha
      case isFalse => cases ha
      rename_i hcond
      obtain ⟨rfl, rfl, rfl, hn0, rfl, hmost⟩ := hcond
      split at ha
      case h_2 => cases ha
      rename_i cs hbox
      split at ha
      case isFalse => cases ha
      rename_i hcl
      injection ha with ha
      injection ha with h1 h2
      subst h1 h2
      rw [h.cur_eq] at hbox hx
      obtain ⟨blk, gr, rc, o0, rfl, hd, hg, hbl, hnr, _, hw, ho⟩ := hx.inv_rsl
      have ho := ho (.inl hn0)
      subst ho
      have hgs := hw rfl hn0
      obtain ⟨r, hr, hbx, hbrel, arr, tb, hheap, hrow, hrcell⟩ := h.box hd hbox hg hbl
      have hcs : cs ≠ [] := fun e => by
        rw [e] at hcl
        have := Nat.mul_pos hn0 hT.pos
        simp only [List.length_nil] at hcl
        omega
      obtain ⟨_, _, hI0, arr1, tb1, hheap1, _, hsz1, _⟩ := hbrel
      rw [hheap] at hheap1
      injection hheap1 with hheap1
      injection hheap1 with q1 q2
      subst q1 q2
      have hasz := hsz1 hcs _ hgs
      have hne : cs ++ ys.flatten ≠ [] := fun e => hyne (List.append_eq_nil_iff.1 e).2
      have hallc : ∀ c, c ∈ cs ++ ys.flatten → c.isCell = true := fun c hc => by
        rcases List.mem_append.1 hc with hc | hc
        · exact hrcell c hc
        · exact hycell c hc
      by_cases hroom : n + ys.length ≤ rc
      · have hle : (n + ys.length) * e1 ≤ arr.size := by rw [hasz]; exact Nat.mul_le_mul_right _ hroom
        refine ⟨_, _, append_room_run (P := P) (ty := ty) (n := n) (m := ys.length) (c := cy) (a := ay) (g := fy) hT hu hroom hgy hheap hle (fun c hc => ?_), ?_⟩
        · have h1 : c / e1 < ys.length := by rw [Nat.div_lt_iff_lt_mul hT.pos]; exact hc
          have h2 : c % e1 < (ys[c / e1]).length := by rw [ly _ (List.getElem_mem h1)]; exact Nat.mod_lt _ hT.pos
          have hr := hyR _ h1 _ h2
          rw [Nat.div_add_mod'] at hr
          exact oneCell_of_rel (G := G) (k := k) (nl := nl) (.cl hr) (ccy _ (List.getElem_mem h1) _ (List.getElem_mem h2))
        · have hB := (h.rel.rec_ k r gr hr hg).box b cs blk hbx hbl
          refine regrow_sound h hr hg hbx hbl hcs hne hallc (arr' := setA arr (n * e1) ((List.range (ys.length * e1)).map fy)) ?_ (heap_setCells _ _ _ _ hheap) (fun c _ hc => heap_setCells_other hc _ _ _) (.inl rfl) (below_setCells hB.1 _ _ _) (by rw [size_setCells]; exact Nat.le_refl _) (by rw [setA_size]; exact hasz) hroom
          rw [Nat.add_mul] at hle
          refine ⟨by rw [setA_size, List.length_append, hcl, fl1]; exact hle, fun i hi => ?_⟩
          rw [List.length_append, hcl, fl1] at hi
          rw [setA_getM _ _ _ _ (by simpa using hle)]
          by_cases hl : i < cs.length
          · rw [List.getElem_append_left hl, if_neg (by omega)]; exact hrow.2 i hl
          · rw [List.getElem_append_right (by omega), if_pos (by simp; omega)]
            have hi2 : i - n * e1 < ys.length * e1 := by omega
            have := hyflat (i - cs.length) (by rw [fl1]; omega)
            have hgd : ((List.range (ys.length * e1)).map fy).getD (i - n * e1) Go.undef = fy (i - cs.length) := by
              rw [hcl]
              simp [List.getD, hi2]
            rw [hgd]
            exact .cl this
      · obtain ⟨newCap, rest, hcap, hrest, hrun⟩ := append_grow_run (P := P) (w := w) (ty := ty) (n := n) (m := ys.length) (cap := rc) (c := cy) (base := some ⟨blk, 0, none⟩) (a := ay) (f := fun c => arr.getD c Go.undef) (g := fy) hT hu hroom
          (big_most hT hroom hmost) (fun b e c hc => by
            injection e with e; subst e
            rw [addr_add, cell_of_heap hheap, Nat.zero_add]
            have : c < arr.size := by
              have := hrow.1
              rw [hcl] at this; omega
            simp [Array.getD, this]) (fun e => by cases e) hgy
        refine ⟨_, _, hrun, ?_⟩
        have hrow2 := row_both (R := Rel G k nl) (cs := cs) (ds := ys.flatten) (f := fun c => arr.getD c Go.undef) (g := fy) (rest := rest) hcl fl1 hrow.2 (fun i hi => .cl (hyflat i hi))
        have hsz : ((List.range (n * e1 + ys.length * e1)).map (both (n * e1) (fun c => arr.getD c Go.undef) fy) ++ rest).toArray.size = newCap * e1 := by
          simp only [List.size_toArray, List.length_append, List.length_map, List.length_range, hrest]
          rw [← Nat.add_mul, ← Nat.add_mul]
          congr 1; omega
        exact regrow_sound h hr hg hbx hbl hcs hne hallc hrow2 (World.alloc_heap_new w.drew _) (fun c hc _ => Below.heap_alloc w.drew _ _ hc) (.inr rfl) (((Below.refl _ _).drew).alloc h.rel.low _) (by simp) hsz hcap
    · cases ha
theorem appendf_sound (h : At P B0 w0 G k nl s w) {t u e ty : TypeId} {es by_ : Nat} {z : Value} (hT : ElemT P t e es by_ z) (hby : by_ ≤ 8 * es) (hu : ∃ e', P.underlying u = some (.slice e')) {a b v : AV} {x y : Value} {s' : Sig}
  (hx : Rel G k nl a x) (hy : Rel G k nl b y) (ha : appendfOp s es a b = some (v, s')) :
  ∃ x' w', (Builtin.append_ #[t, u] ty #[x, y]).run P w = .ok x' w' ∧ StepTo P B0 w0 G k nl s s' w' v x' := by
 unfold appendfOp at ha
 split at ha
 case h_2 => cases ha
 rename_i o e1 xs oy e2 ys
 split at ha
 ·cases ha
 rename_i hne0
 split at ha
 case isFalse => exact appendm_sound h hT hu hx hy ha
 rename_i hcond
 obtain ⟨rfl, hof, rfl, rfl, hlong, hlim⟩ := hcond
 injection ha with ha
 injection ha with h1 h2
 subst h1 h2
 have ho : o = .full := by cases o <;> simp [Own.isFull] at hof ⊢
 subst ho
 have hy0 : 0 < ys.length := by omega
 rcases hy.inv_slice with ⟨_, hn, _⟩ | ⟨_, ay, cy, rfl, _, _, hyc, _⟩
 ·rw [hn] at hy0; simp at hy0
 obtain ⟨hys', hcy, ly, ccy, fy, hyI, hyR⟩ := SliceC.flat hyc hT.pos
 have hay : ay = ⟨ay.block, ay.off, none⟩ := addr_eta (hys' (by omega))
 have hgy : ∀ c, c < ys.length * e2 → w.cell? (ay.add c) = some (fy c) := fun c hc => by
  rw [hay, addr_add]; exact h.rel.imm _ _ _ (hyI c hc)
 obtain ⟨fl1, fl2⟩ := flatten_get hT.pos ly
 have hyflat : ∀ c (hc : c < ys.flatten.length), RelC G.I ys.flatten[c] (fy c) := fun c hc => by
  obtain ⟨g1, g2, g3⟩ := fl2 c hc
  rw [g3]
  have := hyR _ g1 _ g2
  rw [Nat.div_add_mod'] at this
  exact this
 have hyne : ys.flatten ≠ [] := fun e => by
  have := congrArg List.length e
  rw [fl1] at this
  have h2 := Nat.mul_pos hy0 hT.pos
  simp only [List.length_nil] at this
  omega
 rcases hx.inv_slice with ⟨hnil, _, _⟩ | ⟨_, ax, cx, rfl, _, _, hxc, hfull⟩
 ·cases hnil
 have hcx : cx = 0 := hfull rfl
 subst hcx
 obtain ⟨newCap, rest, hcap, hrest, hrun⟩ := append_grow_run (P := P) (w := w) (ty := ty) (n := 0) (m := ys.length) (cap := 0) (c := cy) (base := some ax) (a := ay) (f := fun _ => Go.undef) (g := fy) hT hu (by omega) (by
  have hn : Builtin.nextslicecap (0 + ys.length) 0 = ys.length := by
   unfold Builtin.nextslicecap
   rw [if_pos (by omega)]; omega
  rw [hn]
  exact Nat.le_trans (Nat.le_trans (Nat.mul_le_mul_left _ hby) hlim) (by decide)) (fun b _ c hc => by simp at hc) (fun e => by cases e) hgy
 rw [Nat.zero_add] at hrun hcap hrest
 refine ⟨_, _, hrun, ?_⟩
 have hrow := row_both (R := Rel G k nl) (cs := []) (ds := ys.flatten) (n := 0) (f := fun _ => Go.undef) (g := fy) (rest := rest) rfl fl1 (fun i hi => by simp at hi) (fun i hi => .cl (hyflat i hi))
 rw [List.nil_append] at hrow
 have hsz : ((List.range (0 * e2 + ys.length * e2)).map (both (0 * e2) (fun _ => Go.undef) fy) ++ rest).toArray.size = newCap * e2 := by
  simp only [List.size_toArray, List.length_append, List.length_map, List.length_range, hrest]
  rw [← Nat.add_mul, ← Nat.add_mul]
  congr 1; omega
 exact (newBox_sound h.drew e (some (newCap * e2)) (fun n hn => by injection hn with hn; rw [hsz, hn]) hyne (fun c hc => by
  obtain ⟨r, hr, hcr⟩ := List.mem_flatten.1 hc
  exact ccy r hr c hcr) (by simpa using hrow)).2.2 e2 ys.length 0 newCap hcap (Nat.zero_le _) (fun _ _ => rfl)
theorem src_rows (h : At P B0 w0 G k nl s w) {es : Nat} (h0 : 0 < es) {b : AV} {y : Value} {p : List AV × Nat} (hy : Rel G k nl b y) (hs : s.srcRows es b = some p) :
    (p.2 = 0 ∧ ∃ bb c, y = .slice bb 0 c) ∨ (0 < p.2 ∧ ∃ (ay : Addr) (cy : Nat) (fy : Nat → Value), y = .slice (some ay) p.2 cy ∧ p.1.length = p.2 * es ∧ (∀ c, c < p.2 * es → w.cell? (ay.add c) = some (fy c)) ∧ (∀ c, c ∈ p.1 → c.isCell = true) ∧
      ∀ c (hc : c < p.1.length), Rel G k nl p.1[c] (fy c)) := by
  unfold Sig.srcRows at hs
  split at hs
  · rename_i o e2 ys
    split at hs
    case isFalse => cases hs
    rename_i hcond
    injection hs with hs
    subst hs
    rcases Nat.eq_zero_or_pos ys.length with hz | hz
    · refine .inl ⟨hz, ?_⟩
      rcases hy.inv_slice with ⟨_, _, rfl⟩ | ⟨_, aa, c, rfl, _⟩
      · exact ⟨_, _, rfl⟩
      · exact ⟨some aa, c, by rw [hz]⟩
    · have he : e2 = es := by
        rcases hcond with hc | hc
        · have : ys = [] := by simpa using hc
          rw [this] at hz; simp at hz
        · exact hc
      subst he
      refine .inr ⟨hz, ?_⟩
      rcases hy.inv_slice with ⟨_, hn, _⟩ | ⟨_, ay, cy, rfl, _, _, hyc, _⟩
      · rw [hn] at hz; simp at hz
      obtain ⟨hys', hcy, ly, ccy, fy, hyI, hyR⟩ := SliceC.flat hyc h0
      have hay : ay = ⟨ay.block, ay.off, none⟩ := addr_eta (hys' (by omega))
      obtain ⟨fl1, fl2⟩ := flatten_get h0 ly
      refine ⟨ay, cy, fy, rfl, fl1, fun c hc => by rw [hay, addr_add]; exact h.rel.imm _ _ _ (hyI c hc), fun c hc => ?_, fun c hc => ?_⟩
      · obtain ⟨r, hr, hcr⟩ := List.mem_flatten.1 hc
        exact ccy r hr c hcr
      · obtain ⟨g1, g2, g3⟩ := fl2 c hc
        rw [g3]
        have := hyR _ g1 _ g2
        rw [Nat.div_add_mod'] at this
        exact .cl this
  · rename_i d b off e2 n cap
    split at hs
    case isFalse => cases hs
    rename_i hcond
    subst hcond
    obtain ⟨cs, hbox, hs⟩ := Option.bind_eq_some_iff.1 hs
    split at hs
    case isFalse => cases hs
    rename_i hle
    injection hs with hs
    subst hs
    obtain ⟨blk, gr, rc, o0, rfl, hdk, hg, hbl, hnr, _, _, ho⟩ := hy.inv_rsl
    rcases Nat.eq_zero_or_pos n with hn | hn
    · exact .inl ⟨hn, _, rc, by rw [hn]⟩
    · have ho := ho (.inl hn)
      subst ho
      refine .inr ⟨hn, ?_⟩
      obtain ⟨r, hr, hbx, _, arr, tb, hheap, hrow, hcl⟩ := h.box hdk hbox hg hbl
      have hlen : ((cs.drop o0).take (n * e2)).length = n * e2 := by simp; omega
      refine ⟨⟨blk, o0, none⟩, rc, fun c => arr.getD (o0 + c) Go.undef, rfl, hlen, fun c hc => ?_, fun c hc => hcl c (List.mem_of_mem_drop (List.mem_of_mem_take hc)), fun c hc => ?_⟩
      · simp only at hc
        rw [addr_add, cell_of_heap hheap]
        have : o0 + c < arr.size := by have := hrow.1; omega
        simp [Array.getD, this]
      · rw [hlen] at hc
        have he : ((cs.drop o0).take (n * e2))[c]'(by rw [hlen]; exact hc) = cs[o0 + c]'(by omega) := by simp
        rw [he]
        exact hrow.2 _ _
  · cases hs
theorem appendh_sound (h : At P B0 w0 G k nl s w) {t u e ty : TypeId} {es by_ : Nat} {z : Value} (hT : ElemT P t e es by_ z) (hu : ∃ e', P.underlying u = some (.slice e')) {a b c v : AV} {x y : Value} {s' : Sig}
    (hx : Rel G k nl a x) (hy : Rel G k nl b y) (ha : appendhOp s es a b c = some (v, s')) :
    ∃ x' w', (Builtin.append_ #[t, u] ty #[x, y]).run P w = .ok x' w' ∧ StepTo P B0 w0 G k nl s s' w' v x' := by
  unfold appendhOp at ha
  split at ha
  case h_2 => cases ha
  rename_i d _ _
  obtain ⟨p, hp, ha'⟩ := Option.bind_eq_some_iff.1 ha
  clear ha
  have ha := ha'
  clear ha'
  rcases src_rows h hT.pos hy hp with ⟨hp0, bb, cc, rfl⟩ | ⟨hp0, ay, cy, fy, rfl, hplen, hgy, hpcell, hpR⟩
  · rw [if_pos hp0] at ha
    split at ha
    · rename_i o e1 xs
      injection ha with ha
      injection ha with h1 h2
      subst h1 h2
      have hself : StepTo P B0 w0 G k nl s s w (.slice o e1 xs) x := ⟨G, h, GLe.refl _ _ _, rfl, hx⟩
      rcases hx.inv_slice with ⟨_, _, rfl⟩ | ⟨_, aa, cap, rfl, _, hle, _⟩
      · exact ⟨_, w, append_none_run hT hu none bb cc (Nat.le_refl _), hself⟩
      · exact ⟨_, w, append_none_run hT hu (some aa) bb cc hle, hself⟩
    · rename_i d' b' off e1 n cap
      injection ha with ha
      injection ha with h1 h2
      subst h1 h2
      have hself : StepTo P B0 w0 G k nl s s w (.rsl d' b' off e1 n cap) x := ⟨G, h, GLe.refl _ _ _, rfl, hx⟩
      obtain ⟨blk, gr, rc, o0, rfl, _, _, _, hn, _⟩ := hx.inv_rsl
      exact ⟨_, w, append_none_run hT hu (some _) bb cc hn, hself⟩
    · cases ha
  rw [if_neg (by omega)] at ha
  split at ha
  case isFalse => cases ha
  rename_i hcond
  obtain ⟨_, hdk, hcl⟩ := hcond
  rw [h.cur_eq] at hdk hcl
  obtain ⟨r, gr, hr, hg⟩ := h.rec_ hdk
  have hpos := Nat.mul_pos hp0 hT.pos
  have hpne : p.1 ≠ [] := fun e => by rw [e, List.length_nil] at hplen; omega
  have hRd : ∀ i (hi : i < p.1.length), Rel G d gr.nl p.1[i] (fy i) := fun i hi => by
    rcases hcl with rfl | hcl
    · obtain ⟨g', e1, e2⟩ := h.cur
      rw [hg] at e1
      injection e1 with e1
      rw [e1, e2]
      exact hpR i hi
    · exact .cl ((hpR i hi).closed1 (List.all_eq_true.1 hcl _ (List.getElem_mem hi)))
  split at ha
  · rename_i o e1 xs
    split at ha
    case isFalse => cases ha
    rename_i hcond
    obtain ⟨hxe, hown, hmost⟩ := hcond
    injection ha with ha
    injection ha with h1 h2
    subst h1 h2
    have hxs : xs = [] := by simpa using hxe
    subst hxs
    obtain ⟨base, rfl⟩ : ∃ base, x = .slice base 0 0 := by
      rcases hx.inv_slice with ⟨_, _, rfl⟩ | ⟨hnn, ax, cx, rfl, _, _, hxc, hfull⟩
      · exact ⟨none, rfl⟩
      · rcases hown with hc | ⟨hc, _⟩
        · cases o <;> simp [Own.isNil] at hc
          exact absurd rfl hnn
        · have ho : o = .full := by cases o <;> simp [Own.isFull] at hc ⊢
          have := hfull ho
          subst this
          exact ⟨some ax, rfl⟩
    obtain ⟨newCap, rest, hcap, hrest, hrun⟩ := append_grow_run (P := P) (w := w) (ty := ty) (n := 0) (m := p.2) (cap := 0) (c := cy) (base := base) (a := ay) (f := fun _ => Go.undef) (g := fy) hT hu (by omega) (big_most hT (by omega) (by omega)) (fun b _ c hc => by simp at hc) (fun _ => rfl) hgy
    rw [Nat.zero_add] at hrun hcap hrest
    refine ⟨_, _, hrun, ?_⟩
    have hrow := row_both (R := Rel G d gr.nl) (cs := []) (ds := p.1) (n := 0) (m := p.2 * es) (f := fun _ => Go.undef) (g := fy) (rest := rest) rfl hplen (fun i hi => by simp at hi) (fun i hi => hRd i hi)
    rw [List.nil_append] at hrow
    have hsz : ((List.range (0 * es + p.2 * es)).map (both (0 * es) (fun _ => Go.undef) fy) ++ rest).toArray.size = newCap * es := by
      simp only [List.size_toArray, List.length_append, List.length_map, List.length_range, hrest]
      rw [← Nat.add_mul, ← Nat.add_mul]
      congr 1; omega
    exact newBoxAt_sound h.drew hdk hg e (some (newCap * es)) (fun n hn => by injection hn with hn; rw [hsz, hn]) hpne hpcell (by simpa using hrow) es p.2 0 newCap hcap (Nat.zero_le _) (fun _ _ => rfl)
  · rename_i d1 b' off e1 n cap
    split at ha
    case isFalse => cases ha
    rename_i hcond
    obtain ⟨rfl, rfl, rfl, hn0, rfl, hmost⟩ := hcond
    split at ha
    case h_2 => cases ha
    rename_i cs hbox
    split at ha
    case isFalse => cases ha
    rename_i hcl'
    injection ha with ha
    injection ha with h1 h2
    subst h1 h2
    obtain ⟨blk, gr', rc, o0, rfl, hd, hg', hbl, hnr, _, hw, ho⟩ := hx.inv_rsl
    rw [hg] at hg'
    injection hg' with hg'
    subst hg'
    have ho := ho (.inl hn0)
    subst ho
    have hgs := hw rfl hn0
    have hbx : r.boxes[b']? = some cs := by simpa [Sig.box, hr] using hbox
    have hB := (h.rel.rec_ d1 r gr hr hg).box b' cs blk hbx hbl
    obtain ⟨hB1, _, hI0, arr, tb, hheap, hrowl, hsz1, hrowc⟩ := hB
    have hcs : cs ≠ [] := fun e => by
      rw [e] at hcl'
      have := Nat.mul_pos hn0 hT.pos
      simp only [List.length_nil] at hcl'
      omega
    have hasz := hsz1 hcs _ hgs
    have hne : cs ++ p.1 ≠ [] := fun e => hpne (List.append_eq_nil_iff.1 e).2
    have hallc : ∀ c, c ∈ cs ++ p.1 → c.isCell = true := fun c hc => by
      rcases List.mem_append.1 hc with hc | hc
      · obtain ⟨i, hi, rfl⟩ := List.getElem_of_mem hc
        exact (hrowc i hi).1
      · exact hpcell c hc
    by_cases hroom : n + p.2 ≤ rc
    · have hle : (n + p.2) * e1 ≤ arr.size := by rw [hasz]; exact Nat.mul_le_mul_right _ hroom
      refine ⟨_, _, append_room_run (P := P) (ty := ty) (n := n) (m := p.2) (c := cy) (a := ay) (g := fy) hT hu hroom hgy hheap hle (fun c hc => oneCell_of_rel (hpR c (by rw [hplen]; exact hc)) (hpcell _ (List.getElem_mem _))), ?_⟩
      refine regrowAt_sound h hdk hr hg hbx hbl hcs hne hallc (arr' := setA arr (n * e1) ((List.range (p.2 * e1)).map fy)) ?_ (heap_setCells _ _ _ _ hheap) (fun c _ hc => heap_setCells_other hc _ _ _) (.inl rfl) (below_setCells hB1 _ _ _) (by rw [size_setCells]; exact Nat.le_refl _) (by rw [setA_size]; exact hasz) hroom
      rw [Nat.add_mul] at hle
      refine ⟨by rw [setA_size, List.length_append, hcl', hplen]; exact hle, fun i hi => ?_⟩
      rw [List.length_append, hcl', hplen] at hi
      rw [setA_getM _ _ _ _ (by simpa using hle)]
      by_cases hl : i < cs.length
      · rw [List.getElem_append_left hl, if_neg (by omega)]; exact (hrowc i hl).2
      · rw [List.getElem_append_right (by omega), if_pos (by simp; omega)]
        have hi2 : i - n * e1 < p.2 * e1 := by omega
        have := hRd (i - cs.length) (by rw [hplen]; omega)
        have hgd : ((List.range (p.2 * e1)).map fy).getD (i - n * e1) Go.undef = fy (i - cs.length) := by
          rw [hcl']
          simp [List.getD, hi2]
        rw [hgd]
        exact this
    · obtain ⟨newCap, rest, hcap, hrest, hrun⟩ := append_grow_run (P := P) (w := w) (ty := ty) (n := n) (m := p.2) (cap := rc) (c := cy) (base := some ⟨blk, 0, none⟩) (a := ay) (f := fun c => arr.getD c Go.undef) (g := fy) hT hu hroom
        (big_most hT hroom hmost) (fun b e c hc => by
          injection e with e; subst e
          rw [addr_add, cell_of_heap hheap, Nat.zero_add]
          have : c < arr.size := by
            have := hrowl
            rw [hcl'] at this; omega
          simp [Array.getD, this]) (fun e => by cases e) hgy
      refine ⟨_, _, hrun, ?_⟩
      have hrow2 := row_both (R := Rel G d1 gr.nl) (cs := cs) (ds := p.1) (f := fun c => arr.getD c Go.undef) (g := fy) (rest := rest) hcl' hplen (fun i hi => (hrowc i hi).2) (fun i hi => hRd i hi)
      have hsz : ((List.range (n * e1 + p.2 * e1)).map (both (n * e1) (fun c => arr.getD c Go.undef) fy) ++ rest).toArray.size = newCap * e1 := by
        simp only [List.size_toArray, List.length_append, List.length_map, List.length_range, hrest]
        rw [← Nat.add_mul, ← Nat.add_mul]
        congr 1; omega
      exact regrowAt_sound h hdk hr hg hbx hbl hcs hne hallc hrow2 (World.alloc_heap_new w.drew _) (fun c hc _ => Below.heap_alloc w.drew _ _ hc) (.inr rfl) (((Below.refl _ _).drew).alloc h.rel.low _) (by simp) hsz hcap
  · cases ha
end
end Go.Ax

/-
  Stores: what goes into an outer activation's box.
-/
namespace Go.Ax
open Go.RowKit
section
variable {P : Program} {B0 : Nat} {w0 : World} {G : Ghost} {k nl : Nat} {w : World} {s : Sig}
theorem ntok_eq {s : Sig} {d : Nat} {r : Rec} (h : s.acts[d]? = some r) : s.ntok d = r.toks.length := by simp [Sig.ntok, h]
theorem tok_eq {s : Sig} {d g n : Nat} (h : s.tok d g = some n) : ∃ r, s.acts[d]? = some r ∧ r.toks[g]? = some (some n) := by
 unfold Sig.tok at h
 cases hr : s.acts[d]? with
 | none => rw [hr] at h; cases h
 | some r =>
  rw [hr] at h
  simp only [Option.bind_some] at h
  cases hq : r.toks[g]? with
  | none => rw [hq] at h; cases h
  | some q => rw [hq] at h; simp only [Option.join_some] at h; subst h; exact ⟨r, rfl, hq⟩
theorem dropTok (h : SRel P B0 w0 G s w) {d g n : Nat} {r : Rec} {gr : GRec} {T : TokG} (hr : s.acts[d]? = some r) (hg : G.acts[d]? = some gr) (hrt : r.toks[g]? = some (some n)) (hgt : gr.tk[g]? = some T) :
  ∃ G', G'.acts = G.acts.modify d (fun q => { q with tk := q.tk.set g { T with n := none } }) ∧ G'.I = G.I ∧ G'.own T.blk = none ∧ (∀ b o, G'.own b = some o → G.own b = some o ∧ b ≠ T.blk) ∧ SRel P B0 w0 G' (s.setTok d g none) w ∧ ∀ k nl, GLe k nl G G' := by
 have hrr := h.rec_ d r gr hr hg
 obtain ⟨hTn, hT2⟩ := hrr.tok g (some n) T hrt hgt
 obtain ⟨t1, t2, t3, t4, t5, arr, ty, t6, t7⟩ := hT2 _ rfl
 let G' : Ghost := { G with acts := G.acts.modify d fun q => { q with tk := q.tk.set g { T with n := none } }, own := fun b => if b = T.blk then none else G.own b }
 have hk : KeepsOwn (· = .tok d g) G w G' w := fun b o ho hne => by
  refine ⟨?_, rfl, fun _ e => e⟩
  simp only [G']
  rw [if_neg]
  ·exact ho
  ·rintro rfl
   rw [t2] at ho
   injection ho with ho
   exact hne ho.symm
 have hle0 : RecLe gr { gr with tk := gr.tk.set g { T with n := none } } := ⟨fun b blk e => e, fun j U e => by
  by_cases hj : j = g
  ·subst hj
   rw [hgt] at e
   injection e with e
   subst e
   exact ⟨_, set_same hgt, rfl, .inr (.inl rfl)⟩
  ·exact ⟨U, by show (gr.tk.set g _)[j]? = _; rw [List.getElem?_set, if_neg (fun e => hj e.symm)]; exact e, .refl U⟩, rfl, fun _ _ e => e, fun _ _ e => e⟩
 have hgle : GLe d gr.nl G G' := ⟨fun _ _ _ e => e, fun d' q _ e => by
  show ∃ gr', (G.acts.modify d _)[d']? = some gr' ∧ _
  rw [modify_get]
  by_cases hdd : d = d'
  ·subst hdd
   rw [hg] at e
   injection e with e
   subst e
   exact ⟨_, by rw [if_pos rfl, hg]; rfl, hle0, fun _ => rfl⟩
  ·exact ⟨q, by rw [if_neg hdd]; exact e, .refl q, fun _ => rfl⟩, fun _ _ _ e => e⟩
 have hstep := h.onRec (G' := G') (w' := w) hr hg (fun r => { r with toks := r.toks.set g none }) (fun q => { q with tk := q.tk.set g { T with n := none } }) (· = .tok d g) rfl rfl (fun _ _ _ e => e) hle0 rfl hk
  (fun o ho => .inr ⟨_, ho⟩) ?_ h.imm (Below.refl _ _) (fun b o e => ?_)
 ·refine ⟨G', rfl, rfl, by simp [G'], fun b o e => ?_, hstep.1, hstep.2⟩
  simp only [G'] at e
  split at e
  ·cases e
  ·exact ⟨e, by assumption⟩
 ·refine hrr.tokens (toks' := r.toks.set g none) (tk' := gr.tk.set g { T with n := none }) hgle hk (by simp [hrr.tlen]) (fun hm => none_set hm (.inl rfl)) (fun j p U e1 e2 => ?_)
  rcases set_get e1 with ⟨hne, e1⟩ | ⟨rfl, rfl, _⟩
  ·rcases set_get e2 with ⟨_, e2⟩ | ⟨hj, _⟩
   ·exact .inl ⟨hne, e1, e2⟩
   ·exact absurd hj hne
  ·rcases set_get e2 with ⟨hj, _⟩ | ⟨_, rfl, _⟩
   ·exact absurd rfl hj
   ·exact .inr ⟨rfl, rfl, fun m hm => by cases hm⟩
 ·simp only [G'] at e
  split at e
  ·cases e
  ·exact h.ownlt b o e
theorem addTok_free (h : SRel P B0 w0 G s w) {d n : Nat} {r : Rec} {gr : GRec} {T : TokG} (hr : s.acts[d]? = some r) (hg : G.acts[d]? = some gr) (hfree : G.own T.blk = none) (hTn : T.n = some n)
  (hT : B0 ≤ T.blk ∧ (∀ i, n * T.es ≤ i → G.I T.blk i = none) ∧ n ≤ T.cap ∧ 0 < T.es ∧ ∃ arr ty, w.heap[T.blk]? = some (.cells arr ty) ∧ arr.size = T.cap * T.es) :
  ∃ G', G'.acts = G.acts.modify d (fun q => { q with tk := q.tk ++ [T] }) ∧ G'.I = G.I ∧ SRel P B0 w0 G' (s.addTok d n) w ∧ ∀ k nl, GLe k nl G G' := by
 have hrr := h.rec_ d r gr hr hg
 obtain ⟨t1, t3, t4, t5, arr, ty, t6, t7⟩ := hT
 let G' : Ghost := { G with acts := G.acts.modify d fun q => { q with tk := q.tk ++ [T] }, own := fun b => if b = T.blk then some (.tok d r.toks.length) else G.own b }
 have hk : KeepsOwn (· = .tok d r.toks.length) G w G' w := fun b o ho _ => by
  refine ⟨?_, rfl, fun _ e => e⟩
  simp only [G']
  rw [if_neg]
  ·exact ho
  ·rintro rfl
   rw [hfree] at ho
   cases ho
 have hle0 : RecLe gr { gr with tk := gr.tk ++ [T] } := ⟨fun b blk e => e, fun g U e => ⟨U, get_old e, .refl U⟩, rfl, fun _ _ e => e, fun _ _ e => e⟩
 have hgle : GLe d gr.nl G G' := ⟨fun _ _ _ e => e, fun d' q _ e => by
  show ∃ gr', (G.acts.modify d _)[d']? = some gr' ∧ _
  rw [modify_get]
  by_cases hdd : d = d'
  ·subst hdd
   rw [hg] at e
   injection e with e
   subst e
   exact ⟨_, by rw [if_pos rfl, hg]; rfl, hle0, fun _ => rfl⟩
  ·exact ⟨q, by rw [if_neg hdd]; exact e, .refl q, fun _ => rfl⟩, fun _ _ _ e => e⟩
 have hstep := h.onRec (G' := G') (w' := w) hr hg (fun r => { r with toks := r.toks ++ [some n] }) (fun q => { q with tk := q.tk ++ [T] }) (· = .tok d r.toks.length) rfl rfl (fun _ _ _ e => e) hle0 rfl hk
  (fun o ho => .inr ⟨_, ho⟩) ?_ h.imm (Below.refl _ _) (fun b o e => ?_)
 ·exact ⟨G', rfl, rfl, hstep.1, hstep.2⟩
 ·refine hrr.tokens (toks' := r.toks ++ [some n]) (tk' := gr.tk ++ [T]) hgle hk (by simp [hrr.tlen]) (List.mem_append_left _) (fun g m U e1 e2 => ?_)
  rcases get_push e1 with ⟨hlt, e1⟩ | ⟨rfl, rfl⟩
  ·refine .inl ⟨by omega, e1, ?_⟩
   rcases get_push e2 with ⟨_, e2⟩ | ⟨hb, _⟩
   ·exact e2
   ·rw [hrr.tlen] at hb; omega
  ·have : U = T := by
    rcases get_push e2 with ⟨hb, _⟩ | ⟨_, e⟩
    ·rw [hrr.tlen] at hb; omega
    ·exact e
   subst this
   refine .inr ⟨rfl, hTn, fun m hm => ?_⟩
   injection hm with hm
   subst hm
   exact ⟨t1, by simp [G'], t3, t4, t5, arr, ty, t6, t7⟩
 ·simp only [G'] at e
  split at e
  ·rename_i hb; subst hb; exact (Array.getElem?_eq_some_iff.1 t6).1
  ·exact h.ownlt b o e
theorem fit_sound (h : At P B0 w0 G k nl s w) {d nd : Nat} {x x' : AV} {v : Value} {s' : Sig} (hdk : d < k) (hx : Rel G k nl x v) (hc : x.isCell = true) (hf : s.fit d x = some (x', s')) :
  ∃ G', At P B0 w0 G' k nl s' w ∧ GLe (k + 1) s.loops.length G G' ∧ s'.loops = s.loops ∧ Rel G' d nd x' v ∧ x'.isCell = true := by
 have hself := GLe.refl (k + 1) s.loops.length G
 by_cases h1 : ∃ d' g es xs, x = .slice (.tok d' g) es xs
 ·obtain ⟨d', g, es, xs, rfl⟩ := h1
  simp only [Sig.fit] at hf
  split at hf
  ·rename_i hle
   injection hf with hf
   injection hf with e1 e2
   subst e1 e2
   refine ⟨G, h, hself, rfl, ?_, rfl⟩
   cases hx with
   | cl hx => exact .cl hx
   | tok T gr hd hg ht hes hc hn => exact .tok T gr hle hg ht hes hc hn
  ·rename_i hle
   split at hf
   ·rename_i hcur
    obtain ⟨hcd, hct⟩ := hcur
    injection hf with hf
    injection hf with e1 e2
    subst e1 e2
    rw [h.cur_eq] at hcd
    subst hcd
    cases hx with
    | cl hx => cases hx with
     | slice f ho => rcases ho with h | ⟨h, _⟩ <;> cases h
     | empty ho => rcases ho with h | h <;> cases h
    | tok T gr hd hg ht hes hxc hn =>
    obtain ⟨r, hr, hrt⟩ := tok_eq hct
    have hrr := h.rel.rec_ _ r gr hr hg
    obtain ⟨hTn, hT2⟩ := hrr.tok g _ T hrt ht
    obtain ⟨t1, t2, t3, t4, t5, arr, ty, t6, t7⟩ := hT2 _ rfl
    obtain ⟨_, heq⟩ := hn _ hTn
    obtain ⟨rfl, rfl⟩ := heq rfl
    obtain ⟨G1, a1, a2, a3, _, a5, a6⟩ := dropTok h.rel hr hg hrt ht
    obtain ⟨rd, grd, hrd, hgd⟩ := h.rec_ (Nat.le_of_lt hdk)
    have hne : d' ≠ d := by omega
    have hrd1 : (s.setTok d' g none).acts[d]? = some rd := by
     simp only [Sig.setTok, Sig.onRec, modify_get]
     rw [if_neg hne]; exact hrd
    have hgd1 : G1.acts[d]? = some grd := by
     rw [a1, modify_get, if_neg hne]; exact hgd
    obtain ⟨G2, b1, b2, b3, b4⟩ := addTok_free a5 (T := T) hrd1 hgd1 a3 hTn ⟨t1, by rw [a2]; exact t3, t4, t5, arr, ty, t6, t7⟩
    have hle12 : GLe (d' + 1) s.loops.length G G2 := (a6 _ _).trans (b4 _ _)
    refine ⟨G2, h.to b3 (hle12.less (by omega) h.nle) (by simp [Sig.addTok, Sig.setTok, Sig.onRec]), hle12, rfl, ?_, rfl⟩
    have hga : G2.acts[d]? = some { grd with tk := grd.tk ++ [T] } := by rw [b1, modify_get, if_pos rfl, hgd1]; rfl
    have hnt : s.ntok d = grd.tk.length := by rw [ntok_eq hrd, (h.rel.rec_ d rd grd hrd hgd).tlen]
    rw [hnt]
    refine .tok T _ (Nat.le_refl _) hga (by show (grd.tk ++ [T])[grd.tk.length]? = _; rw [List.getElem?_append_right (Nat.le_refl _)]; simp) hes (hxc.mono hle12.I) hn
   ·injection hf with hf
    injection hf with e1 e2
    subst e1 e2
    exact ⟨G, h, hself, rfl, .cl (hx.close (z := .slice .any es xs) rfl), rfl⟩
 ·by_cases h2 : ∃ d' b off, x = .ptr d' b off
  ·obtain ⟨d', b, off, rfl⟩ := h2
   simp only [Sig.fit] at hf
   split at hf
   ·rename_i hle
    injection hf with hf
    injection hf with e1 e2
    subst e1 e2
    obtain ⟨blk, gr, rfl, _, hg, hb⟩ := hx.inv_ptr
    exact ⟨G, h, hself, rfl, .ptr gr hle hg hb, rfl⟩
   ·cases hf
  ·by_cases h3 : ∃ d' b off es n cap, x = .rsl d' b off es n cap
   ·obtain ⟨d', b, off, es, n, cap, rfl⟩ := h3
    simp only [Sig.fit] at hf
    split at hf
    ·rename_i hle
     injection hf with hf
     injection hf with e1 e2
     subst e1 e2
     obtain ⟨blk, gr, rc, o0, rfl, _, hg, hb, hn, hc, hw, ho⟩ := hx.inv_rsl
     exact ⟨G, h, hself, rfl, .rsl gr hle hg hb hn hc hw ho, rfl⟩
    ·cases hf
   ·have he : s.fit d x = x.close.map (·, s) := by
     unfold Sig.fit
     split
     ·exact absurd ⟨_, _, _, _, rfl⟩ h1
     ·exact absurd ⟨_, _, _, rfl⟩ h2
     ·exact absurd ⟨_, _, _, _, _, _, rfl⟩ h3
     ·rfl
    rw [he] at hf
    cases hcl : x.close with
    | none => rw [hcl] at hf; cases hf
    | some z =>
     rw [hcl] at hf
     injection hf with hf
     injection hf with e1 e2
     subst e1 e2
     exact ⟨G, h, hself, rfl, .cl (hx.close hcl), close_isCell hcl hc⟩
theorem fitAll_sound {d nd : Nat} (hdk : d < k) : ∀ {xs ys : List AV} {vs : List Value} {G : Ghost} {s s' : Sig}, At P B0 w0 G k nl s w → (hl : vs.length = xs.length) → (∀ i (hi : i < xs.length) (hj : i < vs.length), Rel G k nl xs[i] vs[i] ∧ xs[i].isCell = true) →
  (hnd : ∀ gr, G.acts[d]? = some gr → gr.nl = nd) → s.fitAll d xs = some (ys, s') →
  ∃ G', At P B0 w0 G' k nl s' w ∧ GLe (k + 1) s.loops.length G G' ∧ s'.loops = s.loops ∧ ys.length = xs.length ∧ ∀ i (hi : i < ys.length) (hj : i < vs.length), Rel G' d nd ys[i] vs[i] ∧ ys[i].isCell = true
 | [], ys, vs, G, s, s', h, hl, _, _, hf => by
  simp only [Sig.fitAll] at hf
  injection hf with hf
  injection hf with e1 e2
  subst e1 e2
  exact ⟨G, h, GLe.refl _ _ _, rfl, rfl, fun i hi => absurd hi (Nat.not_lt_zero _)⟩
 | x :: xs, ys, [], G, s, s', h, hl, _, _, hf => by simp at hl
 | x :: xs, ys, v :: vs, G, s, s', h, hl, hR, hnd, hf => by
  simp only [Sig.fitAll] at hf
  split at hf
  ·cases hf
  ·rename_i y s1 hy
   split at hf
   ·cases hf
   ·rename_i zs s2 hz
    injection hf with hf
    injection hf with e1 e2
    subst e1 e2
    have h0 := hR 0 (by simp) (by simp)
    obtain ⟨G1, a1, a2, a3, a4, a5⟩ := fit_sound (nd := nd) h hdk h0.1 h0.2 hy
    have hlvl : nd ≤ s.loops.length := by
     obtain ⟨_, gr, _, hg⟩ := h.rec_ (Nat.le_of_lt hdk)
     rw [← hnd gr hg]
     exact h.rel.nls _ _ hg
    obtain ⟨G2, b1, b2, b3, b4, b5⟩ := fitAll_sound hdk (nd := nd) a1 (by simpa using hl) (fun i hi hj => by
     have := hR (i + 1) (by simpa using hi) (by simpa using hj)
     exact ⟨this.1.mono (a2.less (by omega) h.nle) (Nat.le_refl _) (Nat.le_refl _), this.2⟩) (fun gr hg => by
     obtain ⟨_, gr0, _, hg0⟩ := h.rec_ (Nat.le_of_lt hdk)
     obtain ⟨gr', hg', hle, _⟩ := a2.acts d gr0 (by omega) hg0
     rw [hg] at hg'
     injection hg' with hg'
     subst hg'
     exact hle.nl.trans (hnd _ hg0)) hz
    rw [a3] at b2
    refine ⟨G2, b1, a2.trans b2, b3.trans a3, by simp [b4], fun i hi hj => ?_⟩
    cases i with
    | zero => exact ⟨a4.mono (b2.less (by omega) hlvl) (Nat.le_refl _) (Nat.le_refl _), a5⟩
    | succ i => exact b5 i (by simpa using hi) (by simpa using hj)
theorem store_core (h : At P B0 w0 G k nl s w) {x y : AV} {px v : Value} {n : Nat} {s' : Sig} (hx : Rel G k nl x px) (hy : Rel G k nl y v) (hs : s.store n x y = some s') :
  ∃ blk off arr ty, px = .pointer (some ⟨blk, off, none⟩) ∧ w.heap[blk]? = some (.cells arr ty) ∧ v.cells.size = n ∧ off + n ≤ arr.size ∧ (∀ u, u ∈ v.cells.toList → u.oneCell' = true) ∧ StepTo P B0 w0 G k nl s s' (w.setCells blk off v.cells.toList) AV.undef Go.undef := by
 unfold Sig.store at hs
 split at hs
 case h_2 => cases hs
 rename_i d b off
 split at hs
 case isFalse => cases hs
 rename_i hcond
 obtain ⟨hro, hlen, hall⟩ := hcond
 obtain ⟨blk, gr, rfl, hd, hg, hbl⟩ := hx.inv_ptr
 obtain ⟨hsz, hcells⟩ := hy.cells hall
 have hvsz : v.cells.size = n := hsz.trans hlen
 have hcell : ∀ c, c ∈ y.cells → c.isCell = true := fun c hc => List.all_eq_true.1 hall c hc
 have hone : ∀ u, u ∈ v.cells.toList → u.oneCell' = true := fun u hu => by
  obtain ⟨i, hi, rfl⟩ := List.getElem_of_mem hu
  have hi' : i < y.cells.length := by rw [← hsz]; simpa using hi
  have := hcells i hi'
  have he : v.cells.getD i Go.undef = v.cells.toList[i] := by
   have : i < v.cells.size := by simpa using hi
   simp [Array.getD, this]
  rw [he] at this
  exact oneCell_of_rel this (hcell _ (List.getElem_mem hi'))
 split at hs
 ·cases hs
 rename_i cs m1 hfit
 split at hs
 ·cases hs
 rename_i row hrow
 split at hs
 case isFalse => cases hs
 rename_i hle
 injection hs with hs
 subst hs
 obtain ⟨_, hnd0⟩ : ∃ nd, gr.nl = nd := ⟨_, rfl⟩
 have hkey : ∃ G1 gr1, At P B0 w0 G1 k nl m1 w ∧ GLe (k + 1) s.loops.length G G1 ∧ m1.loops = s.loops ∧ cs.length = n ∧ G1.acts[d]? = some gr1 ∧ gr1.bl[b]? = some (some blk) ∧ (∀ i (hi : i < cs.length) (hj : i < v.cells.toList.length), Rel G1 d gr1.nl cs[i] v.cells.toList[i]) ∧ ∀ c, c ∈ cs → c.isCell = true := by
  have hpt : ∀ i (hi : i < y.cells.length) (hj : i < v.cells.toList.length), Rel G k nl y.cells[i] v.cells.toList[i] ∧ y.cells[i].isCell = true := fun i hi hj => by
   have := hcells i hi
   have he : v.cells.getD i Go.undef = v.cells.toList[i] := by
    have : i < v.cells.size := by simpa using hj
    simp [Array.getD, this]
   rw [he] at this
   exact ⟨this, hcell _ (List.getElem_mem hi)⟩
  by_cases hdc : d = s.cur
  ·rw [if_pos hdc] at hfit
   injection hfit with hfit
   injection hfit with e1 e2
   subst e1 e2
   have hdk : d = k := by rw [h.cur_eq] at hdc; exact hdc
   subst hdk
   obtain ⟨gc, hgc, hgn⟩ := h.cur
   rw [hg] at hgc
   injection hgc with hgc
   subst hgc
   exact ⟨G, gr, h, GLe.refl _ _ _, rfl, hlen, hg, hbl, fun i hi hj => by rw [hgn]; exact (hpt i hi hj).1, hcell⟩
  ·rw [if_neg hdc] at hfit
   have hdk : d < k := by rw [h.cur_eq] at hdc; omega
   obtain ⟨G1, a1, a2, a3, a4, a5⟩ := fitAll_sound (nd := gr.nl) (vs := v.cells.toList) hdk h (by simpa using hsz) hpt (fun g e => by rw [hg] at e; injection e with e; rw [e]) hfit
   obtain ⟨gr1, hg1, hle1, _⟩ := a2.acts d gr (by omega) hg
   refine ⟨G1, gr1, a1, a2, a3, a4.trans hlen, hg1, hle1.bl _ _ hbl, fun i hi hj => ?_, fun c hc => ?_⟩
   ·rw [hle1.nl]
    exact (a5 i hi hj).1
   ·obtain ⟨i, hi, rfl⟩ := List.getElem_of_mem hc
    exact (a5 i hi (by simp [hvsz, ← hlen, ← a4, hi])).2
 obtain ⟨G1, gr1, hat1, hle1, hl1, hcl, hg1, hbl1, hRs, hcs⟩ := hkey
 obtain ⟨r, hr, hbx, hbrel, arr, ty, hheap, _, hrowcell⟩ := hat1.box hd hrow hg1 hbl1
 obtain ⟨bb1, bb2, bb3, arr', ty', hheap', harr, hgsz, hold⟩ := hbrel
 rw [hheap] at hheap'
 injection hheap' with hheap'
 injection hheap' with e1 e2
 subst e1 e2
 refine ⟨blk, off, arr, ty, rfl, hheap, hvsz, Nat.le_trans hle harr, hone, ?_⟩
 have hRow : RowLe (Rel G1 d gr1.nl) row arr := ⟨harr, fun i hi => (hold i hi).2⟩
 have hRow' : RowLe (Rel G1 d gr1.nl) (setCells row off cs) (setA arr off v.cells.toList) := RowLe.setA (by simp [hvsz, hcl]) hRs off hRow
 by_cases hrow0 : row = []
 · -- nothing is written to a dead box
  subst hrow0
  have hn0 : n = 0 := by simp at hle; omega
  have hcs0 : cs = [] := List.eq_nil_of_length_eq_zero (by rw [hcl]; exact hn0)
  have hv0 : v.cells.toList = [] := List.eq_nil_of_length_eq_zero (by rw [Array.length_toList, hvsz]; exact hn0)
  subst hcs0
  rw [hv0]
  have hsame : m1.setBox d b (setCells [] off []) = m1 := by
   simp only [Sig.setBox, Sig.onRec, setCells]
   have : m1.acts.modify d (fun r => { r with boxes := r.boxes.set b [] }) = m1.acts := by
    apply List.ext_getElem?
    intro i
    rw [List.getElem?_modify]
    by_cases hi : d = i
    ·subst hi
     rw [hr]
     have : r.boxes.set b [] = r.boxes := by
      apply List.ext_getElem?
      intro j
      rw [List.getElem?_set]
      split
      ·rename_i hj
       subst hj
       rw [hbx, if_pos (List.getElem?_eq_some_iff.1 hbx).1]
      ·rfl
     show some (if d = d then (⟨r.boxes.set b [], r.toks⟩ : Rec) else r) = some r
     rw [if_pos rfl, this]
    ·simp [hi]
   rw [this]
  rw [hsame]
  exact ⟨G1, hat1, hle1, by rw [hl1], .undef⟩
 have hne : setCells row off cs ≠ [] := by
  intro e
  have e2 := congrArg List.length e
  simp [setCells_length] at e2
  exact hrow0 e2
 have hsr := hat1.rel.setBox (cs' := setCells row off cs) (w' := w.setCells blk off v.cells.toList) hr hg1 hbx hbl1 hrow0 hne (fun c hc => by
   rcases setCells_mem hc with h | h
   ·exact hrowcell c h
   ·exact hcs c h) hRow' (fun m hm => by rw [setA_size]; exact hgsz hrow0 m hm) (heap_setCells _ _ _ _ hheap) (fun c hc => heap_setCells_other hc _ _ _) (below_setCells bb1 _ _ _) (size_setCells _ _ _ _)
 refine ⟨G1, hat1.to hsr (GLe.refl _ _ _) (by simp [Sig.setBox, Sig.onRec]), hle1, by simp [Sig.setBox, Sig.onRec, hl1], .undef⟩
theorem store_sound (h : At P B0 w0 G k nl s w) {x y : AV} {px v : Value} {n : Nat} {t : TypeId} {s' : Sig} (hx : Rel G k nl x px) (hy : Rel G k nl y v) (hn : sizeP P t = some n) (hs : s.store n x y = some s') :
  ∃ w', (Instr.storeAt t px v).run P w = .ok () w' ∧ StepTo P B0 w0 G k nl s s' w' AV.undef Go.undef := by
 obtain ⟨blk, off, arr, ty, rfl, h1, h2, h3, h4, h5⟩ := store_core h hx hy hs
 exact ⟨_, store_run h1 hn h2 h3 h4, h5⟩
end
end Go.Ax

/-
  copy of plain cells, and a slice that is not written to any more.
-/
namespace Go.Ax
open Go.RowKit
section
variable {P : Program} {B0 : Nat} {w0 : World} {G : Ghost} {k nl : Nat} {w : World} {s : Sig}
theorem flat_one {α : Type} {xs : List (List α)} (h : ∀ r, r ∈ xs → r.length = 1) : xs.flatten.length = xs.length := by
 have := (flatten_get (es := 1) (by omega) h).1
 omega
theorem src_rel (h : At P B0 w0 G k nl s w) {b : AV} {y : Value} {ys : List AV} (hy : Rel G k nl b y) (hs : s.srcCells b = some ys) :
  ∃ (ad : Option Addr) (cap : Nat) (f : Nat → Value), y = .slice ad ys.length cap ∧ (0 < ys.length → ∃ a, ad = some a ∧ ∀ j, j < ys.length → w.cell? (a.add j) = some (f j)) ∧
   ∀ i (hi : i < ys.length), Rel G k nl ys[i] (f i) ∧ ys[i].isCell = true := by
 cases b with
 | slice o e xs =>
  simp only [Sig.srcCells] at hs
  split at hs
  case isFalse => cases hs
  rename_i hc
  injection hs with hs
  subst hs
  by_cases hxe : xs = []
  ·subst hxe
   rcases hy.inv_slice with ⟨_, _, rfl⟩ | ⟨_, aa, c, rfl, _⟩
   ·exact ⟨none, 0, fun _ => Go.undef, rfl, fun h => absurd h (Nat.lt_irrefl _), fun i hi => absurd hi (Nat.not_lt_zero _)⟩
   ·exact ⟨some aa, c, fun _ => Go.undef, rfl, fun h => absurd h (Nat.lt_irrefl _), fun i hi => absurd hi (Nat.not_lt_zero _)⟩
  ·have he : e = 1 := by
    rcases hc with hc | hc
    ·exact hc
    ·exact absurd (by simpa using hc) hxe
   subst he
   have hx0 : 0 < xs.length := List.length_pos_iff.2 hxe
   rcases hy.inv_slice with ⟨_, hn, _⟩ | ⟨_, ay, cy, rfl, _, _, hyc, _⟩
   ·exact absurd hn hxe
   ·obtain ⟨hys', hcy, ly, ccy, fy, hyI, hyR⟩ := SliceC.flat hyc (by omega)
    have hay : ay = ⟨ay.block, ay.off, none⟩ := addr_eta (hys' (by omega))
    obtain ⟨fl1, fl2⟩ := flatten_get (es := 1) (by omega) ly
    have hl := flat_one ly
    refine ⟨some ay, cy, fy, by rw [hl], fun _ => ⟨ay, rfl, fun j hj => ?_⟩, fun i hi => ⟨?_, ?_⟩⟩
    ·rw [hay, addr_add]; exact h.rel.imm _ _ _ (hyI j (by omega))
    ·obtain ⟨g1, g2, g3⟩ := fl2 i hi
     rw [g3]
     have := hyR _ g1 _ g2
     rw [Nat.div_add_mod'] at this
     exact .cl this
    ·obtain ⟨r, hr, hcr⟩ := List.mem_flatten.1 (List.getElem_mem hi)
     exact ccy r hr _ hcr
 | rsl d b off e n cap =>
  simp only [Sig.srcCells] at hs
  split at hs
  case isFalse => cases hs
  rename_i he
  subst he
  obtain ⟨cs, hbox, hs⟩ := Option.bind_eq_some_iff.1 hs
  split at hs
  case isFalse => cases hs
  rename_i hle
  injection hs with hs
  subst hs
  obtain ⟨blk, gr, rc, o0, rfl, hd, hg, hbl, hnr, _, hw, ho⟩ := hy.inv_rsl
  obtain ⟨r, hr, hbx, hbrel, arr, tb, hheap, hrow, hrcell⟩ := h.box hd hbox hg hbl
  have hl : ((cs.drop off).take n).length = n := by simp; omega
  refine ⟨_, rc, fun j => arr.getD (off + j) Go.undef, by rw [hl], fun h0 => ⟨_, rfl, fun j hj => ?_⟩, fun i hi => ?_⟩
  ·have := ho (.inl (by omega))
   subst this
   rw [addr_add, cell_of_heap hheap]
   have : o0 + j < arr.size := by have := hrow.1; omega
   simp [Array.getD, this]
  ·have he : ((cs.drop off).take n)[i] = cs[off + i]'(by omega) := by simp
   rw [he]
   exact ⟨hrow.2 _ _, hrcell _ (List.getElem_mem _)⟩
 | _ => cases hs
theorem copy_sound (h : At P B0 w0 G k nl s w) {t u e ty : TypeId} (ht : P.underlying t = some (.slice e)) (hz : sizeP P e = some 1) {a b v : AV} {x y : Value} {s' : Sig}
  (hx : Rel G k nl a x) (hy : Rel G k nl b y) (hc : copyOp s a b = some (v, s')) :
  ∃ x' w', (Builtin.copy_ #[t, u] ty #[x, y]).run P w = .ok x' w' ∧ StepTo P B0 w0 G k nl s s' w' v x' := by
 unfold copyOp at hc
 split at hc
 ·rename_i o e1
  obtain ⟨ys, h1, hc⟩ := Option.map_eq_some_iff.1 hc
  injection hc with e1 e2
  subst e1 e2
  obtain ⟨ad, cap, f, rfl, _, _⟩ := src_rel h hy h1
  obtain ⟨dd, c, rfl⟩ : ∃ dd c, x = .slice dd 0 c := by
   rcases hx.inv_slice with ⟨_, _, rfl⟩ | ⟨_, aa, c, rfl, _⟩
   ·exact ⟨_, _, rfl⟩
   ·exact ⟨_, _, rfl⟩
  exact ⟨_, w, run_copy_none w t u ty e dd ad 0 c ys.length cap ht hz (by simp), G, h, GLe.refl _ _ _, rfl, .cl (.v rfl)⟩
 ·rename_i d b off e1 n cap
  split at hc
  case isFalse => cases hc
  rename_i he
  subst he
  obtain ⟨ys, h1, hc⟩ := Option.bind_eq_some_iff.1 hc
  obtain ⟨ad, capy, f, rfl, hcell, hys⟩ := src_rel h hy h1
  have hx' := hx
  obtain ⟨blk, gr, rc, o0, rfl, hd, hg, hbl, hnr, _, hw, ho⟩ := hx.inv_rsl
  split at hc
  ·rename_i hem
   injection hc with hc
   injection hc with e1 e2
   subst e1 e2
   have hmin : Nat.min ys.length n = 0 := by
    have : (ys.take n).length = 0 := by rw [List.isEmpty_iff.1 hem]; rfl
    rw [List.length_take] at this
    show min ys.length n = 0
    omega
   exact ⟨_, w, run_copy_none w t u ty e _ ad n rc ys.length capy ht hz hmin, G, h, GLe.refl _ _ _, rfl, .cl (.v rfl)⟩
  ·rename_i hem
   obtain ⟨q, hst, hc⟩ := Option.map_eq_some_iff.1 hc
   injection hc with e1 e2
   subst e1 e2
   have hpos : 0 < (ys.take n).length := by
    apply List.length_pos_iff.2
    intro e
    rw [e] at hem
    exact hem rfl
   have hlt : (ys.take n).length = min n ys.length := List.length_take
   have hn0 : 0 < n := by omega
   have := ho (.inl hn0)
   subst this
   have hpx : Rel G k nl (.ptr d b o0) (.pointer (some ⟨blk, o0, none⟩)) := .ptr gr hd hg hbl
   have hyv : Rel G k nl (.agg (ys.take n)) (.agg ((List.range (ys.take n).length).map f).toArray) := by
    refine .agg (by simp) (fun c hc => ?_) (fun i hi => ?_)
    ·obtain ⟨i, hi, rfl⟩ := List.getElem_of_mem hc
     have hi' : i < ys.length := by rw [hlt] at hi; omega
     rw [List.getElem_take]
     exact (hys i hi').2
    ·have hi' : i < ys.length := by rw [hlt] at hi; omega
     have : ((List.range (ys.take n).length).map f).toArray.getD i Go.undef = f i := by simp [Array.getD] at hi ⊢; omega
     rw [this, List.getElem_take]
     exact (hys i hi').1
   obtain ⟨blk', off', arr, tb, e1, h2, h3, h4, h5, h6⟩ := store_core h hpx hyv hst
   injection e1 with e1
   injection e1 with e1
   injection e1 with e1 e2
   subst e1 e2
   obtain ⟨ay, rfl, hcl⟩ := hcell (by omega)
   have hcs : (Value.agg ((List.range (ys.take n).length).map f).toArray).cells.toList = (List.range (ys.take n).length).map f := rfl
   rw [hcs] at h5 h6
   have hlen : ((List.range (ys.take n).length).map f).length = (ys.take n).length := by simp
   have hrun := run_copy_cells (P := P) w t u ty e blk o0 n rc ay ys.length capy ((List.range (ys.take n).length).map f) ht hz (by rw [hlen, hlt]; exact Nat.min_comm _ _) (fun j v hj => by
     have hjl : j < (ys.take n).length := by
      have := (List.getElem?_eq_some_iff.1 hj).1
      rw [hlen] at this; exact this
     have e : ((List.range (ys.take n).length).map f)[j]? = some (f j) := by rw [List.getElem?_map, List.getElem?_range hjl]; rfl
     rw [e] at hj
     injection hj with hj
     subst hj
     exact hcl j (by omega)) (fun j hj => by
     rw [hlen] at hj
     rw [cell_of_heap h2]
     have : o0 + j < arr.size := by omega
     simp [this]) (fun j _ => frozen_of_heap h2) h5
   refine ⟨_, _, hrun, ?_⟩
   obtain ⟨G', a1, a2, a3, _⟩ := h6
   rw [hlen]
   exact ⟨G', a1, a2, a3, .cl (.v rfl)⟩
 ·cases hc
end
end Go.Ax

/-
  The other operations without a call.
-/
namespace Go.Ax
open Go.RowKit
section
variable {P : Program} {B0 : Nat} {w0 : World} {G : Ghost} {k nl : Nat} {w : World} {s : Sig}
theorem StepTo.same (h : At P B0 w0 G k nl s w) {x : AV} {v : Value} (hv : Rel G k nl x v) : StepTo P B0 w0 G k nl s s w x v := ⟨G, h, GLe.refl _ _ _, rfl, hv⟩
theorem Rel.val (x : Value) (h : plain x = true) : Rel G k nl (.v x) x := .cl (.v h)
theorem intOp_run {op : BinOp} {kd : IntKind} {x y : Int} {v : Value} (h : intOp op kd x y = some v) (hs : isShift op = false) (t : TypeId) :
    (binOp op t (.int kd x) (.int kd y)).run P w = .ok v w ∧ plain v = true := by
  cases op <;> simp only [isShift] at hs <;> first
    | (cases hs; done)
    | (simp only [intOp] at h
       first
         | (injection h with h; subst h; exact ⟨by simp [binOp, Op.intArith, Op.intBits, Op.intCmp], rfl⟩)
         | (split at h
            · cases h
            · rename_i hy
              injection h with h
              subst h
              exact ⟨by simp [binOp, Op.intDiv, hy], rfl⟩)
         | cases h)
theorem shiftOp_run {op : BinOp} {kx ky : IntKind} {x y : Int} {v : Value} (h : shiftOp op kx x y = some v) (t : TypeId) :
  (binOp op t (.int kx x) (.int ky y)).run P w = .ok v w ∧ plain v = true := by
 unfold shiftOp at h
 split at h
 ·cases h
 ·rename_i hy
  cases op <;> simp only at h <;> first
   | (cases h; done)
   | (injection h with h; subst h; exact ⟨by simp [binOp, Op.shift, hy], rfl⟩)
theorem strOp_run {op : BinOp} {x y : ByteArray} {v : Value} (h : strOp op x y = some v) (t : TypeId) :
    (binOp op t (.string x) (.string y)).run P w = .ok v w ∧ plain v = true := by
  unfold strOp at h
  simp only [← ByteArray.toList_eq] at h
  cases op <;> simp only at h <;> first
    | (injection h with h; subst h; exact ⟨by simp [binOp, Op.stringOp], rfl⟩)
    | (split at h
       · cases h
       · rename_i hc
         injection h with h
         subst h
         exact ⟨by simp only [binOp, Op.stringOp]; rw [if_neg hc]; rfl, rfl⟩)
    | cases h
theorem arithOp_cases {op : BinOp} {a b v : AV} (h : arithOp op a b = some v) :
  (∃ kd x kd' y, a = .v (.int kd x) ∧ b = .v (.int kd' y) ∧ ((isShift op = true ∧ ∃ z, shiftOp op kd x y = some z ∧ v = .v z) ∨ (isShift op = false ∧ kd = kd' ∧ ∃ z, intOp op kd x y = some z ∧ v = .v z))) ∨
  ∃ x y z, a = .v (.string x) ∧ b = .v (.string y) ∧ strOp op x y = some z ∧ v = .v z := by
 unfold arithOp at h
 split at h
 ·rename_i kd x kd' y
  refine .inl ⟨kd, x, kd', y, rfl, rfl, ?_⟩
  by_cases hs : isShift op = true
  ·rw [if_pos hs] at h
   cases hz : shiftOp op kd x y with
   | none => rw [hz] at h; cases h
   | some z => rw [hz] at h; injection h with h; exact .inl ⟨hs, z, rfl, h.symm⟩
  ·rw [if_neg hs] at h
   by_cases hk : kd = kd'
   ·rw [if_pos hk] at h
    cases hz : intOp op kd x y with
    | none => rw [hz] at h; cases h
    | some z => rw [hz] at h; injection h with h; exact .inr ⟨by simpa using hs, hk, z, rfl, h.symm⟩
   ·rw [if_neg hk] at h; cases h
 ·rename_i x y
  cases hz : strOp op x y with
  | none => rw [hz] at h; cases h
  | some z => rw [hz] at h; injection h with h; exact .inr ⟨x, y, z, rfl, rfl, hz, h.symm⟩
 ·cases h
theorem arith_sound {op : BinOp} {a b v : AV} {x y : Value} (t : TypeId) (hx : Rel G k nl a x) (hy : Rel G k nl b y) (h : arithOp op a b = some v) :
  ∃ z, (binOp op t x y).run P w = .ok z w ∧ Rel G k nl v z ∧ x ≠ .nilIface ∧ ∀ cs, x ≠ .agg cs := by
 have hc := arithOp_cases h
 clear h
 rcases hc with ⟨kd, a, kd', b, rfl, rfl, hq⟩ | ⟨a, b, z, rfl, rfl, hz, rfl⟩
 ·obtain rfl := hx.inv_v
  obtain rfl := hy.inv_v
  rcases hq with ⟨_, z, hz, rfl⟩ | ⟨hs, rfl, z, hz, rfl⟩
  ·obtain ⟨h1, h2⟩ := shiftOp_run (P := P) (w := w) (ky := kd') hz t
   exact ⟨z, h1, .val z h2, by simp, by simp⟩
  ·obtain ⟨h1, h2⟩ := intOp_run (P := P) (w := w) hz hs t
   exact ⟨z, h1, .val z h2, by simp, by simp⟩
 ·obtain rfl := hx.inv_v
  obtain rfl := hy.inv_v
  obtain ⟨h1, h2⟩ := strOp_run (P := P) (w := w) hz t
  exact ⟨z, h1, .val z h2, by simp, by simp⟩
theorem eqGuard_other {op : BinOp} {t : TypeId} {x y : Operand} {a b : Value} (h1 : a ≠ .nilIface) (h2 : ∀ cs, a ≠ .agg cs) : (eqGuard op t x y a b).run P w = .ok () w := by
 unfold eqGuard
 cases op <;> simp <;> (cases a <;> simp_all)
theorem eql_run (t : TypeId) (neg : Bool) {x y : Value} {b : Bool} (h : (Op.equal t x y).run P w = .ok b w) (hx : (∀ k n, x ≠ .int k n) ∧ (∀ s, x ≠ .string s) ∧ (∀ k n, x ≠ .float k n) ∧ (∀ k m n, x ≠ .complex k m n)) :
  (binOp (if neg then .neq else .eql) t x y).run P w = .ok (.bool (if neg then !b else b)) w := by
 obtain ⟨h1, h2, h3, h4⟩ := hx
 cases neg
 ·simp only [Bool.false_eq_true, if_false]
  have : binOp .eql t x y = (do pure (.bool (← Op.equal t x y))) := by
   cases x <;> first | (exact absurd rfl (h1 _ _)) | (exact absurd rfl (h2 _)) | (exact absurd rfl (h3 _ _)) | (exact absurd rfl (h4 _ _ _)) | rfl
  rw [this]
  simp [h]
 ·simp only [if_true]
  have : binOp .neq t x y = (do pure (.bool (!(← Op.equal t x y)))) := by
   cases x <;> first | (exact absurd rfl (h1 _ _)) | (exact absurd rfl (h2 _)) | (exact absurd rfl (h3 _ _)) | (exact absurd rfl (h4 _ _ _)) | rfl
  rw [this]
  simp [h]
theorem eqPlain_run {kd : PK} {x y : AV} {a b : Value} {c : Bool} {t : TypeId} (hx : Rel G k nl x a) (hy : Rel G k nl y b) (h : eqPlain kd x y = some c) (ht : pkOf P t = some kd) (d : Nat) :
  (Op.equalIn (d + 1) t a b).run P w = .ok c w := by
 unfold pkOf at ht
 unfold eqPlain at h
 split at h
 ·obtain rfl := hx.inv_v
  obtain rfl := hy.inv_v
  split at ht <;> first | (cases ht; done) | skip
  rename_i hu
  split at h
  ·rename_i hkk
   subst hkk
   injection h with h
   subst h
   exact run_equalIn_int w d t _ _ _ _ hu
  ·cases h
 ·obtain rfl := hx.inv_v
  obtain rfl := hy.inv_v
  split at ht <;> first | (cases ht; done) | skip
  rename_i hu
  injection h with h
  subst h
  exact run_equalIn_bool' w d t _ _ hu
 ·obtain rfl := hx.inv_v
  obtain rfl := hy.inv_v
  split at ht <;> first | (cases ht; done) | skip
  rename_i hu
  injection h with h
  rw [← ByteArray.toList_eq, ← ByteArray.toList_eq] at h
  subst h
  exact run_equalIn_string w d t _ _ hu
 ·cases h
theorem part_one {t : TypeId} {kd : PK} (h : pkOf P t = some kd) {cs : Array Value} {i : Nat} (hi : i < cs.size) : (Go.part t cs i).run P w = .ok cs[i] w := by
 have ha : (isAgg t).run P w = .ok false w := by
  unfold pkOf at h
  split at h <;> first
   | (rename_i hu; simp [isAgg, run_underlying hu, pure])
   | cases h
 unfold Go.part
 simp only [Sem.run_bind, ha, Result.andThen_ok, Bool.false_eq_true, if_false]
 simp [hi]
theorem eqFields_run (d : Nat) {xs ys : Array Value} : ∀ (fs : List Field) (ks : List PK) (as bs : List AV) (o : Nat) (c : Bool), (∀ f, f ∈ fs → f.name ≠ "_") → mapO (fun f : Field => pkOf P f.type) fs = some ks → fs.map (·.offset) = List.range' o fs.length →
  xs.size = o + as.length → ys.size = o + bs.length → (∀ i (hi : i < as.length), Rel G k nl as[i] (xs.getD (o + i) Go.undef)) → (∀ i (hi : i < bs.length), Rel G k nl bs[i] (ys.getD (o + i) Go.undef)) →
  eqCells ks as bs = some c → (Op.eqFields (d + 1) xs ys fs).run P w = .ok c w
 | [], ks, as, bs, o, c, _, hk, _, _, _, _, _, h => by
  simp only [mapO] at hk
  injection hk with hk
  subst hk
  cases as with
  | nil => cases bs with
   | nil => simp only [eqCells] at h; injection h with h; subst h; rfl
   | cons => cases h
  | cons => cases h
 | f :: fs, ks, as, bs, o, c, hn, hk, ho, hxs, hys, hxr, hyr, h => by
  simp only [mapO] at hk
  split at hk
  case h_2 => cases hk
  rename_i kd ks' hkd hks
  injection hk with hk
  subst hk
  cases as with
  | nil => cases h
  | cons a as =>
   cases bs with
   | nil => cases h
   | cons b bs =>
    simp only [List.map_cons, List.length_cons, List.range'_succ, List.cons.injEq] at ho
    obtain ⟨ho, ho'⟩ := ho
    simp only [List.length_cons] at hxs hys
    have hx0 := hxr 0 (by simp)
    have hy0 := hyr 0 (by simp)
    simp only [Nat.add_zero, List.getElem_cons_zero] at hx0 hy0
    have hix : o < xs.size := by omega
    have hiy : o < ys.size := by omega
    have ex : xs.getD o Go.undef = xs[o] := by simp [Array.getD, hix]
    have ey : ys.getD o Go.undef = ys[o] := by simp [Array.getD, hiy]
    rw [ex] at hx0
    rw [ey] at hy0
    simp only [eqCells] at h
    simp only [Op.eqFields]
    rw [if_pos (hn f (by simp)), ho]
    split at h
    ·rename_i he
     have hrun := eqPlain_run (P := P) (w := w) hx0 hy0 he hkd d
     have ih := eqFields_run d (xs := xs) (ys := ys) fs ks' as bs (o + 1) c (fun g hg => hn g (by simp [hg])) hks ho' (by omega) (by omega)
      (fun i hi => by have := hxr (i + 1) (by simpa using hi); simpa [Nat.add_assoc, Nat.add_comm 1 i] using this)
      (fun i hi => by have := hyr (i + 1) (by simpa using hi); simpa [Nat.add_assoc, Nat.add_comm 1 i] using this) h
     simp [part_one hkd hix, part_one hkd hiy, hrun, ih]
    ·rename_i he
     injection h with h
     subst h
     have hrun := eqPlain_run (P := P) (w := w) hx0 hy0 he hkd d
     simp [part_one hkd hix, part_one hkd hiy, hrun]
    ·cases h
end
end Go.Ax

/-
  The other operations without a call: each one's run.
-/
namespace Go.Ax
open Go.RowKit
section
variable {P : Program} {B0 : Nat} {w0 : World} {G : Ghost} {k nl : Nat} {w : World} {s : Sig}
theorem eqNil_cases {f : AV → Option Bool} {x y : AV} {c : Bool} (h : eqNil f x y = some c) : (f x = some true ∧ f y = some c) ∨ (f y = some true ∧ f x = some c) := by
 unfold eqNil at h
 split at h
 ·rename_i b h1 h2
  injection h with h
  subst h
  exact .inl ⟨h1, h2⟩
 ·rename_i b _ h1 h2
  injection h with h
  subst h
  exact .inr ⟨h2, h1⟩
 ·cases h
theorem nilS_rel {x : AV} {y : Value} {c : Bool} (h : Rel G k nl x y) (hc : isNilS x = some c) : ∃ a n m, y = .slice a n m ∧ a.isNone = c := by
 unfold isNilS at hc
 split at hc
 ·injection hc with hc
  subst hc
  rcases h.inv_slice with ⟨_, _, rfl⟩ | ⟨hne, _⟩
  ·exact ⟨_, _, _, rfl, rfl⟩
  ·exact absurd rfl hne
 ·rename_i hne
  injection hc with hc
  subst hc
  rcases h.inv_slice with ⟨he, _, _⟩ | ⟨_, a, cap, rfl, _⟩
  ·exact (hne he).elim
  ·exact ⟨_, _, _, rfl, rfl⟩
 ·injection hc with hc
  subst hc
  obtain ⟨blk, gr, rc, o0, rfl, _⟩ := h.inv_rsl
  exact ⟨_, _, _, rfl, rfl⟩
 ·cases hc
theorem nilP_rel {x : AV} {y : Value} {c : Bool} (h : Rel G k nl x y) (hc : isNilP x = some c) : ∃ a : Option Addr, y = .pointer a ∧ a.isNone = c := by
 unfold isNilP at hc
 split at hc
 ·injection hc with hc; subst hc; obtain rfl := h.inv_v; exact ⟨_, rfl, rfl⟩
 ·injection hc with hc; subst hc; obtain ⟨blk, gr, rfl, _⟩ := h.inv_ptr; exact ⟨_, rfl, rfl⟩
 ·injection hc with hc; subst hc; obtain ⟨blk, o0, f, rfl, _⟩ := h.inv_eptr; exact ⟨_, rfl, rfl⟩
 ·cases hc
theorem nilI_rel {x : AV} {y : Value} {c : Bool} (h : Rel G k nl x y) (hc : isNilI x = some c) : (c = true ∧ y = .nilIface) ∨ (c = false ∧ ∃ t z, y = .iface t z) := by
 unfold isNilI at hc
 split at hc
 ·injection hc with hc; subst hc; obtain rfl := h.inv_v; exact .inl ⟨rfl, rfl⟩
 ·injection hc with hc; subst hc; obtain ⟨z, rfl, _⟩ := h.inv_iface; exact .inr ⟨rfl, _, _, rfl⟩
 ·injection hc with hc; subst hc
  cases h with
  | cl h => cases h with | opq => exact .inr ⟨rfl, _, _, rfl⟩
 ·cases hc
theorem nilF_rel {x : AV} {y : Value} {c : Bool} (h : Rel G k nl x y) (hc : isNilF x = some c) : (c = true ∧ y = .nilFunc) ∨ (c = false ∧ ∃ f a b, y = .func f a b) := by
 unfold isNilF at hc
 split at hc
 ·injection hc with hc; subst hc; obtain rfl := h.inv_v; exact .inl ⟨rfl, rfl⟩
 ·injection hc with hc; subst hc; obtain ⟨a, b, rfl, _⟩ := h.inv_fn; exact .inr ⟨rfl, _, _, _, rfl⟩
 ·injection hc with hc; subst hc; obtain ⟨r, rfl, _⟩ := h.inv_yield; exact .inr ⟨rfl, _, _, _, rfl⟩
 ·cases hc
theorem equal_of {t : TypeId} {x y : Value} {b : Bool} (h : ∀ d, (Op.equalIn (d + 1) t x y).run P w = .ok b w) : (Op.equal t x y).run P w = .ok b w := by
 unfold Op.equal Op.maxDepth
 exact h 9999
theorem equal_nilS {t e : TypeId} {a b : Option Addr} {n m n' m' : Nat} (ht : P.underlying t = some (.slice e)) (h : a = none ∨ b = none) :
  (Op.equal t (.slice a n m) (.slice b n' m')).run P w = .ok (a.isNone && b.isNone) w := by
 refine equal_of fun d => ?_
 rcases h with rfl | rfl
 ·simp [Op.equalIn, run_underlying ht]
 ·cases a <;> simp [Op.equalIn, run_underlying ht]
theorem equal_nilP {t e : TypeId} {a b : Option Addr} (ht : P.underlying t = some (.pointer e)) (h : a = none ∨ b = none) :
  (Op.equal t (.pointer a) (.pointer b)).run P w = .ok (a.isNone && b.isNone) w := by
 refine equal_of fun d => ?_
 rcases h with rfl | rfl
 ·simp [Op.equalIn, run_underlying ht]
 ·cases a <;> simp [Op.equalIn, run_underlying ht]
theorem eqNil_both {f : AV → Option Bool} {x y : AV} {c : Bool} (he : eqNil f x y = some c) : ∃ p q, f x = some p ∧ f y = some q ∧ (p = true ∨ q = true) ∧ c = (p && q) := by
 rcases eqNil_cases he with ⟨h1, h2⟩ | ⟨h1, h2⟩
 ·exact ⟨_, _, h1, h2, .inl rfl, by simp⟩
 ·exact ⟨_, _, h2, h1, .inr rfl, by simp⟩
theorem eqGuard_iface {op : BinOp} {neg : Bool} {t : TypeId} {x y : Operand} {u v : Value} (hop : eqNeg op = some neg) (hc : (isNilConst x || isNilConst y) = true) (hu : ∀ cs, u ≠ .agg cs) : (eqGuard op t x y u v).run P w = .ok () w := by
  unfold eqGuard
  cases op <;> first | (cases hop; done) | skip
  all_goals
    cases u <;> first
      | exact absurd rfl (hu _)
      | (cases v <;> first
          | rfl
          | (cases x <;> cases y <;> first
              | rfl
              | (simp [isNilConst] at hc; done)))
theorem eqv_sound {op : BinOp} {neg neg' : Bool} {t : TypeId} {x y : Operand} {bx by_ ax ay : AOpd} {kd : EqKind} {ρ : Nat → AV} {a : Act} {c : Bool} (hop : eqNeg op = some neg) (rx : Rel G k nl (evalT ρ bx) (a.eval x)) (ry : Rel G k nl (evalT ρ by_) (a.eval y))
  (hm : compEq P op neg t x y bx by_ = some (.eqv neg' kd ax ay)) (he : eqOp kd (evalT ρ ax) (evalT ρ ay) = some c) :
  (do eqGuard op t x y (a.eval x) (a.eval y); binOp op t (a.eval x) (a.eval y)).run P w = .ok (.bool (if neg' then !c else c)) w := by
 have hop' : op = (if neg = true then BinOp.neq else BinOp.eql) := by
  cases op <;> simp [eqNeg] at hop <;> subst hop <;> rfl
 have fin : ∀ {b : Bool}, (eqGuard op t x y (a.eval x) (a.eval y)).run P w = .ok () w → (Op.equal t (a.eval x) (a.eval y)).run P w = .ok b w →
   ((∀ k n, a.eval x ≠ .int k n) ∧ (∀ s, a.eval x ≠ .string s) ∧ (∀ k n, a.eval x ≠ .float k n) ∧ (∀ k m n, a.eval x ≠ .complex k m n)) →
   (do eqGuard op t x y (a.eval x) (a.eval y); binOp op t (a.eval x) (a.eval y)).run P w = .ok (.bool (if neg then !b else b)) w := fun hg hq hn => by
  have := eql_run (P := P) (w := w) t neg hq hn
  rw [← hop'] at this
  simp [hg, this]
 unfold compEq at hm
 split at hm <;> first | (cases hm; done) | skip
 · -- bools
  rename_i hu
  injection hm with hm
  injection hm with e1 e2 e3 e4
  subst e1 e2 e3 e4
  simp only [eqOp] at he
  split at he
  ·rename_i p q h1 h2
   injection he with he
   subst he
   rw [h1] at rx
   rw [h2] at ry
   have ex := rx.inv_v
   have ey := ry.inv_v
   rw [ex, ey] at fin ⊢
   exact fin (eqGuard_other (by simp) (by simp)) (equal_of fun d => run_equalIn_bool' w d t _ _ hu) ⟨by simp, by simp, by simp, by simp⟩
  ·cases he
 · -- structs
  rename_i fs hu
  split at hm
  case isFalse => cases hm
  rename_i hcond
  obtain ⟨c1, c2, c3, c4⟩ := hcond
  cases hks : mapO (fun f : Field => pkOf P f.type) fs.toList with
  | none => rw [hks] at hm; cases hm
  | some ks =>
   rw [hks] at hm
   simp only [Option.map_some, Option.some.injEq] at hm
   injection hm with e1 e2 e3 e4
   subst e1 e2 e3 e4
   simp only [eqOp] at he
   split at he
   ·rename_i p q h1 h2
    rw [h1] at rx
    rw [h2] at ry
    obtain ⟨xs, ex, lx, _, qx⟩ := rx.inv_agg
    obtain ⟨ys, ey, ly, _, qy⟩ := ry.inv_agg
    rw [ex, ey] at fin ⊢
    have hfo : P.fieldsOf t = fs := by simp [Program.fieldsOf, hu]
    refine fin (run_eqGuard_agg w op t x y xs ys c2) ?_ ⟨by simp, by simp, by simp, by simp⟩
    unfold Op.equal Op.maxDepth
    rw [run_equalIn_struct w 9999 t xs ys (by rw [hfo]; exact hu) c1, hfo]
    refine eqFields_run 9998 (xs := xs) (ys := ys) fs.toList ks p q 0 c (fun f hf => ?_) hks ?_ (by omega) (by omega) (fun i hi => by simpa using qx i hi) (fun i hi => by simpa using qy i hi) he
    ·have := List.all_eq_true.1 c3 f hf
     simpa using this
    ·rw [c4, List.range_eq_range']
     simp
   ·cases he
 · -- pointers
  rename_i e hu
  injection hm with hm
  injection hm with e1 e2 e3 e4
  subst e1 e2 e3 e4
  simp only [eqOp] at he
  obtain ⟨p, q, hp, hq, hpq, rfl⟩ := eqNil_both he
  obtain ⟨u, ex, hu'⟩ := nilP_rel rx hp
  obtain ⟨v, ey, hv'⟩ := nilP_rel ry hq
  rw [ex, ey] at fin ⊢
  have := equal_nilP (P := P) (w := w) (a := u) (b := v) hu (by rcases hpq with rfl | rfl <;> simp_all)
  rw [hu', hv'] at this
  exact fin (eqGuard_other (by simp) (by simp)) this ⟨by simp, by simp, by simp, by simp⟩
 · -- interfaces
  rename_i ms hu
  split at hm
  case isFalse => cases hm
  rename_i hcst
  injection hm with hm
  injection hm with e1 e2 e3 e4
  subst e1 e2 e3 e4
  simp only [eqOp] at he
  obtain ⟨p, q, hp, hq, hpq, rfl⟩ := eqNil_both he
  rcases nilI_rel rx hp with ⟨rfl, ex⟩ | ⟨rfl, tx, zx, ex⟩ <;> rcases nilI_rel ry hq with ⟨rfl, ey⟩ | ⟨rfl, ty, zy, ey⟩ <;> rw [ex, ey] at fin ⊢
  ·exact fin (eqGuard_iface hop hcst (by simp)) (equal_of fun d => by simp [Op.equalIn, run_underlying hu]) ⟨by simp, by simp, by simp, by simp⟩
  ·exact fin (eqGuard_iface hop hcst (by simp)) (equal_of fun d => by simp [Op.equalIn, run_underlying hu]) ⟨by simp, by simp, by simp, by simp⟩
  ·exact fin (eqGuard_iface hop hcst (by simp)) (equal_of fun d => by simp [Op.equalIn, run_underlying hu]) ⟨by simp, by simp, by simp, by simp⟩
  ·rcases hpq with h | h <;> cases h
 · -- slices
  rename_i e hu
  injection hm with hm
  injection hm with e1 e2 e3 e4
  subst e1 e2 e3 e4
  simp only [eqOp] at he
  obtain ⟨p, q, hp, hq, hpq, rfl⟩ := eqNil_both he
  obtain ⟨u, n, m, ex, hu'⟩ := nilS_rel rx hp
  obtain ⟨v, n', m', ey, hv'⟩ := nilS_rel ry hq
  rw [ex, ey] at fin ⊢
  have := equal_nilS (P := P) (w := w) (a := u) (b := v) (n := n) (m := m) (n' := n') (m' := m') hu (by rcases hpq with rfl | rfl <;> simp_all)
  rw [hu', hv'] at this
  exact fin (eqGuard_other (by simp) (by simp)) this ⟨by simp, by simp, by simp, by simp⟩
 · -- functions
  rename_i hu
  injection hm with hm
  injection hm with e1 e2 e3 e4
  subst e1 e2 e3 e4
  simp only [eqOp] at he
  obtain ⟨p, q, hp, hq, hpq, rfl⟩ := eqNil_both he
  rcases nilF_rel rx hp with ⟨rfl, ex⟩ | ⟨rfl, fx, a1, a2, ex⟩ <;> rcases nilF_rel ry hq with ⟨rfl, ey⟩ | ⟨rfl, fy, b1, b2, ey⟩ <;> rw [ex, ey] at fin ⊢
  ·exact fin (eqGuard_other (by simp) (by simp)) (equal_of fun d => by simp [Op.equalIn, run_underlying hu]) ⟨by simp, by simp, by simp, by simp⟩
  ·exact fin (eqGuard_other (by simp) (by simp)) (equal_of fun d => by simp [Op.equalIn, run_underlying hu]) ⟨by simp, by simp, by simp, by simp⟩
  ·exact fin (eqGuard_other (by simp) (by simp)) (equal_of fun d => by simp [Op.equalIn, run_underlying hu]) ⟨by simp, by simp, by simp, by simp⟩
  ·rcases hpq with h | h <;> cases h
end
end Go.Ax

/-
  The other operations without a call: each one's run (2).
-/
namespace Go.Ax
open Go.RowKit
section
variable {P : Program} {B0 : Nat} {w0 : World} {G : Ghost} {k nl : Nat} {w : World} {s : Sig}
theorem pick_sound {c a b v : AV} {x y z : Value} (hx : Rel G k nl c x) (hy : Rel G k nl a y) (hz : Rel G k nl b z) (h : pickOp c a b = some v) :
  ∃ t : Bool, x = .bool t ∧ Rel G k nl v (if t then y else z) := by
 unfold pickOp at h
 split at h
 ·rename_i t
  obtain rfl := hx.inv_v
  injection h with h
  subst h
  refine ⟨t, rfl, ?_⟩
  cases t
  ·exact hz
  ·exact hy
 ·cases h
theorem unOp_sound {op : UnOp} {a v : AV} {x : Value} (hx : Rel G k nl a x) (h : unOp op a = some v) : ∃ z, (Op.unary op x).run P w = .ok z w ∧ Rel G k nl v z := by
 unfold unOp at h
 split at h
 ·obtain rfl := hx.inv_v
  cases op <;> simp only at h <;> first
   | (injection h with h; subst h; exact ⟨_, by simp [Op.unary], .val _ rfl⟩)
   | cases h
 ·obtain rfl := hx.inv_v
  cases op <;> simp only at h <;> first
   | (injection h with h; subst h; exact ⟨_, by simp [Op.unary, Op.intArith], .val _ rfl⟩)
   | cases h
 ·cases h
theorem nilCheck_sound {a v : AV} {x : Value} (hx : Rel G k nl a x) (h : nilCheckOp a = some v) : Rel G k nl v x ∧ (x ≠ .pointer none ∧ x ≠ .nilIface ∧ x ≠ .nilFunc ∧ ∀ nm f c, x ≠ .func (.method nm) f c) := by
 unfold nilCheckOp at h
 split at h
 ·injection h with h; subst h; obtain ⟨_, _, rfl, _⟩ := hx.inv_ptr; exact ⟨hx, by simp, by simp, by simp, by simp⟩
 ·injection h with h; subst h; obtain ⟨_, _, _, rfl, _⟩ := hx.inv_eptr; exact ⟨hx, by simp, by simp, by simp, by simp⟩
 ·injection h with h; subst h; obtain ⟨_, _, rfl, _⟩ := hx.inv_fn; exact ⟨hx, by simp, by simp, by simp, by simp⟩
 ·injection h with h; subst h; obtain ⟨_, rfl, _⟩ := hx.inv_yield; exact ⟨hx, by simp, by simp, by simp, by simp⟩
 ·injection h with h; subst h; obtain ⟨_, rfl, _⟩ := hx.inv_iface; exact ⟨hx, by simp, by simp, by simp, by simp⟩
 ·cases h
theorem closeAll_rel {cs ds : List AV} {arr : Array Value} (h : closeAll cs = some ds) (hl : cs.length ≤ arr.size) (hcell : ∀ c, c ∈ cs → c.isCell = true) (hR : ∀ i (hi : i < cs.length), Rel G k nl cs[i] (arr.getD i Go.undef)) :
  ds.length = cs.length ∧ (∀ c, c ∈ ds → c.isCell = true) ∧ ∀ i (hi : i < ds.length), RelC G.I ds[i] (arr.getD i Go.undef) := by
 let _ := hl
 obtain ⟨h1, h2⟩ := closeAll_spec h
 refine ⟨h1, fun c hc => ?_, fun i hi => (hR i (by omega)).close (h2 i (by omega) hi)⟩
 obtain ⟨i, hi, rfl⟩ := List.getElem_of_mem hc
 exact close_isCell (h2 i (by omega) hi) (hcell _ (List.getElem_mem _))
theorem iface_sound {t : TypeId} {a v : AV} {x : Value} (hx : Rel G k nl a x) (h : ifaceOp t a = some v) : Rel G k nl v (.iface t x) := by
 unfold ifaceOp at h
 split at h
 ·rename_i cs
  obtain ⟨arr, rfl, hl, hcell, hR⟩ := hx.inv_agg
  cases hc : closeAll cs with
  | none => rw [hc] at h; cases h
  | some ds =>
   rw [hc] at h
   injection h with h
   subst h
   obtain ⟨h1, h2, h3⟩ := closeAll_rel hc (Nat.le_of_eq hl.symm) hcell hR
   exact .cl (.iface (.agg (by rw [hl, h1]) h2 h3))
 ·split at h
  ·injection h with h
   subst h
   exact .cl (.iface (hx.closed1 (by assumption)))
  ·cases h
theorem mkFn_sound {f : FuncId} {first caps : List Operand} {af ac : List AOpd} {ρ : Nat → AV} {a : Act} (hR : TmpsRel G k nl ρ a) (hf : mapO compOpd first = some af) (hc : mapO compOpd caps = some ac) (hcl : (af.map (evalT ρ)).all AV.isClosedV = true) :
  Rel G k nl (.fn f (af.map (evalT ρ)) (ac.map (evalT ρ))) (.func (.func f) (first.toArray.map a.eval) (caps.toArray.map a.eval)) := by
 obtain ⟨l1, h1⟩ := mapO_spec hf
 obtain ⟨l2, h2⟩ := mapO_spec hc
 refine .fn (by simp [l1]) (by simp [l2]) (fun i hi => ?_) (fun i hi => ?_)
 ·have hi' : i < af.length := by simpa using hi
  have hi'' : i < first.length := by omega
  have := opd_rel (h1 i hi'' hi') hR
  have hcl' : (evalT ρ af[i]).isClosedV = true := List.all_eq_true.1 hcl _ (List.mem_map_of_mem (List.getElem_mem hi'))
  have e : (first.toArray.map a.eval).getD i Go.undef = a.eval first[i] := by simp [Array.getD, hi'']
  rw [e]
  simp only [List.getElem_map]
  exact this.closedV hcl'
 ·have hi' : i < ac.length := by simpa using hi
  have hi'' : i < caps.length := by omega
  have := opd_rel (h2 i hi'' hi') hR
  have e : (caps.toArray.map a.eval).getD i Go.undef = a.eval caps[i] := by simp [Array.getD, hi'']
  rw [e]
  simpa using this
theorem field_sound {t : TypeId} {fs : Array Field} {f : Field} {i n : Nat} {g : Bool} {a v : AV} {x : Value} (ht : P.underlying t = some (.struct fs)) (hf : fs[i]? = some f) (hg : isAggP P f.type = some g) (hn : sizeP P f.type = some n) (hx : Rel G k nl a x)
  (h : fieldOp g n f.offset a = some v) : ∃ z, (Instr.field t x i).run P w = .ok z w ∧ Rel G k nl v z := by
 unfold fieldOp at h
 split at h
 ·rename_i cs
  obtain ⟨arr, rfl, hl, hcell, hR⟩ := hx.inv_agg
  rcases part_rel (f := fun i => arr.getD i Go.undef) h hcell hR with ⟨rfl, hle, hv⟩ | ⟨rfl, hlt, hv⟩
  ·refine ⟨_, ?_, hv⟩
   simp only [Instr.field, Sem.run_bind, run_underlying ht, Result.andThen_ok, hf, asAgg, Sem.run_pure, Go.part, isAgg_run hg, if_true, sizeOf_run hn]
   congr 2
   apply Array.ext
   ·simp; omega
   ·intro j h1 h2
    simp at h1 h2 ⊢
    have : f.offset + j < arr.size := by omega
    simp [Array.getD, this]
  ·refine ⟨_, ?_, hv⟩
   have : f.offset < arr.size := by omega
   simp only [Instr.field, Sem.run_bind, run_underlying ht, Result.andThen_ok, hf, asAgg, Sem.run_pure, Go.part, isAgg_run hg, Bool.false_eq_true, if_false]
   simp [Array.getD, this]
 ·cases h
theorem extract_sound {i : Nat} {a v : AV} {x : Value} (hx : Rel G k nl a x) (h : extractOp i a = some v) : ∃ z, (Instr.extract x i).run P w = .ok z w ∧ Rel G k nl v z := by
 unfold extractOp at h
 split at h
 ·rename_i vs
  obtain ⟨arr, rfl, hl, hR⟩ := hx.inv_tuple
  obtain ⟨h1, h2⟩ := List.getElem?_eq_some_iff.1 h
  have := hR i h1
  rw [h2] at this
  refine ⟨_, ?_, this⟩
  have hi : i < arr.size := by omega
  simp [Instr.extract, hi, Array.getD]
 ·cases h
theorem len_sound {t : TypeId} {ty : TypeId} {str : Bool} {a v : AV} {x : Value} (ht : (str = false ∧ ∃ e, P.underlying t = some (.slice e)) ∨ (str = true ∧ P.underlying t = some .string)) (hx : Rel G k nl a x) (h : lenOp str a = some v) :
  ∃ z, (Builtin.len_ #[t] ty #[x]).run P w = .ok z w ∧ Rel G k nl v z := by
 unfold lenOp at h
 rcases ht with ⟨rfl, e, ht⟩ | ⟨rfl, ht⟩
 ·split at h
  ·injection h with h
   subst h
   rcases hx.inv_slice with ⟨_, rfl, rfl⟩ | ⟨_, p, cap, rfl, _⟩
   ·exact ⟨_, by simp [Builtin.len_, run_underlying ht, goInt], .val _ rfl⟩
   ·exact ⟨_, by simp [Builtin.len_, run_underlying ht, goInt], .val _ rfl⟩
  ·injection h with h
   subst h
   obtain ⟨blk, gr, rc, o0, rfl, _⟩ := hx.inv_rsl
   exact ⟨_, by simp [Builtin.len_, run_underlying ht, goInt], .val _ rfl⟩
  ·cases h
  ·cases h
 ·split at h
  ·cases h
  ·cases h
  ·injection h with h
   subst h
   obtain rfl := hx.inv_v
   exact ⟨_, by simp [Builtin.len_, run_underlying ht, goInt], .val _ rfl⟩
  ·cases h
theorem asNat_rel {x : AV} {y : Value} {m n : Nat} (hx : Rel G k nl x y) (h : asNat x m = some n) : ∃ kd z, y = .int kd z ∧ 0 ≤ z ∧ z ≤ m ∧ z.toNat = n := by
 unfold asNat at h
 split at h
 ·obtain rfl := hx.inv_v
  split at h
  ·rename_i hc
   injection h with h
   exact ⟨_, _, rfl, hc.1, hc.2, h⟩
  ·cases h
 ·cases h
theorem asNat_le {x : AV} {m n : Nat} (h : asNat x m = some n) : n ≤ m := by
 unfold asNat at h
 split at h
 ·split at h
  ·injection h with h; omega
  ·cases h
 ·cases h
def OptRel (G : Ghost) (k nl : Nat) : Option AV → Option Value → Prop
 | none, none => True
 | some x, some y => Rel G k nl x y
 | _, _ => False
theorem bounds_run {isSlice : Bool} {len cap : Nat} {lo hi : Option AV} {lo' hi' : Option Value} {h l : Nat} (hlo : OptRel G k nl lo lo') (hhi : OptRel G k nl hi hi')
  (eh : hiOf hi false cap len = some h) (el : loOf lo h = some l) :
  (Instr.sliceBounds isSlice len cap lo' hi' none).run P w = .ok (l, h, cap) w := by
 cases hi with
 | none =>
  cases hi' with
  | some => exact hhi.elim
  | none =>
   simp only [hiOf, Bool.false_eq_true, if_false, Option.some.injEq] at eh
   subst eh
   cases lo with
   | none =>
    cases lo' with
    | some => exact hlo.elim
    | none =>
     simp only [loOf, Option.some.injEq] at el
     subst el
     simp [Instr.sliceBounds]
   | some x =>
    cases lo' with
    | none => exact hlo.elim
    | some y =>
     obtain ⟨kd, z, rfl, z0, z1, rfl⟩ := asNat_rel hlo el
     simp [Instr.sliceBounds, run_sliceBound w kd z _ _ z0 z1]
 | some q =>
  cases hi' with
  | none => exact hhi.elim
  | some p =>
   obtain ⟨kd, z, rfl, z0, z1, rfl⟩ := asNat_rel hhi eh
   cases lo with
   | none =>
    cases lo' with
    | some => exact hlo.elim
    | none =>
     simp only [loOf, Option.some.injEq] at el
     subst el
     simp [Instr.sliceBounds, run_sliceBound w kd z _ _ z0 z1]
   | some x =>
    cases lo' with
    | none => exact hlo.elim
    | some y =>
     obtain ⟨kd', z', rfl, z0', z1', rfl⟩ := asNat_rel hlo el
     simp [Instr.sliceBounds, run_sliceBound w kd z _ _ z0 z1, run_sliceBound w kd' z' _ _ z0' z1']
theorem bounds_run3 {isSlice : Bool} {len cap : Nat} {lo : Option AV} {hi mx : AV} {lo' : Option Value} {hi' mx' : Value} {m h l : Nat} (hlo : OptRel G k nl lo lo') (hhi : Rel G k nl hi hi') (hmx : Rel G k nl mx mx') (em : asNat mx cap = some m)
  (eh : asNat hi m = some h) (el : loOf lo h = some l) :
  (Instr.sliceBounds isSlice len cap lo' (some hi') (some mx')).run P w = .ok (l, h, m) w := by
 obtain ⟨km, zm, rfl, zm0, zm1, rfl⟩ := asNat_rel hmx em
 obtain ⟨kd, z, rfl, z0, z1, rfl⟩ := asNat_rel hhi eh
 cases lo with
 | none =>
  cases lo' with
  | some => exact hlo.elim
  | none =>
   simp only [loOf, Option.some.injEq] at el
   subst el
   simp [Instr.sliceBounds, run_sliceBound w km zm _ _ zm0 zm1, run_sliceBound w kd z _ _ z0 z1]
 | some x =>
  cases lo' with
  | none => exact hlo.elim
  | some y =>
   obtain ⟨kd', z', rfl, z0', z1', rfl⟩ := asNat_rel hlo el
   simp [Instr.sliceBounds, run_sliceBound w km zm _ _ zm0 zm1, run_sliceBound w kd z _ _ z0 z1, run_sliceBound w kd' z' _ _ z0' z1']
theorem SliceC.cut {I : IMap} {es : Nat} {xs : List (List AV)} {a : Addr} {cap l h : Nat} (hx : SliceC I es xs a cap) (hl : l ≤ h) (hh : h ≤ xs.length) (m : Nat) (hm : h ≤ m) (hmc : m ≤ cap) (q : Addr) (hq : q = if m = l then a else a.add (l * es)) :
  SliceC I es ((xs.take h).drop l) q (m - l) := by
 cases hx with
 | empty =>
  have h0 : h = 0 := by simpa using hh
  have l0 : l = 0 := by omega
  have m0 : m = 0 := by omega
  subst h0 l0 m0
  exact .empty (.inl rfl)
 | @slice _ _ _ blk off _ f ho hc hes hcell hI hR =>
  have hlen : ((xs.take h).drop l).length = h - l := by simp; omega
  have hget : ∀ i (hi : i < ((xs.take h).drop l).length), ((xs.take h).drop l)[i] = xs[l + i]'(by omega) := fun i hi => by simp
  have hmem : ∀ r, r ∈ (xs.take h).drop l → r ∈ xs := fun r hr => List.mem_of_mem_take (List.mem_of_mem_drop hr)
  have e2 : q = ⟨blk, (if m = l then off else off + l * es), none⟩ := by
   rw [hq]
   split
   ·rfl
   ·rw [addr_add]
  rw [e2]
  refine RelC.slice (fun i j => f (l + i) j) (.inl rfl) (by omega) (fun r hr => hes r (hmem r hr)) (fun r hr => hcell r (hmem r hr)) (fun i hi j hj => ?_) (fun i hi j hj => ?_)
  ·have hne : m ≠ l := by omega
   have hi' : l + i < xs.length := by omega
   have hj' : j < (xs[l + i]).length := by simp only [hget i hi] at hj; exact hj
   rw [if_neg hne]
   have := hI (l + i) hi' j hj'
   rw [Nat.add_mul] at this
   rw [← this]
   congr 1
   omega
  ·have hi' : l + i < xs.length := by omega
   have hj' : j < (xs[l + i]).length := by simp only [hget i hi] at hj; exact hj
   have := hR (l + i) hi' j hj'
   simp only [hget i hi]
   exact this
end
end Go.Ax
