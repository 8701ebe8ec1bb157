/-
  What is taken from the library's shelf, said in the executor's words.
-/
import Derived.Test.YtdefcodhamifjaaGreatDoorT8
import Derived.Test.YtdefcodhamifjaaGreatDoorT6
import Derived.Shelf.Strings.OnBuilder
import Derived.Shelf.Strconv.Itoa3
import Derived.Shelf.Strconv.AtoiAll
import Derived.Shelf.Strings.Cut
import Derived.Shelf.Strings.Split
import Derived.Handed
import Derived.LaidLaws
import Derived.Test.YtdefcodhamifjaaGreatDoorT9
import Derived.Test.YtdefcodhamifjaaGreatDoorProg
import Derived.KernelRfl
import Derived.Test.YtdefcodhamifjaaGreatDoorT15
namespace Go.Ax.Sx.Sc
open Go.Ax Go.Proofs Go.Shelf Go.RowKit

variable {P : Program} {ρ : Ren} {K : World → Prop}

theorem dig2_dec {n : Nat} (h : n < 100) : dig2 n = Lib.decDigits n := by
  unfold dig2
  rw [Lib.decDigits]
  by_cases h1 : n < 10
  · rw [if_pos h1, dif_pos h1]
  · rw [if_neg h1, dif_neg h1, Lib.decDigits, dif_pos (by omega)]; rfl

theorem relC_v {I : IMap} {x y : Value} (h : RelC I (.v x) y) : y = x := by cases h; rfl

theorem one_arg {xs : Array Value} (hl : xs.size = 1) : xs = #[xs.getD 0 Go.undef] := by
  apply Array.ext
  · simp [hl]
  · intro i h1 h2
    have : i = 0 := by omega
    subst this
    simp [Array.getD, hl]
theorem two_args {xs : Array Value} (hl : xs.size = 2) : xs = #[xs.getD 0 Go.undef, xs.getD 1 Go.undef] := by
  apply Array.ext
  · simp [hl]
  · intro i h1 h2
    have : i = 0 ∨ i = 1 := by omega
    rcases this with rfl | rfl <;> simp [Array.getD, hl]

theorem pItoa_ok (L : Lays.n171 P ρ) : PrimOk P K (ρ.f 171) itoaF := by
  intro I w ys xs r _ hI hl hR hF
  unfold itoaF at hF
  split at hF
  · rename_i n
    split at hF
    · rename_i hn
      injection hF with hF
      subst hF
      have h0 := relC_v (hR 0 (by simp))
      have hx : xs = #[.int .i64 (n.toNat : Int)] := by
        rw [one_arg hl, h0, show ((n.toNat : Nat) : Int) = n by omega]
      rw [hx]
      refine (Any.strconv_Itoa_small L n.toNat (by omega) w).mono fun e w' ⟨he, hw⟩ => ?_
      subst hw
      refine ⟨_, I, he, fun _ _ _ h => h, fun _ _ _ h => .inl h, hI, Below.refl _ _, .inl ?_⟩
      rw [dig2_dec (by omega)]
      exact .v rfl
    · cases hF
  · cases hF

theorem stringsOf_spec : ∀ {rows : List (List AV)} {ls : List (List UInt8)}, stringsOf rows = some ls → ∃ bs : List ByteArray, rows = bs.map (fun b => [.v (.string b)]) ∧ ls = bs.map (·.data.toList)
  | [], ls, h => by
    simp only [stringsOf] at h
    injection h with h
    exact ⟨[], rfl, h.symm⟩
  | row :: r, ls, h => by
    unfold stringsOf at h
    split at h
    · cases ‹_ :: _ = []›
    · rename_i s r' e
      injection e with e1 e2
      subst e1 e2
      obtain ⟨ls', h1, h2⟩ := Option.map_eq_some_iff.1 h
      obtain ⟨bs, b1, b2⟩ := stringsOf_spec h1
      exact ⟨s :: bs, by rw [b1]; rfl, by rw [← h2, b2]; rfl⟩
    · cases h

theorem pJoin_ok (L : Lays.n156 P ρ) (X : Builder.Extra P ρ) : PrimOk P K (ρ.f 156) joinF := by
  intro I w ys xs r _ hI hl hR hF
  unfold joinF at hF
  split at hF
  · rename_i o es rows sep
    obtain ⟨ls, hs, hF⟩ := Option.bind_eq_some_iff.1 hF
    split at hF
    · rename_i hlim
      injection hF with hF
      subst hF
      obtain ⟨bs, hb1, hb2⟩ := stringsOf_spec hs
      have h1 := relC_v (hR 1 (by simp))
      have h0 : RelC I (.slice o es rows) (xs.getD 0 Go.undef) := hR 0 (by simp)
      have hx : xs = #[xs.getD 0 Go.undef, .string sep] := by
        rw [two_args hl]; simp only [h1]; rfl
      have none_case : ∀ a c, rows = [] → xs.getD 0 Go.undef = .slice a 0 c → Calls P (ρ.f 156) xs w fun e w' => ∃ z I', e = .returned z ∧ (∀ b i v, I b i = some v → I' b i = some v) ∧ (∀ b i v, I' b i = some v → I b i = some v ∨ w.heap.size ≤ b) ∧ (∀ b i v, I' b i = some v → w'.cell? ⟨b, i, none⟩ = some v) ∧
          Below w.heap.size w w' ∧ RelN I' (.v (.string ⟨(sep.data.toList.intercalate ls).toArray⟩)) z := by
        intro a c hr0 hv
        have hl0 : ls = [] := by
          rw [hr0] at hs; simp only [stringsOf] at hs; injection hs with hs; exact hs.symm
        rw [hx, hv]
        refine (Any.strings_Join_none L X a c sep w).mono fun e w' ⟨he, hw⟩ => ?_
        subst hw
        refine ⟨_, I, he, fun _ _ _ h => h, fun _ _ _ h => .inl h, hI, Below.refl _ _, .inl ?_⟩
        rw [hl0]
        exact .v rfl
      generalize hv : xs.getD 0 Go.undef = v at *
      cases h0 with
      | nilS => exact none_case _ _ rfl rfl
      | empty ho => exact none_case _ _ rfl rfl
      | slice f ho hc hes hcell hIc hRc =>
        rename_i blk off cap
        by_cases hne : rows = []
        · subst hne
          exact none_case _ _ rfl rfl
        · have hrl : rows.length = bs.length := by rw [hb1]; simp
          have hes1 : es = 1 := by
            cases hbs : bs with
            | nil => rw [hbs] at hb1; exact absurd hb1 hne
            | cons b t =>
              have h3 := hes [.v (.string b)] (by rw [hb1, hbs]; simp)
              rw [← h3]; rfl
          subst hes1
          have hcells : ∀ (j : Nat) x, bs[j]? = some x → w.cell? ⟨blk, off + j, none⟩ = some (.string x) := by
            intro j x hj
            have hjl : j < rows.length := by rw [hrl]; exact (List.getElem?_eq_some_iff.1 hj).1
            have hrow : rows[j] = [.v (.string x)] := by
              have : rows[j]? = some [.v (.string x)] := by rw [hb1, List.getElem?_map, hj]; rfl
              rw [List.getElem?_eq_getElem hjl] at this
              injection this
            have hl1 : 0 < rows[j].length := by rw [hrow]; simp
            have hi := hIc j hjl 0 hl1
            have hrr := hRc j hjl 0 hl1
            have e1 : rows[j][0] = .v (.string x) := by simp only [hrow]; rfl
            rw [e1] at hrr
            rw [relC_v hrr] at hi
            have := hI _ _ _ hi
            rw [show off + j * 1 + 0 = off + j by omega] at this
            exact this
          have hbk : blk < w.heap.size := by
            have hbl : 0 < bs.length := by rw [← hrl]; exact List.length_pos_iff.2 hne
            exact World.block_lt_of_cell? _ _ (hcells 0 _ (List.getElem?_eq_getElem hbl))
          have hjoin : Lib.join (bs.map (·.data.toList)) sep.data.toList = sep.data.toList.intercalate ls := by rw [hb2]; rfl
          have hlsl : ls.length = bs.length := by rw [hb2]; simp
          rw [hx]
          have hrl' : rows.length = bs.length := hrl
          rw [hrl'] at hc ⊢
          refine (Any.strings_Join L X blk off cap bs sep w hcells hbk (by omega) hc (by rw [hjoin]; omega)).mono fun e w' ⟨he, hw⟩ => ?_
          refine ⟨_, I, he, fun _ _ _ h => h, fun _ _ _ h => .inl h, fun b i v h => ?_, hw, .inl ?_⟩
          · have h1 := hI b i v h
            have hb := World.block_lt_of_cell? _ _ h1
            have hh := hw.block b hb
            rw [← h1]
            exact cells_congr hh rfl
          · rw [hjoin]; exact .v rfl
    · cases hF
  · cases hF
end Go.Ax.Sx.Sc

/-
  What is taken from the library's shelf for the strings of plans, said in the executor's words: numerals, cuts at a byte, numbers read; what a world must hold for it.
-/
namespace Go.Ax.Sx.Sc
open Go.Ax Go.Proofs Go.Shelf Go.RowKit Go.Sort
theorem index_one {c : UInt8} : ∀ {l : List UInt8}, Lib.index l [c] = idx1 c l
 | [] => rfl
 | b :: l => by
  unfold Lib.index idx1
  rw [index_one (l := l)]
  by_cases h : b = c
  ·subst h; simp
  ·have h1 : ([c] : List UInt8).isPrefixOf (b :: l) = false := by
    simp only [List.isPrefixOf, Bool.and_true]
    exact beq_eq_false_iff_ne.2 fun e => h e.symm
   have hg := Lib.index_ge l [c]
   rw [index_one] at hg
   rw [h1, if_neg h]
   simp only [Bool.false_eq_true, if_false, beq_iff_eq]
   by_cases h2 : idx1 c l = -1
   ·rw [if_pos h2, if_pos (by omega)]
   ·rw [if_neg h2, if_neg (by omega)]
theorem cut_one {c : UInt8} : ∀ {l : List UInt8}, Lib.cut l [c] = cut1 c l
 | [] => rfl
 | b :: l => by
  have ih := cut_one (c := c) (l := l)
  unfold Lib.cut at ih ⊢
  rw [index_one] at ih ⊢
  unfold idx1 cut1
  by_cases h : b = c
  ·subst h; simp
  ·rw [if_neg h, if_neg h]
   by_cases h2 : idx1 c l < 0
   ·rw [if_pos h2, if_neg (by omega)]
    rw [if_neg (by omega)] at ih
    rw [← ih]
   ·rw [if_neg h2, if_pos (by omega)]
    rw [if_pos (by omega)] at ih
    rw [← ih]
    have e : (idx1 c l + 1).toNat = (idx1 c l).toNat + 1 := by omega
    rw [e]
    simp
theorem split_one {c : UInt8} : ∀ (n : Nat) (l : List UInt8), l.length ≤ n → Lib.splitK [c] 0 (Lib.count l [c]) l = spl c l
 | n, l, hl => by
  have hg := idx1_ge (c := c) (l := l)
  by_cases h : idx1 c l = -1
  ·rw [Lib.count_miss (by rw [index_one]; exact h), spl_miss h]; rfl
  ·obtain ⟨i, hi⟩ : ∃ i : Nat, idx1 c l = i := ⟨(idx1 c l).toNat, by omega⟩
   have hx : Lib.index l [c] = i := by rw [index_one]; exact hi
   have hr := Lib.index_room l [c] (by omega)
   rw [hx] at hr
   simp only [List.length_singleton] at hr
   rw [Lib.count_hit (by simp) hx, spl_hit hi, Nat.add_comm 1, Lib.splitK, hx]
   rw [if_neg (by simp only [beq_iff_eq]; omega)]
   simp only [Int.toNat_natCast, Nat.add_zero, List.length_singleton]
   cases n with
   | zero => omega
   | succ n => rw [split_one n _ (by rw [List.length_drop]; omega)]
structure KShelf (P : Program) (g1 g15 g16 : Nat) (w : World) : Prop where
 tab : Lib.TabIs P w "internal/strconv.uint64pow10" .u64 Lib.pow10Tab
 len : ∃ m, w.cell? ⟨g1, 0, none⟩ = some (.int .i64 m)
 e1 : ∃ ev, w.cell? ⟨g15, 0, none⟩ = some ev ∧ (ev = .nilIface ∨ ∃ te pe, ev = .iface te pe)
 e2 : ∃ ev, w.cell? ⟨g16, 0, none⟩ = some ev ∧ (ev = .nilIface ∨ ∃ te pe, ev = .iface te pe)
theorem cell_below {w w' : World} {b i : Nat} {v : Value} (hb : Below w.heap.size w w') (h : w.cell? ⟨b, i, none⟩ = some v) : w'.cell? ⟨b, i, none⟩ = some v :=
 (hb.cell (World.block_lt_of_cell? _ _ h)).trans h
theorem tab_below {P : Program} {w w' : World} {nm : String} {k : IntKind} {zs : List Int} (hb : Below w.heap.size w w') (h : Lib.TabIs P w nm k zs) : Lib.TabIs P w' nm k zs := by
 unfold Lib.TabIs World.var? at h ⊢
 obtain ⟨g, hg, h⟩ := Option.bind_eq_some_iff.1 h
 rw [hg, Option.bind_some]
 have hlt : g < w.heap.size := by
  split at h
  ·rename_i e; exact (Array.getElem?_eq_some_iff.1 e).1
  ·cases h
 rw [hb.block g hlt]
 exact h
theorem KShelf.below {P : Program} {g1 g15 g16 : Nat} {w w' : World} (h : KShelf P g1 g15 g16 w) (hb : Below w.heap.size w w') : KShelf P g1 g15 g16 w' :=
 ⟨tab_below hb h.tab, let ⟨m, hm⟩ := h.len; ⟨m, cell_below hb hm⟩, let ⟨e, he, hk⟩ := h.e1; ⟨e, cell_below hb he, hk⟩, let ⟨e, he, hk⟩ := h.e2; ⟨e, cell_below hb he, hk⟩⟩
variable {P : Program} {ρ : Ren} {K : World → Prop}
theorem keep_of_below {I : IMap} {w w' : World} (hI : ∀ b i v, I b i = some v → w.cell? ⟨b, i, none⟩ = some v) (hw : Below w.heap.size w w') : ∀ b i v, I b i = some v → w'.cell? ⟨b, i, none⟩ = some v := fun b i v h => cell_below hw (hI b i v h)
theorem pItoaA_ok (L : LaysM.n171 P ρ) (hK : ∀ w, K w → Lib.TabIs P w "internal/strconv.uint64pow10" .u64 Lib.pow10Tab) : PrimOk P K (ρ.f 171) itoaAF := by
 intro I w ys xs r hk hI hl hR hF
 unfold itoaAF at hF
 split at hF
 ·rename_i n
  have h0 := relC_v (hR 0 (by simp))
  have hx : xs = #[.int .i64 n] := by rw [one_arg hl, h0]
  split at hF
  ·rename_i hn
   injection hF with hF
   subst hF
   rw [hx, show (Value.int .i64 n) = .int .i64 (n.toNat : Int) by rw [show ((n.toNat : Nat) : Int) = n by omega]]
   refine (Any.strconv_Itoa_small { L with } n.toNat (by omega) w).mono fun e w' ⟨he, hw⟩ => ?_
   subst hw
   refine ⟨_, I, he, fun _ _ _ h => h, fun _ _ _ h => .inl h, hI, Below.refl _ _, .inl ?_⟩
   rw [dig2_dec (by omega)]
   exact .v rfl
  ·split at hF
   ·rename_i hn
    injection hF with hF
    subst hF
    rw [hx]
    refine (Any.strconv_Itoa L n hn.1 hn.2 w (hK w hk)).mono fun e w' ⟨he, k, os, hw⟩ => ?_
    subst hw
    have hb : Below w.heap.size w (grow (w.drewN k) os) := ⟨rfl, rfl, rfl, by show w.heap.size ≤ (w.heap ++ os).size; rw [Array.size_append]; omega, fun j hj => by show (w.heap ++ os)[j]? = _; simp [Array.getElem?_append, hj]⟩
    exact ⟨_, I, he, fun _ _ _ h => h, fun _ _ _ h => .inl h, keep_of_below hI hb, hb, .inl (.v rfl)⟩
   ·cases hF
 ·cases hF
theorem rel_tuple {I : IMap} {vs : List AV} {arr : Array Value} (hl : arr.size = vs.length) (h : ∀ i (hi : i < vs.length), RelC I vs[i] (arr.getD i Go.undef)) : RelN I (.tuple vs) (.tuple arr) := .inr ⟨_, _, rfl, rfl, hl, h⟩
theorem pAtoi_ok (L : LaysC.n172 P ρ) (h15 : ∀ w, K w → ∃ ev, w.cell? ⟨ρ.g 15, 0, none⟩ = some ev ∧ (ev = .nilIface ∨ ∃ te pe, ev = .iface te pe)) (h16 : ∀ w, K w → ∃ ev, w.cell? ⟨ρ.g 16, 0, none⟩ = some ev ∧ (ev = .nilIface ∨ ∃ te pe, ev = .iface te pe)) : PrimOk P K (ρ.f 172) atoiF := by
 intro I w ys xs r hk hI hl hR hF
 unfold atoiF at hF
 split at hF
 case h_2 => cases hF
 rename_i s
 split at hF
 case isFalse => cases hF
 rename_i hs
 have h0 := relC_v (hR 0 (by simp))
 have hx : xs = #[.string s] := by rw [one_arg hl, h0]
 rw [hx]
 cases hv : Lib.atoiAll s.data.toList
 ·rename_i v
  rw [hv] at hF
  injection hF with hF
  subst hF
  refine (Any.strconv_Atoi_ok L s (by omega) v hv w).mono fun e w' ⟨he, hw⟩ => ?_
  have hb : Below w.heap.size w w' := by
   rcases hw with rfl | ⟨t, rfl⟩
   ·exact Below.refl _ _
   ·exact Lib.bytesWorld_below _ _ _
  refine ⟨_, I, he, fun _ _ _ h => h, fun _ _ _ h => .inl h, keep_of_below hI hb, hb, rel_tuple rfl fun i hi => ?_⟩
  match i, hi with
  | 0, _ => exact .v rfl
  | 1, _ => exact .v rfl
 ·rw [hv] at hF
  injection hF with hF
  subst hF
  obtain ⟨ev, hev, hk2⟩ := h15 w hk
  refine (Any.strconv_Atoi_syntax L s (by omega) hv ev w hev hk2).mono fun e w' ⟨N, he, _, _, hb⟩ => ?_
  refine ⟨_, I, he, fun _ _ _ h => h, fun _ _ _ h => .inl h, keep_of_below hI hb, hb, rel_tuple rfl fun i hi => ?_⟩
  match i, hi with
  | 0, _ => exact .v rfl
  | 1, _ => exact .opq
 ·rw [hv] at hF
  injection hF with hF
  subst hF
  obtain ⟨ev, hev, hk2⟩ := h16 w hk
  refine (Any.strconv_Atoi_range L s (by omega) hv ev w hev hk2).mono fun e w' ⟨N, he, _, _, hb⟩ => ?_
  refine ⟨_, I, he, fun _ _ _ h => h, fun _ _ _ h => .inl h, keep_of_below hI hb, hb, rel_tuple rfl fun i hi => ?_⟩
  match i, hi with
  | 0, _ => exact .v rfl
  | 1, _ => exact .opq
theorem pCut_ok (L : Lays.n145 P ρ) (h1 : ∀ w, K w → ∃ m, w.cell? ⟨ρ.g 1, 0, none⟩ = some (.int .i64 m)) : PrimOk P K (ρ.f 145) cutF := by
 intro I w ys xs r hk hI hl hR hF
 unfold cutF at hF
 split at hF
 case h_2 => cases hF
 rename_i s sep
 split at hF
 case h_2 => cases hF
 rename_i c hc
 split at hF
 case isFalse => cases hF
 rename_i hs
 injection hF with hF
 subst hF
 have e0 := relC_v (hR 0 (by simp))
 have e1 := relC_v (hR 1 (by simp))
 have hx : xs = #[.string s, .string sep] := by rw [two_args hl, e0, e1]
 rw [hx]
 obtain ⟨m, hm⟩ := h1 w hk
 refine (Any.strings_Cut L s sep m w (by omega) hm).mono fun e w' ⟨he, n, hw⟩ => ?_
 subst hw
 rw [hc, cut_one] at he
 have hb : Below w.heap.size w (w.drewN n) := (Below.refl _ _).trans ⟨rfl, rfl, rfl, Nat.le_refl _, fun _ _ => rfl⟩
 refine ⟨_, I, he, fun _ _ _ h => h, fun _ _ _ h => .inl h, keep_of_below hI hb, hb, rel_tuple rfl fun i hi => ?_⟩
 match i, hi with
 | 0, _ => exact .v rfl
 | 1, _ => exact .v rfl
 | 2, _ => exact .v rfl
theorem pIndex_ok (L : Lays.n143 P ρ) (h1 : ∀ w, K w → ∃ m, w.cell? ⟨ρ.g 1, 0, none⟩ = some (.int .i64 m)) : PrimOk P K (ρ.f 143) indexF := by
 intro I w ys xs r hk hI hl hR hF
 unfold indexF at hF
 split at hF
 case h_2 => cases hF
 rename_i s sep
 split at hF
 case h_2 => cases hF
 rename_i c hc
 split at hF
 case isFalse => cases hF
 rename_i hs
 injection hF with hF
 subst hF
 have e0 := relC_v (hR 0 (by simp))
 have e1 := relC_v (hR 1 (by simp))
 have hx : xs = #[.string s, .string sep] := by rw [two_args hl, e0, e1]
 rw [hx]
 obtain ⟨m, hm⟩ := h1 w hk
 refine (Any.strings_Index L s sep m w (by omega) hm).mono fun e w' ⟨he, hw⟩ => ?_
 subst hw
 rw [hc, index_one] at he
 exact ⟨_, I, he, fun _ _ _ h => h, fun _ _ _ h => .inl h, hI, Below.refl _ _, .inl (.v rfl)⟩
theorem pSplit_ok (L : Lays.n146 P ρ) (hi9 : (P.info? (ρ.t 9)).map (fun i => (i.zero, i.size, i.bytes)) = some (some (.string ByteArray.empty), 1, 16)) (h1 : ∀ w, K w → ∃ m, w.cell? ⟨ρ.g 1, 0, none⟩ = some (.int .i64 m)) : PrimOk P K (ρ.f 146) splitF := by
  intro I w ys xs r hk hI hl hR hF
  unfold splitF at hF
  split at hF
  case h_2 => cases hF
  rename_i s sep
  split at hF
  case h_2 => cases hF
  rename_i c hc
  split at hF
  case isFalse => cases hF
  rename_i hs
  injection hF with hF
  subst hF
  have e0 := relC_v (hR 0 (by simp))
  have e1 := relC_v (hR 1 (by simp))
  have hx : xs = #[.string s, .string sep] := by rw [two_args hl, e0, e1]
  rw [hx]
  obtain ⟨m, hm⟩ := h1 w hk
  have hsz : 1 ≤ sep.size := by rw [show sep.size = sep.data.toList.length from (Array.length_toList (xs := sep.data)).symm, hc]; exact Nat.le_refl _
  refine (Any.strings_Split L hi9 s sep m w (by omega) hm hsz).mono fun e w' ⟨he, hw⟩ => ?_
  have hd : (Lib.splitB sep 0 (Lib.countB s sep) s).map (·.data.toList) = spl c s.data.toList := by
    rw [Lib.splitB_data, hc]
    show Lib.splitK [c] 0 (Lib.count s.data.toList sep.data.toList) s.data.toList = _
    rw [hc]
    exact split_one _ _ (Nat.le_refl _)
  have hlen := Lib.splitB_all sep hsz 0 _ s rfl
  generalize hq : Lib.splitB sep 0 (Lib.countB s sep) s = q at *
  have hb : Below w.heap.size w w' := by rw [hw]; exact Below.alloc (Below.refl _ _) (Nat.le_refl _) _
  have hrows : (spl c s.data.toList).map (fun b => [AV.v (.string ⟨b.toArray⟩)]) = q.map fun b => [AV.v (.string b)] := by
    rw [← hd, List.map_map]; rfl
  rw [hrows]
  have hcell : ∀ i (hi : i < q.length), w'.cell? ⟨w.heap.size, i, none⟩ = some (.string q[i]) := fun i hi => by
    rw [hw]
    rw [World.cell?_alloc_new]
    simp [hi]
  refine ⟨_, fun b i => if b = w.heap.size then (q[i]?).map Value.string else I b i, he, fun b i v h => ?_, fun b i v h => ?_, fun b i v h => ?_, hb, .inl ?_⟩
  · have := World.block_lt_of_cell? _ _ (hI b i v h)
    have hn : b ≠ w.heap.size := by intro e; subst e; exact Nat.lt_irrefl _ this
    show (if b = w.heap.size then _ else _) = _
    rw [if_neg hn]
    exact h
  · by_cases e : b = w.heap.size
    · exact .inr (by omega)
    · replace h : (if b = w.heap.size then (q[i]?).map Value.string else I b i) = some v := h
      rw [if_neg e] at h; exact .inl h
  · dsimp only at h
    split at h
    · rename_i e
      subst e
      obtain ⟨x, hx, rfl⟩ := Option.map_eq_some_iff.1 h
      obtain ⟨hi, rfl⟩ := List.getElem?_eq_some_iff.1 hx
      exact hcell i hi
    · exact cell_below hb (hI b i v h)
  · have := RelC.slice (I := fun b i => if b = w.heap.size then (q[i]?).map Value.string else I b i) (o := .any) (es := 1) (xs := q.map fun b => [AV.v (.string b)]) (blk := w.heap.size) (off := 0) (cap := Lib.countB s sep + 1) (fun i _ => match q[i]? with | some b => .string b | none => Go.undef) (.inl rfl) (by simp; omega) (fun r hr => by obtain ⟨b, _, rfl⟩ := List.mem_map.1 hr; rfl)
      (fun r hr c hc => by obtain ⟨b, _, rfl⟩ := List.mem_map.1 hr; simp at hc; subst hc; rfl)
      (fun i hi j hj => by
        have hi' : i < q.length := by simpa using hi
        have hj' : j = 0 := by simp at hj; exact hj
        subst hj'
        simp [hi'])
      (fun i hi j hj => by
        have hi' : i < q.length := by simpa using hi
        have hj' : j = 0 := by simp at hj; exact hj
        subst hj'
        simp only [List.getElem_map, List.getElem_cons_zero, List.getElem?_eq_getElem hi']
        exact .v rfl)
    rw [List.length_map, hlen] at this
    exact this
end Go.Ax.Sx.Sc

/-
  What a row's conditions say of the library's variables; the wrap of a row that keeps the world's shape.
-/
namespace Go.Ax.Sx.Sc
open Go.Ax Go.Proofs Go.Shelf Go.RowKit
section
variable {H : Type} {enc : TypeId × Value → H}
theorem handed_and_shaped {a : Assume} {C : Checked} {os : Os} {f : FuncId} {fn : Func} {s : ChangeSpec} {conds : List PathCond} {apart fresh handsOn again : Bool} {X : World → Array Value → Prop}
    (hX : ∀ (w w' : World) (args : Array Value), w.heap = w'.heap → X w args → X w' args)
    (own : ownKnob C.prog.godebug = none) (started : os.Started) (noInit : C.prog.inits.idxOf? f = none) (hfn : C.prog.funcs[f]? = some fn)
    (witness : ∃ (w : World) (tape : Tape) (i : Input), w.os = os ∧ (w.forCall tape i).Shaped C.prog ∧ i.vars = [] ∧ Input.okWide C.prog (w.forCall tape i) .any w.heap.size f i ∧
      ((s.pre enc C.prog fn conds apart (w.forCall tape i).memory i.args ∧ X (w.forCall tape i).memory i.args) ∧ sizedMet enc C.prog fn (OpenSpec.ofChange s) apart (w.forCall tape i).memory i.args) ∧ a.holds C.prog (lone (Frame.enter C.prog f i.args .normal) [] (w.forCall tape i)))
    (contract : ∀ (W : World) (base : Nat) (args : Array Value) (ds gs : List (DataW H)) (before : List MemPlace),
      (∀ (j : Nat) t v, fn.params[j]? = some t → args[j]? = some v → Value.okWide C.prog W .any base t v) →
      DataW.Whole enc C.prog fn.params.toList s.vars apart W args.toList ds gs before →
      conds.all (PathCond.test C.prog ⟨fn.params.toList, ds, s.plain.varTypes C.prog, gs⟩) = true →
      (DataW.weightsEach C.prog (fn.params.toList ++ s.plain.varTypes C.prog) (ds ++ gs)).all (· ≤ reachBytes) = true → W.ShapedOpen C.prog → X W args →
      a.holds C.prog (lone (Frame.enter C.prog f args .normal) [] W) →
      Calls C.prog f args W fun e W' => ∃ v, e = .returned v ∧ s.post enc C.prog fn apart fresh handsOn again W args v W') :
    ReturnsInHanded a C os f .any (fun w args => (s.pre enc C.prog fn conds apart w args ∧ X w args) ∧ sizedMet enc C.prog fn (OpenSpec.ofChange s) apart w args) (s.post enc C.prog fn apart fresh handsOn again) := by
  refine returnsInHanded_of_calls own started noInit witness ?_
  intro w tape i _ hsh _ hok hpre hholds
  obtain ⟨_, _, _, fn', hfn', _, _, _, _, hval⟩ := hok
  have e : fn' = fn := Option.some.inj (hfn'.symm.trans hfn)
  subst e
  obtain ⟨⟨⟨ds, gs, before, hw, hc⟩, hx⟩, hz⟩ := hpre
  have hw' := DataW.Whole.of_heap (w' := w.forCall tape i) (by rfl) hw
  refine (contract (w.forCall tape i) w.heap.size i.args ds gs before hval hw' hc (hz.weights hw) hsh (hX _ _ _ (by rfl) hx) hholds).mono fun e W' ⟨v, he, hp⟩ => ?_
  subst he
  exact ChangeSpec.post_blind hp
end
theorem laid_at {P : Program} {w : World} {n : String} {d : DataW Unit} : ∀ {L : List (String × DataW Unit)} {ps : List MemPlace} {i : Nat}, DataW.LaidVars P w L ps → L[i]? = some (n, d) →
  ∃ g t cs fuel p, P.globalNamed n = some g ∧ (P.globals[g]?).map (·.type) = some t ∧ w.var? P n = some cs ∧ DataW.trod (fun _ => ()) P w 0 (fun _ => true) false fuel t cs.toList = some (d, p)
 | [], _, i, _, h => by simp at h
 | (n', d') :: r, ps, 0, ⟨g, t, cs, fuel, p, q, h1, h2, h3, h4, _, _⟩, h => by
  simp only [List.getElem?_cons_zero, Option.some.injEq, Prod.mk.injEq] at h
  obtain ⟨rfl, rfl⟩ := h
  exact ⟨g, t, cs, fuel, p, h1, h2, h3, h4⟩
 | (n', d') :: r, ps, i + 1, ⟨g, t, cs, fuel, p, q, _, _, _, _, h5, _⟩, h => laid_at h5 (by simpa using h)
theorem iface_trod {P : Program} {w : World} {base : Nat} {sp : Nat → Bool} {held : Bool} {fuel : Nat} {t : TypeId} {cs : List Value} {nm : String} {d : DataW Unit} {p : List MemPlace} {ms : Array (String × TypeId)} (hu : P.underlying t = some (.interface ms))
  (h : DataW.trod (fun _ => ()) P w base sp held fuel t cs = some (.iface nm d, p)) : ∃ u v, cs = [.iface u v] := by
 cases fuel with
 | zero => simp [DataW.trod] at h
 | succ fuel =>
  simp only [DataW.trod, hu] at h
  split at h <;> first | cases h | skip
  all_goals first | exact ⟨_, _, rfl⟩ | simp_all
structure KTypes (P : Program) (L : List (String × DataW Unit)) (g15 g16 : Nat) : Prop where
 tab : ∃ (i g : Nat) (t e : TypeId), L[i]? = some ("internal/strconv.uint64pow10", (Lib.tabData .u64 Lib.pow10Tab : DataW Unit)) ∧ P.globalNamed "internal/strconv.uint64pow10" = some g ∧ (P.globals[g]?).map (·.type) = some t ∧ P.underlying t = some (.array 20 e) ∧ P.underlying e = some (.int .u64) ∧ P.cellsOf e = 1 ∧ P.cellsOf t = 20
 e1 : ∃ (i : Nat) (t : TypeId) (ms : Array (String × TypeId)) (nm : String) (d : DataW Unit), L[i]? = some ("strconv.ErrSyntax", .iface nm d) ∧ P.globalNamed "strconv.ErrSyntax" = some g15 ∧ (P.globals[g15]?).map (·.type) = some t ∧ P.underlying t = some (.interface ms)
 e2 : ∃ (i : Nat) (t : TypeId) (ms : Array (String × TypeId)) (nm : String) (d : DataW Unit), L[i]? = some ("strconv.ErrRange", .iface nm d) ∧ P.globalNamed "strconv.ErrRange" = some g16 ∧ (P.globals[g16]?).map (·.type) = some t ∧ P.underlying t = some (.interface ms)
theorem kshelf_of {P : Program} {L : List (String × DataW Unit)} {g1 g15 g16 : Nat} {W : World} (T : KTypes P L g15 g16) (h : laidMet P L W) (hm : ∃ m, W.cell? ⟨g1, 0, none⟩ = some (.int .i64 m)) : KShelf P g1 g15 g16 W := by
 obtain ⟨ps, hv, _⟩ := h
 refine ⟨?_, hm, ?_, ?_⟩
 ·obtain ⟨i, g, t, e, hi, hg, ht, hu, he, hce, hct⟩ := T.tab
  obtain ⟨g', t', cs, fuel, p, h1, h2, h3, h4⟩ := laid_at hv hi
  obtain rfl := Option.some.inj (hg.symm.trans h1)
  obtain rfl := Option.some.inj (ht.symm.trans h2)
  unfold Lib.TabIs
  rw [h3, ← Lib.cells_of_tab hu he hce hct h4]
 ·obtain ⟨i, t, ms, nm, d, hi, hg, ht, hu⟩ := T.e1
  obtain ⟨g', t', cs, fuel, p, h1, h2, h3, h4⟩ := laid_at hv hi
  obtain rfl := Option.some.inj (hg.symm.trans h1)
  obtain rfl := Option.some.inj (ht.symm.trans h2)
  obtain ⟨u, v, e⟩ := iface_trod hu h4
  have hc := World.var?_cell hg h3 0
  have e2 : cs[0]? = some (.iface u v) := by
   have : cs.toList[0]? = some (.iface u v) := by rw [e]; rfl
   simpa using this
  exact ⟨.iface u v, by rw [hc, e2], .inr ⟨u, v, rfl⟩⟩
 ·obtain ⟨i, t, ms, nm, d, hi, hg, ht, hu⟩ := T.e2
  obtain ⟨g', t', cs, fuel, p, h1, h2, h3, h4⟩ := laid_at hv hi
  obtain rfl := Option.some.inj (hg.symm.trans h1)
  obtain rfl := Option.some.inj (ht.symm.trans h2)
  obtain ⟨u, v, e⟩ := iface_trod hu h4
  have hc := World.var?_cell hg h3 0
  have e2 : cs[0]? = some (.iface u v) := by
   have : cs.toList[0]? = some (.iface u v) := by rw [e]; rfl
   simpa using this
  exact ⟨.iface u v, by rw [hc, e2], .inr ⟨u, v, rfl⟩⟩
end Go.Ax.Sx.Sc

/- The codes that are computed with are those of the program: each one is what compFn gives; what is taken from the library is what the shelf says of it. -/
namespace Go.Proofs.YtdefcodhamifjaaGreatDoor.AxOk
open Go.Ax Go.Ax.Sx Go.Ax.Sx.Sc Go.Shelf
set_option maxRecDepth 100000

theorem k3 : compFn Tryz.prog false ⟨false, [], [], false, false, []⟩ Tryz.f3 = some c_l_ScheduleStrings := by kernel_rfl
theorem k4 : compFn Tryz.prog false ⟨false, [], [], false, false, []⟩ Tryz.f4 = some c_l_awake := by kernel_rfl
theorem k5 : compFn Tryz.prog false ⟨false, [], [], false, false, []⟩ Tryz.f5 = some c_l_Few := by kernel_rfl
theorem k6 : compFn Tryz.prog false ⟨false, [], [], false, false, []⟩ Tryz.f6 = some c_l_short := by kernel_rfl
theorem k7 : compFn Tryz.prog false ⟨false, [], [], false, false, []⟩ Tryz.f7 = some c_s_FormatPlan := by kernel_rfl
theorem k8 : compFn Tryz.prog true ⟨false, [], [], false, false, []⟩ Tryz.f8 = some c_r_Copy := by kernel_rfl
theorem k9 : compFn Tryz.prog false ⟨true, [21], [], false, false, [71, 32]⟩ Tryz.f9 = some c_s_ParsePlan := by kernel_rfl
theorem k10 : compFn Tryz.prog false ⟨false, [], [], false, false, []⟩ Tryz.f10 = some c_r_ParsePlan := by kernel_rfl
theorem k11 : compFn Tryz.prog false ⟨false, [], [], false, false, []⟩ Tryz.f11 = some c_r_FormatPlan := by kernel_rfl
theorem k12 : compFn Tryz.prog false ⟨false, [], [], false, false, []⟩ Tryz.f12 = some c_r_Same := by kernel_rfl
theorem k13 : compFn Tryz.prog false ⟨false, [], [], false, false, []⟩ Tryz.f13 = some c_r_PlanErr := by kernel_rfl
theorem k14 : compFn Tryz.prog false ⟨false, [], [], false, false, []⟩ Tryz.f14 = some c_s_Best := by kernel_rfl
theorem k15 : compFn Tryz.prog false ⟨false, [], [], false, false, []⟩ Tryz.f15 = some c_l_Week := by kernel_rfl
theorem k16 : compFn Tryz.prog false ⟨false, [], [], false, false, []⟩ Tryz.f16 = some c_s_ShareOf := by kernel_rfl
theorem k17 : compFn Tryz.prog false ⟨false, [], [], false, false, []⟩ Tryz.f17 = some c_b_Whole := by kernel_rfl
theorem k20 : compFn Tryz.prog true ⟨false, [], [], false, false, []⟩ Tryz.f20 = some c_b_CopyInts := by kernel_rfl
theorem k21 : compFn Tryz.prog false ⟨false, [42], [], false, false, []⟩ Tryz.f21 = some c_strings_SplitSeq := by kernel_rfl
theorem k24 : compFn Tryz.prog false ⟨false, [], [], false, false, []⟩ Tryz.f24 = some c_s_number := by kernel_rfl
theorem k25 : compFn Tryz.prog false ⟨false, [], [], false, false, []⟩ Tryz.f25 = some c_z_Contains_bool := by kernel_rfl
theorem k26 : compFn Tryz.prog false ⟨false, [], [], false, false, []⟩ Tryz.f26 = some c_b_Cut := by kernel_rfl
theorem k27 : compFn Tryz.prog false ⟨false, [], [], false, false, []⟩ Tryz.f27 = some c_r_passOf := by kernel_rfl
theorem k28 : compFn Tryz.prog false ⟨false, [], [], false, false, []⟩ Tryz.f28 = some c_b_Decimal := by kernel_rfl
theorem k29 : compFn Tryz.prog false ⟨false, [], [], false, false, []⟩ Tryz.f29 = some c_r_compare := by kernel_rfl
theorem k30 : compFn Tryz.prog false ⟨false, [], [], false, false, []⟩ Tryz.f30 = some c_r_WeekErr := by kernel_rfl
theorem k31 : compFn Tryz.prog false ⟨false, [], [], false, false, []⟩ Tryz.f31 = some c_r_CheckPlan := by kernel_rfl
theorem k32 : compFn Tryz.prog false ⟨false, [], [], false, false, []⟩ Tryz.f32 = some c_s_openSmall := by kernel_rfl
theorem k33 : compFn Tryz.prog false ⟨false, [], [], false, false, []⟩ Tryz.f33 = some c_w_free := by kernel_rfl
theorem k34 : compFn Tryz.prog false ⟨false, [], [], false, false, []⟩ Tryz.f34 = some c_c_best := by kernel_rfl
theorem k35 : compFn Tryz.prog false ⟨false, [], [], false, false, []⟩ Tryz.f35 = some c_s_openPlan := by kernel_rfl
theorem k36 : compFn Tryz.prog false ⟨false, [], [], false, false, []⟩ Tryz.f36 = some c_s_passOf := by kernel_rfl
theorem k37 : compFn Tryz.prog false ⟨false, [], [], false, false, []⟩ Tryz.f37 = some c_s_share := by kernel_rfl
theorem k42 : compFn Tryz.prog false ⟨false, [], [], false, false, []⟩ Tryz.f42 = some c_strings_splitSeq := by kernel_rfl
theorem k46 : compFn Tryz.prog false ⟨false, [], [], false, false, []⟩ Tryz.f46 = some c_z_Index_bool := by kernel_rfl
theorem k47 : compFn Tryz.prog false ⟨false, [], [], false, false, []⟩ Tryz.f47 = some c_r_number := by kernel_rfl
theorem k48 : compFn Tryz.prog false ⟨false, [], [], false, false, []⟩ Tryz.f48 = some c_b_Size := by kernel_rfl
theorem k49 : compFn Tryz.prog false ⟨false, [], [], false, false, []⟩ Tryz.f49 = some c_b_Before := by kernel_rfl
theorem k50 : compFn Tryz.prog false ⟨false, [], [], false, false, []⟩ Tryz.f50 = some c_r_CheckWeek := by kernel_rfl
theorem k51 : compFn Tryz.prog false ⟨false, [], [], false, false, []⟩ Tryz.f51 = some c_r_passErr := by kernel_rfl
theorem k52 : compFn Tryz.prog false ⟨false, [], [], false, false, []⟩ Tryz.f52 = some c_s_open := by kernel_rfl
theorem k53 : compFn Tryz.prog false ⟨false, [], [], false, false, []⟩ Tryz.f53 = some c_s_openSmall_1 := by kernel_rfl
theorem k54 : compFn Tryz.prog false ⟨false, [], [], false, false, []⟩ Tryz.f54 = some c_z_ContainsFunc_ScheduleRequest := by kernel_rfl
theorem k55 : compFn Tryz.prog false ⟨false, [], [], false, false, []⟩ Tryz.f55 = some c_s_unless := by kernel_rfl
theorem k56 : compFn Tryz.prog false ⟨false, [], [], false, false, []⟩ Tryz.f56 = some c_w_placements := by kernel_rfl
theorem k57 : compFn Tryz.prog false ⟨false, [], [], false, false, []⟩ Tryz.f57 = some c_c_worth := by kernel_rfl
theorem k58 : compFn Tryz.prog false ⟨false, [], [], false, false, []⟩ Tryz.f58 = some c_c_isPermitted := by kernel_rfl
theorem k59 : compFn Tryz.prog false ⟨false, [], [], false, false, []⟩ Tryz.f59 = some c_c_fits := by kernel_rfl
theorem k60 : compFn Tryz.prog false ⟨false, [], [], false, false, []⟩ Tryz.f60 = some c_z_Contains_int := by kernel_rfl
theorem k61 : compFn Tryz.prog false ⟨false, [], [], false, false, []⟩ Tryz.f61 = some c_c_next := by kernel_rfl
theorem k62 : compFn Tryz.prog false ⟨false, [], [], false, false, []⟩ Tryz.f62 = some c_w_check := by kernel_rfl
theorem k63 : compFn Tryz.prog false ⟨false, [], [], false, false, []⟩ Tryz.f63 = some c_z_IndexFunc_SchedulePass := by kernel_rfl
theorem k64 : compFn Tryz.prog false ⟨false, [], [], false, false, []⟩ Tryz.f64 = some c_s_passOf_1 := by kernel_rfl
theorem k68 : compFn Tryz.prog false ⟨false, [], [], false, false, []⟩ Tryz.f68 = some c_strings_splitSeq_1 := by kernel_rfl
theorem k76 : compFn Tryz.prog false ⟨false, [], [], false, false, []⟩ Tryz.f76 = some c_b_Number := by kernel_rfl
theorem k77 : compFn Tryz.prog false ⟨false, [], [], false, false, []⟩ Tryz.f77 = some c_b_Within := by kernel_rfl
theorem k78 : compFn Tryz.prog false ⟨false, [], [], false, false, []⟩ Tryz.f78 = some c_r_antennaErr := by kernel_rfl
theorem k79 : compFn Tryz.prog false ⟨false, [], [], false, false, []⟩ Tryz.f79 = some c_r_requestErr := by kernel_rfl
theorem k80 : compFn Tryz.prog false ⟨false, [], [], false, false, []⟩ Tryz.f80 = some c_b_Has := by kernel_rfl
theorem k81 : compFn Tryz.prog false ⟨false, [], [], false, false, []⟩ Tryz.f81 = some c_r_shut := by kernel_rfl
theorem k82 : compFn Tryz.prog false ⟨false, [], [], false, false, []⟩ Tryz.f82 = some c_r_Conflict := by kernel_rfl
theorem k83 : compFn Tryz.prog false ⟨false, [], [], false, false, []⟩ Tryz.f83 = some c_s_CheckWeek := by kernel_rfl
theorem k84 : compFn Tryz.prog false ⟨false, [], [], false, false, []⟩ Tryz.f84 = some c_z_IndexFunc_ScheduleRequest := by kernel_rfl
theorem k85 : compFn Tryz.prog false ⟨false, [], [], false, false, []⟩ Tryz.f85 = some c_w_possible := by kernel_rfl
theorem k86 : compFn Tryz.prog false ⟨false, [], [], false, false, []⟩ Tryz.f86 = some c_w_conflicts := by kernel_rfl
theorem k87 : compFn Tryz.prog false ⟨false, [], [], false, false, []⟩ Tryz.f87 = some c_s_members := by kernel_rfl
theorem k88 : compFn Tryz.prog false ⟨false, [], [], false, false, []⟩ Tryz.f88 = some c_w_without := by kernel_rfl
theorem k89 : compFn Tryz.prog false ⟨false, [], [], false, false, []⟩ Tryz.f89 = some c_w_fit := by kernel_rfl
theorem k90 : compFn Tryz.prog false ⟨false, [], [], false, false, []⟩ Tryz.f90 = some c_z_Index_int := by kernel_rfl
theorem k91 : compFn Tryz.prog true ⟨false, [], [], false, false, []⟩ Tryz.f91 = some c_z_Clone_SchedulePass := by kernel_rfl
theorem k92 : compFn Tryz.prog false ⟨false, [], [], false, false, []⟩ Tryz.f92 = some c_w_passErr := by kernel_rfl
theorem k111 : compFn Tryz.prog false ⟨false, [], [], false, false, []⟩ Tryz.f111 = some c_b_IsName := by kernel_rfl
theorem k112 : compFn Tryz.prog false ⟨false, [], [], false, false, []⟩ Tryz.f112 = some c_r_slotsErr := by kernel_rfl
theorem k113 : compFn Tryz.prog false ⟨false, [], [], false, false, []⟩ Tryz.f113 = some c_r_closed := by kernel_rfl
theorem k114 : compFn Tryz.prog false ⟨false, [], [], false, false, []⟩ Tryz.f114 = some c_s_first := by kernel_rfl
theorem k115 : compFn Tryz.prog false ⟨false, [], [], false, false, []⟩ Tryz.f115 = some c_s_within := by kernel_rfl
theorem k116 : compFn Tryz.prog false ⟨false, [], [], false, false, []⟩ Tryz.f116 = some c_s_antennaErr := by kernel_rfl
theorem k117 : compFn Tryz.prog false ⟨false, [], [], false, false, []⟩ Tryz.f117 = some c_s_requestErr := by kernel_rfl
theorem k118 : compFn Tryz.prog false ⟨false, [], [], false, false, []⟩ Tryz.f118 = some c_w_possible_1 := by kernel_rfl
theorem k119 : compFn Tryz.prog false ⟨false, [], [], false, false, []⟩ Tryz.f119 = some c_w_isOpen := by kernel_rfl
theorem k120 : compFn Tryz.prog false ⟨false, [], [], false, false, []⟩ Tryz.f120 = some c_s_groups := by kernel_rfl
theorem k121 : compFn Tryz.prog false ⟨false, [], [], false, false, []⟩ Tryz.f121 = some c_z_ContainsFunc_SchedulePass := by kernel_rfl
theorem k122 : compFn Tryz.prog false ⟨false, [], [], false, false, []⟩ Tryz.f122 = some c_w_conflicts_1 := by kernel_rfl
theorem k123 : compFn Tryz.prog false ⟨false, [], [], false, false, []⟩ Tryz.f123 = some c_w_conflict := by kernel_rfl
theorem k124 : compFn Tryz.prog false ⟨false, [], [], false, false, []⟩ Tryz.f124 = some c_w_requestErr := by kernel_rfl
theorem k135 : compFn Tryz.prog false ⟨false, [], [], false, false, []⟩ Tryz.f135 = some c_z_ContainsFunc_ScheduleAntenna := by kernel_rfl
theorem k136 : compFn Tryz.prog false ⟨false, [], [], false, false, []⟩ Tryz.f136 = some c_s_antennaErr_1 := by kernel_rfl
theorem k137 : compFn Tryz.prog false ⟨false, [], [], false, false, []⟩ Tryz.f137 = some c_s_isName := by kernel_rfl
theorem k138 : compFn Tryz.prog false ⟨false, [], [], false, false, []⟩ Tryz.f138 = some c_s_slotsErr := by kernel_rfl
theorem k139 : compFn Tryz.prog false ⟨false, [], [], false, false, []⟩ Tryz.f139 = some c_s_groups_1 := by kernel_rfl
theorem k140 : compFn Tryz.prog false ⟨false, [], [], false, false, []⟩ Tryz.f140 = some c_s_groups_1_1 := by kernel_rfl
theorem k141 : compFn Tryz.prog true ⟨false, [], [], false, false, []⟩ Tryz.f141 = some c_z_Clone_int := by kernel_rfl
theorem k142 : compFn Tryz.prog false ⟨false, [], [], false, false, []⟩ Tryz.f142 = some c_z_ContainsFunc_int := by kernel_rfl
theorem k143 : compFn Tryz.prog false ⟨false, [], [], false, false, []⟩ Tryz.f143 = some c_w_conflict_1 := by kernel_rfl
theorem k144 : compFn Tryz.prog false ⟨false, [], [], false, false, []⟩ Tryz.f144 = some c_w_end := by kernel_rfl
theorem k149 : compFn Tryz.prog false ⟨false, [], [], false, false, []⟩ Tryz.f149 = some c_z_IndexFunc_ScheduleAntenna := by kernel_rfl
theorem k150 : compFn Tryz.prog false ⟨false, [], [], false, false, []⟩ Tryz.f150 = some c_s_slotsErr_1 := by kernel_rfl
theorem k151 : compFn Tryz.prog false ⟨false, [], [], false, false, []⟩ Tryz.f151 = some c_z_IndexFunc_int := by kernel_rfl

theorem code_ok (f : FuncId) (np nt : Nat) (b : ACode) (rs : List ARes) (own : Bool) (h : AP f = some (.code np nt b rs own)) : ∃ fn mu, Tryz.prog.funcs[f]? = some fn ∧ compFn Tryz.prog own mu fn = some (.code np nt b rs own) := by
  match f, h with
  | 0, h => have e : AP 0 = none := rfl; rw [e] at h; cases h
  | 1, h => have e : AP 1 = none := rfl; rw [e] at h; cases h
  | 2, h => have e : AP 2 = none := rfl; rw [e] at h; cases h
  | 3, h => have e : c_l_ScheduleStrings = .code np nt b rs own := Option.some.inj h; unfold c_l_ScheduleStrings at e; cases e; exact ⟨_, _, Tryz.func3, k3⟩
  | 4, h => have e : c_l_awake = .code np nt b rs own := Option.some.inj h; unfold c_l_awake at e; cases e; exact ⟨_, _, Tryz.func4, k4⟩
  | 5, h => have e : c_l_Few = .code np nt b rs own := Option.some.inj h; unfold c_l_Few at e; cases e; exact ⟨_, _, Tryz.func5, k5⟩
  | 6, h => have e : c_l_short = .code np nt b rs own := Option.some.inj h; unfold c_l_short at e; cases e; exact ⟨_, _, Tryz.func6, k6⟩
  | 7, h => have e : c_s_FormatPlan = .code np nt b rs own := Option.some.inj h; unfold c_s_FormatPlan at e; cases e; exact ⟨_, _, Tryz.func7, k7⟩
  | 8, h => have e : c_r_Copy = .code np nt b rs own := Option.some.inj h; unfold c_r_Copy at e; cases e; exact ⟨_, _, Tryz.func8, k8⟩
  | 9, h => have e : c_s_ParsePlan = .code np nt b rs own := Option.some.inj h; unfold c_s_ParsePlan at e; cases e; exact ⟨_, _, Tryz.func9, k9⟩
  | 10, h => have e : c_r_ParsePlan = .code np nt b rs own := Option.some.inj h; unfold c_r_ParsePlan at e; cases e; exact ⟨_, _, Tryz.func10, k10⟩
  | 11, h => have e : c_r_FormatPlan = .code np nt b rs own := Option.some.inj h; unfold c_r_FormatPlan at e; cases e; exact ⟨_, _, Tryz.func11, k11⟩
  | 12, h => have e : c_r_Same = .code np nt b rs own := Option.some.inj h; unfold c_r_Same at e; cases e; exact ⟨_, _, Tryz.func12, k12⟩
  | 13, h => have e : c_r_PlanErr = .code np nt b rs own := Option.some.inj h; unfold c_r_PlanErr at e; cases e; exact ⟨_, _, Tryz.func13, k13⟩
  | 14, h => have e : c_s_Best = .code np nt b rs own := Option.some.inj h; unfold c_s_Best at e; cases e; exact ⟨_, _, Tryz.func14, k14⟩
  | 15, h => have e : c_l_Week = .code np nt b rs own := Option.some.inj h; unfold c_l_Week at e; cases e; exact ⟨_, _, Tryz.func15, k15⟩
  | 16, h => have e : c_s_ShareOf = .code np nt b rs own := Option.some.inj h; unfold c_s_ShareOf at e; cases e; exact ⟨_, _, Tryz.func16, k16⟩
  | 17, h => have e : c_b_Whole = .code np nt b rs own := Option.some.inj h; unfold c_b_Whole at e; cases e; exact ⟨_, _, Tryz.func17, k17⟩
  | 18, h => have e : pItoaA = .code np nt b rs own := Option.some.inj h; unfold pItoaA at e; cases e
  | 19, h => have e : pJoin = .code np nt b rs own := Option.some.inj h; unfold pJoin at e; cases e
  | 20, h => have e : c_b_CopyInts = .code np nt b rs own := Option.some.inj h; unfold c_b_CopyInts at e; cases e; exact ⟨_, _, Tryz.func20, k20⟩
  | 21, h => have e : c_strings_SplitSeq = .code np nt b rs own := Option.some.inj h; unfold c_strings_SplitSeq at e; cases e; exact ⟨_, _, Tryz.func21, k21⟩
  | 22, h => have e : pCut = .code np nt b rs own := Option.some.inj h; unfold pCut at e; cases e
  | 23, h => have e : pSplit = .code np nt b rs own := Option.some.inj h; unfold pSplit at e; cases e
  | 24, h => have e : c_s_number = .code np nt b rs own := Option.some.inj h; unfold c_s_number at e; cases e; exact ⟨_, _, Tryz.func24, k24⟩
  | 25, h => have e : c_z_Contains_bool = .code np nt b rs own := Option.some.inj h; unfold c_z_Contains_bool at e; cases e; exact ⟨_, _, Tryz.func25, k25⟩
  | 26, h => have e : c_b_Cut = .code np nt b rs own := Option.some.inj h; unfold c_b_Cut at e; cases e; exact ⟨_, _, Tryz.func26, k26⟩
  | 27, h => have e : c_r_passOf = .code np nt b rs own := Option.some.inj h; unfold c_r_passOf at e; cases e; exact ⟨_, _, Tryz.func27, k27⟩
  | 28, h => have e : c_b_Decimal = .code np nt b rs own := Option.some.inj h; unfold c_b_Decimal at e; cases e; exact ⟨_, _, Tryz.func28, k28⟩
  | 29, h => have e : c_r_compare = .code np nt b rs own := Option.some.inj h; unfold c_r_compare at e; cases e; exact ⟨_, _, Tryz.func29, k29⟩
  | 30, h => have e : c_r_WeekErr = .code np nt b rs own := Option.some.inj h; unfold c_r_WeekErr at e; cases e; exact ⟨_, _, Tryz.func30, k30⟩
  | 31, h => have e : c_r_CheckPlan = .code np nt b rs own := Option.some.inj h; unfold c_r_CheckPlan at e; cases e; exact ⟨_, _, Tryz.func31, k31⟩
  | 32, h => have e : c_s_openSmall = .code np nt b rs own := Option.some.inj h; unfold c_s_openSmall at e; cases e; exact ⟨_, _, Tryz.func32, k32⟩
  | 33, h => have e : c_w_free = .code np nt b rs own := Option.some.inj h; unfold c_w_free at e; cases e; exact ⟨_, _, Tryz.func33, k33⟩
  | 34, h => have e : c_c_best = .code np nt b rs own := Option.some.inj h; unfold c_c_best at e; cases e; exact ⟨_, _, Tryz.func34, k34⟩
  | 35, h => have e : c_s_openPlan = .code np nt b rs own := Option.some.inj h; unfold c_s_openPlan at e; cases e; exact ⟨_, _, Tryz.func35, k35⟩
  | 36, h => have e : c_s_passOf = .code np nt b rs own := Option.some.inj h; unfold c_s_passOf at e; cases e; exact ⟨_, _, Tryz.func36, k36⟩
  | 37, h => have e : c_s_share = .code np nt b rs own := Option.some.inj h; unfold c_s_share at e; cases e; exact ⟨_, _, Tryz.func37, k37⟩
  | 38, h => have e : AP 38 = none := rfl; rw [e] at h; cases h
  | 39, h => have e : AP 39 = none := rfl; rw [e] at h; cases h
  | 40, h => have e : AP 40 = none := rfl; rw [e] at h; cases h
  | 41, h => have e : AP 41 = none := rfl; rw [e] at h; cases h
  | 42, h => have e : c_strings_splitSeq = .code np nt b rs own := Option.some.inj h; unfold c_strings_splitSeq at e; cases e; exact ⟨_, _, Tryz.func42, k42⟩
  | 43, h => have e : AP 43 = none := rfl; rw [e] at h; cases h
  | 44, h => have e : AP 44 = none := rfl; rw [e] at h; cases h
  | 45, h => have e : pAtoi = .code np nt b rs own := Option.some.inj h; unfold pAtoi at e; cases e
  | 46, h => have e : c_z_Index_bool = .code np nt b rs own := Option.some.inj h; unfold c_z_Index_bool at e; cases e; exact ⟨_, _, Tryz.func46, k46⟩
  | 47, h => have e : c_r_number = .code np nt b rs own := Option.some.inj h; unfold c_r_number at e; cases e; exact ⟨_, _, Tryz.func47, k47⟩
  | 48, h => have e : c_b_Size = .code np nt b rs own := Option.some.inj h; unfold c_b_Size at e; cases e; exact ⟨_, _, Tryz.func48, k48⟩
  | 49, h => have e : c_b_Before = .code np nt b rs own := Option.some.inj h; unfold c_b_Before at e; cases e; exact ⟨_, _, Tryz.func49, k49⟩
  | 50, h => have e : c_r_CheckWeek = .code np nt b rs own := Option.some.inj h; unfold c_r_CheckWeek at e; cases e; exact ⟨_, _, Tryz.func50, k50⟩
  | 51, h => have e : c_r_passErr = .code np nt b rs own := Option.some.inj h; unfold c_r_passErr at e; cases e; exact ⟨_, _, Tryz.func51, k51⟩
  | 52, h => have e : c_s_open = .code np nt b rs own := Option.some.inj h; unfold c_s_open at e; cases e; exact ⟨_, _, Tryz.func52, k52⟩
  | 53, h => have e : c_s_openSmall_1 = .code np nt b rs own := Option.some.inj h; unfold c_s_openSmall_1 at e; cases e; exact ⟨_, _, Tryz.func53, k53⟩
  | 54, h => have e : c_z_ContainsFunc_ScheduleRequest = .code np nt b rs own := Option.some.inj h; unfold c_z_ContainsFunc_ScheduleRequest at e; cases e; exact ⟨_, _, Tryz.func54, k54⟩
  | 55, h => have e : c_s_unless = .code np nt b rs own := Option.some.inj h; unfold c_s_unless at e; cases e; exact ⟨_, _, Tryz.func55, k55⟩
  | 56, h => have e : c_w_placements = .code np nt b rs own := Option.some.inj h; unfold c_w_placements at e; cases e; exact ⟨_, _, Tryz.func56, k56⟩
  | 57, h => have e : c_c_worth = .code np nt b rs own := Option.some.inj h; unfold c_c_worth at e; cases e; exact ⟨_, _, Tryz.func57, k57⟩
  | 58, h => have e : c_c_isPermitted = .code np nt b rs own := Option.some.inj h; unfold c_c_isPermitted at e; cases e; exact ⟨_, _, Tryz.func58, k58⟩
  | 59, h => have e : c_c_fits = .code np nt b rs own := Option.some.inj h; unfold c_c_fits at e; cases e; exact ⟨_, _, Tryz.func59, k59⟩
  | 60, h => have e : c_z_Contains_int = .code np nt b rs own := Option.some.inj h; unfold c_z_Contains_int at e; cases e; exact ⟨_, _, Tryz.func60, k60⟩
  | 61, h => have e : c_c_next = .code np nt b rs own := Option.some.inj h; unfold c_c_next at e; cases e; exact ⟨_, _, Tryz.func61, k61⟩
  | 62, h => have e : c_w_check = .code np nt b rs own := Option.some.inj h; unfold c_w_check at e; cases e; exact ⟨_, _, Tryz.func62, k62⟩
  | 63, h => have e : c_z_IndexFunc_SchedulePass = .code np nt b rs own := Option.some.inj h; unfold c_z_IndexFunc_SchedulePass at e; cases e; exact ⟨_, _, Tryz.func63, k63⟩
  | 64, h => have e : c_s_passOf_1 = .code np nt b rs own := Option.some.inj h; unfold c_s_passOf_1 at e; cases e; exact ⟨_, _, Tryz.func64, k64⟩
  | 65, h => have e : AP 65 = none := rfl; rw [e] at h; cases h
  | 66, h => have e : AP 66 = none := rfl; rw [e] at h; cases h
  | 67, h => have e : AP 67 = none := rfl; rw [e] at h; cases h
  | 68, h => have e : c_strings_splitSeq_1 = .code np nt b rs own := Option.some.inj h; unfold c_strings_splitSeq_1 at e; cases e; exact ⟨_, _, Tryz.func68, k68⟩
  | 69, h => have e : AP 69 = none := rfl; rw [e] at h; cases h
  | 70, h => have e : pIndex = .code np nt b rs own := Option.some.inj h; unfold pIndex at e; cases e
  | 71, h => have e : AP 71 = none := rfl; rw [e] at h; cases h
  | 72, h => have e : AP 72 = none := rfl; rw [e] at h; cases h
  | 73, h => have e : AP 73 = none := rfl; rw [e] at h; cases h
  | 74, h => have e : AP 74 = none := rfl; rw [e] at h; cases h
  | 75, h => have e : AP 75 = none := rfl; rw [e] at h; cases h
  | 76, h => have e : c_b_Number = .code np nt b rs own := Option.some.inj h; unfold c_b_Number at e; cases e; exact ⟨_, _, Tryz.func76, k76⟩
  | 77, h => have e : c_b_Within = .code np nt b rs own := Option.some.inj h; unfold c_b_Within at e; cases e; exact ⟨_, _, Tryz.func77, k77⟩
  | 78, h => have e : c_r_antennaErr = .code np nt b rs own := Option.some.inj h; unfold c_r_antennaErr at e; cases e; exact ⟨_, _, Tryz.func78, k78⟩
  | 79, h => have e : c_r_requestErr = .code np nt b rs own := Option.some.inj h; unfold c_r_requestErr at e; cases e; exact ⟨_, _, Tryz.func79, k79⟩
  | 80, h => have e : c_b_Has = .code np nt b rs own := Option.some.inj h; unfold c_b_Has at e; cases e; exact ⟨_, _, Tryz.func80, k80⟩
  | 81, h => have e : c_r_shut = .code np nt b rs own := Option.some.inj h; unfold c_r_shut at e; cases e; exact ⟨_, _, Tryz.func81, k81⟩
  | 82, h => have e : c_r_Conflict = .code np nt b rs own := Option.some.inj h; unfold c_r_Conflict at e; cases e; exact ⟨_, _, Tryz.func82, k82⟩
  | 83, h => have e : c_s_CheckWeek = .code np nt b rs own := Option.some.inj h; unfold c_s_CheckWeek at e; cases e; exact ⟨_, _, Tryz.func83, k83⟩
  | 84, h => have e : c_z_IndexFunc_ScheduleRequest = .code np nt b rs own := Option.some.inj h; unfold c_z_IndexFunc_ScheduleRequest at e; cases e; exact ⟨_, _, Tryz.func84, k84⟩
  | 85, h => have e : c_w_possible = .code np nt b rs own := Option.some.inj h; unfold c_w_possible at e; cases e; exact ⟨_, _, Tryz.func85, k85⟩
  | 86, h => have e : c_w_conflicts = .code np nt b rs own := Option.some.inj h; unfold c_w_conflicts at e; cases e; exact ⟨_, _, Tryz.func86, k86⟩
  | 87, h => have e : c_s_members = .code np nt b rs own := Option.some.inj h; unfold c_s_members at e; cases e; exact ⟨_, _, Tryz.func87, k87⟩
  | 88, h => have e : c_w_without = .code np nt b rs own := Option.some.inj h; unfold c_w_without at e; cases e; exact ⟨_, _, Tryz.func88, k88⟩
  | 89, h => have e : c_w_fit = .code np nt b rs own := Option.some.inj h; unfold c_w_fit at e; cases e; exact ⟨_, _, Tryz.func89, k89⟩
  | 90, h => have e : c_z_Index_int = .code np nt b rs own := Option.some.inj h; unfold c_z_Index_int at e; cases e; exact ⟨_, _, Tryz.func90, k90⟩
  | 91, h => have e : c_z_Clone_SchedulePass = .code np nt b rs own := Option.some.inj h; unfold c_z_Clone_SchedulePass at e; cases e; exact ⟨_, _, Tryz.func91, k91⟩
  | 92, h => have e : c_w_passErr = .code np nt b rs own := Option.some.inj h; unfold c_w_passErr at e; cases e; exact ⟨_, _, Tryz.func92, k92⟩
  | 93, h => have e : AP 93 = none := rfl; rw [e] at h; cases h
  | 94, h => have e : AP 94 = none := rfl; rw [e] at h; cases h
  | 95, h => have e : AP 95 = none := rfl; rw [e] at h; cases h
  | 96, h => have e : AP 96 = none := rfl; rw [e] at h; cases h
  | 97, h => have e : AP 97 = none := rfl; rw [e] at h; cases h
  | 98, h => have e : AP 98 = none := rfl; rw [e] at h; cases h
  | 99, h => have e : AP 99 = none := rfl; rw [e] at h; cases h
  | 100, h => have e : AP 100 = none := rfl; rw [e] at h; cases h
  | 101, h => have e : AP 101 = none := rfl; rw [e] at h; cases h
  | 102, h => have e : AP 102 = none := rfl; rw [e] at h; cases h
  | 103, h => have e : AP 103 = none := rfl; rw [e] at h; cases h
  | 104, h => have e : AP 104 = none := rfl; rw [e] at h; cases h
  | 105, h => have e : AP 105 = none := rfl; rw [e] at h; cases h
  | 106, h => have e : AP 106 = none := rfl; rw [e] at h; cases h
  | 107, h => have e : AP 107 = none := rfl; rw [e] at h; cases h
  | 108, h => have e : AP 108 = none := rfl; rw [e] at h; cases h
  | 109, h => have e : AP 109 = none := rfl; rw [e] at h; cases h
  | 110, h => have e : AP 110 = none := rfl; rw [e] at h; cases h
  | 111, h => have e : c_b_IsName = .code np nt b rs own := Option.some.inj h; unfold c_b_IsName at e; cases e; exact ⟨_, _, Tryz.func111, k111⟩
  | 112, h => have e : c_r_slotsErr = .code np nt b rs own := Option.some.inj h; unfold c_r_slotsErr at e; cases e; exact ⟨_, _, Tryz.func112, k112⟩
  | 113, h => have e : c_r_closed = .code np nt b rs own := Option.some.inj h; unfold c_r_closed at e; cases e; exact ⟨_, _, Tryz.func113, k113⟩
  | 114, h => have e : c_s_first = .code np nt b rs own := Option.some.inj h; unfold c_s_first at e; cases e; exact ⟨_, _, Tryz.func114, k114⟩
  | 115, h => have e : c_s_within = .code np nt b rs own := Option.some.inj h; unfold c_s_within at e; cases e; exact ⟨_, _, Tryz.func115, k115⟩
  | 116, h => have e : c_s_antennaErr = .code np nt b rs own := Option.some.inj h; unfold c_s_antennaErr at e; cases e; exact ⟨_, _, Tryz.func116, k116⟩
  | 117, h => have e : c_s_requestErr = .code np nt b rs own := Option.some.inj h; unfold c_s_requestErr at e; cases e; exact ⟨_, _, Tryz.func117, k117⟩
  | 118, h => have e : c_w_possible_1 = .code np nt b rs own := Option.some.inj h; unfold c_w_possible_1 at e; cases e; exact ⟨_, _, Tryz.func118, k118⟩
  | 119, h => have e : c_w_isOpen = .code np nt b rs own := Option.some.inj h; unfold c_w_isOpen at e; cases e; exact ⟨_, _, Tryz.func119, k119⟩
  | 120, h => have e : c_s_groups = .code np nt b rs own := Option.some.inj h; unfold c_s_groups at e; cases e; exact ⟨_, _, Tryz.func120, k120⟩
  | 121, h => have e : c_z_ContainsFunc_SchedulePass = .code np nt b rs own := Option.some.inj h; unfold c_z_ContainsFunc_SchedulePass at e; cases e; exact ⟨_, _, Tryz.func121, k121⟩
  | 122, h => have e : c_w_conflicts_1 = .code np nt b rs own := Option.some.inj h; unfold c_w_conflicts_1 at e; cases e; exact ⟨_, _, Tryz.func122, k122⟩
  | 123, h => have e : c_w_conflict = .code np nt b rs own := Option.some.inj h; unfold c_w_conflict at e; cases e; exact ⟨_, _, Tryz.func123, k123⟩
  | 124, h => have e : c_w_requestErr = .code np nt b rs own := Option.some.inj h; unfold c_w_requestErr at e; cases e; exact ⟨_, _, Tryz.func124, k124⟩
  | 125, h => have e : AP 125 = none := rfl; rw [e] at h; cases h
  | 126, h => have e : AP 126 = none := rfl; rw [e] at h; cases h
  | 127, h => have e : AP 127 = none := rfl; rw [e] at h; cases h
  | 128, h => have e : AP 128 = none := rfl; rw [e] at h; cases h
  | 129, h => have e : AP 129 = none := rfl; rw [e] at h; cases h
  | 130, h => have e : AP 130 = none := rfl; rw [e] at h; cases h
  | 131, h => have e : AP 131 = none := rfl; rw [e] at h; cases h
  | 132, h => have e : AP 132 = none := rfl; rw [e] at h; cases h
  | 133, h => have e : AP 133 = none := rfl; rw [e] at h; cases h
  | 134, h => have e : AP 134 = none := rfl; rw [e] at h; cases h
  | 135, h => have e : c_z_ContainsFunc_ScheduleAntenna = .code np nt b rs own := Option.some.inj h; unfold c_z_ContainsFunc_ScheduleAntenna at e; cases e; exact ⟨_, _, Tryz.func135, k135⟩
  | 136, h => have e : c_s_antennaErr_1 = .code np nt b rs own := Option.some.inj h; unfold c_s_antennaErr_1 at e; cases e; exact ⟨_, _, Tryz.func136, k136⟩
  | 137, h => have e : c_s_isName = .code np nt b rs own := Option.some.inj h; unfold c_s_isName at e; cases e; exact ⟨_, _, Tryz.func137, k137⟩
  | 138, h => have e : c_s_slotsErr = .code np nt b rs own := Option.some.inj h; unfold c_s_slotsErr at e; cases e; exact ⟨_, _, Tryz.func138, k138⟩
  | 139, h => have e : c_s_groups_1 = .code np nt b rs own := Option.some.inj h; unfold c_s_groups_1 at e; cases e; exact ⟨_, _, Tryz.func139, k139⟩
  | 140, h => have e : c_s_groups_1_1 = .code np nt b rs own := Option.some.inj h; unfold c_s_groups_1_1 at e; cases e; exact ⟨_, _, Tryz.func140, k140⟩
  | 141, h => have e : c_z_Clone_int = .code np nt b rs own := Option.some.inj h; unfold c_z_Clone_int at e; cases e; exact ⟨_, _, Tryz.func141, k141⟩
  | 142, h => have e : c_z_ContainsFunc_int = .code np nt b rs own := Option.some.inj h; unfold c_z_ContainsFunc_int at e; cases e; exact ⟨_, _, Tryz.func142, k142⟩
  | 143, h => have e : c_w_conflict_1 = .code np nt b rs own := Option.some.inj h; unfold c_w_conflict_1 at e; cases e; exact ⟨_, _, Tryz.func143, k143⟩
  | 144, h => have e : c_w_end = .code np nt b rs own := Option.some.inj h; unfold c_w_end at e; cases e; exact ⟨_, _, Tryz.func144, k144⟩
  | 145, h => have e : AP 145 = none := rfl; rw [e] at h; cases h
  | 146, h => have e : AP 146 = none := rfl; rw [e] at h; cases h
  | 147, h => have e : AP 147 = none := rfl; rw [e] at h; cases h
  | 148, h => have e : AP 148 = none := rfl; rw [e] at h; cases h
  | 149, h => have e : c_z_IndexFunc_ScheduleAntenna = .code np nt b rs own := Option.some.inj h; unfold c_z_IndexFunc_ScheduleAntenna at e; cases e; exact ⟨_, _, Tryz.func149, k149⟩
  | 150, h => have e : c_s_slotsErr_1 = .code np nt b rs own := Option.some.inj h; unfold c_s_slotsErr_1 at e; cases e; exact ⟨_, _, Tryz.func150, k150⟩
  | 151, h => have e : c_z_IndexFunc_int = .code np nt b rs own := Option.some.inj h; unfold c_z_IndexFunc_int at e; cases e; exact ⟨_, _, Tryz.func151, k151⟩
  | m + 152, h => have e : AP (m + 152) = none := rfl; rw [e] at h; cases h

def lays171_ren : Ren where
  f := fun x => match x with | 171 => 18 | 243 => 38 | 246 => 65 | 283 => 93 | 284 => 94 | 285 => 95 | 286 => 96 | 129 => 126 | 317 => 125 | 318 => 127 | 319 => 128 | 320 => 129 | 337 => 145 | 338 => 146 | n => n
  t := fun x => match x with | 3 => 3 | 9 => 9 | 2 => 2 | 4 => 4 | 171 => 156 | 0 => 0 | 53 => 157 | 37 => 93 | 5 => 5 | 173 => 160 | 212 => 185 | 51 => 186 | 20 => 20 | 213 => 187 | 46 => 166 | 232 => 215 | 233 => 216 | n => n
  g := fun x => match x with | 17 => 1 | 18 => 6 | 19 => 7 | n => n
theorem lays171 : LaysM.n171 Tryz.prog lays171_ren where
  mixed := by kernel_rfl
  f129 := Eq.trans Tryz.func126 (by kernel_rfl)
  f171 := Eq.trans Tryz.func18 (by kernel_rfl)
  f243 := Eq.trans Tryz.func38 (by kernel_rfl)
  f246 := Eq.trans Tryz.func65 (by kernel_rfl)
  f283 := Eq.trans Tryz.func93 (by kernel_rfl)
  f284 := Eq.trans Tryz.func94 (by kernel_rfl)
  f285 := Eq.trans Tryz.func95 (by kernel_rfl)
  f286 := Eq.trans Tryz.func96 (by kernel_rfl)
  f317 := Eq.trans Tryz.func125 (by kernel_rfl)
  f318 := Eq.trans Tryz.func127 (by kernel_rfl)
  f319 := Eq.trans Tryz.func128 (by kernel_rfl)
  f320 := Eq.trans Tryz.func129 (by kernel_rfl)
  f337 := Eq.trans Tryz.func145 (by kernel_rfl)
  f338 := Eq.trans Tryz.func146 (by kernel_rfl)
  t0 := Tryz.underlying0
  a0 := Tryz.isAgg0
  z0 := Tryz.sizeOf0
  v0 := Tryz.zeroValue0
  t2 := Tryz.underlying2
  a2 := Tryz.isAgg2
  z2 := Tryz.sizeOf2
  v2 := Tryz.zeroValue2
  t3 := Tryz.underlying3
  a3 := Tryz.isAgg3
  z3 := Tryz.sizeOf3
  v3 := Tryz.zeroValue3
  t4 := Tryz.underlying4
  a4 := Tryz.isAgg4
  z4 := Tryz.sizeOf4
  v4 := Tryz.zeroValue4
  t5 := Tryz.underlying5
  a5 := Tryz.isAgg5
  z5 := Tryz.sizeOf5
  v5 := Tryz.zeroValue5
  t9 := Tryz.underlying9
  a9 := Tryz.isAgg9
  z9 := Tryz.sizeOf9
  v9 := Tryz.zeroValue9
  t20 := Tryz.underlying20
  a20 := Tryz.isAgg20
  z20 := Tryz.sizeOf20
  v20 := Tryz.zeroValue20
  t37 := Tryz.underlying93
  a37 := Tryz.isAgg93
  z37 := Tryz.sizeOf93
  v37 := Tryz.zeroValue93
  t46 := Tryz.underlying166
  a46 := Tryz.isAgg166
  z46 := Tryz.sizeOf166
  v46 := Tryz.zeroValue166
  t51 := Tryz.underlying186
  a51 := Tryz.isAgg186
  z51 := Tryz.sizeOf186
  v51 := Tryz.zeroValue186
  t53 := Tryz.underlying157
  a53 := Tryz.isAgg157
  z53 := Tryz.sizeOf157
  v53 := Tryz.zeroValue157
  t171 := Tryz.underlying156
  a171 := Tryz.isAgg156
  z171 := Tryz.sizeOf156
  v171 := Tryz.zeroValue156
  t173 := Tryz.underlying160
  a173 := Tryz.isAgg160
  z173 := Tryz.sizeOf160
  v173 := Tryz.zeroValue160
  t212 := Tryz.underlying185
  a212 := Tryz.isAgg185
  z212 := Tryz.sizeOf185
  v212 := Tryz.zeroValue185
  t213 := Tryz.underlying187
  a213 := Tryz.isAgg187
  z213 := Tryz.sizeOf187
  t232 := Tryz.underlying215
  a232 := Tryz.isAgg215
  z232 := Tryz.sizeOf215
  v232 := Tryz.zeroValue215
  t233 := Tryz.underlying216
  a233 := Tryz.isAgg216
  z233 := Tryz.sizeOf216
  v233 := Tryz.zeroValue216
  g17 := by kernel_rfl
  g18 := by kernel_rfl
  g19 := by kernel_rfl
  i0 := by kernel_rfl
  i2 := by kernel_rfl
  i3 := by kernel_rfl
  i4 := by kernel_rfl
  i5 := by kernel_rfl
  i9 := by kernel_rfl
  i20 := by kernel_rfl
  i37 := by kernel_rfl
  i46 := by kernel_rfl
  i51 := by kernel_rfl
  i53 := by kernel_rfl
  i171 := by kernel_rfl
  i173 := by kernel_rfl
  i212 := by kernel_rfl
  i232 := by kernel_rfl
  i233 := by kernel_rfl
  m17 := by kernel_rfl
  m18 := by kernel_rfl
  m19 := by kernel_rfl
def lays156_ren : Ren where
  f := fun x => match x with | 156 => 19 | 165 => 39 | 166 => 40 | 169 => 41 | 240 => 66 | 241 => 67 | 276 => 97 | 277 => 98 | n => n
  t := fun x => match x with | 31 => 58 | 9 => 9 | 3 => 3 | 4 => 4 | 0 => 0 | 20 => 20 | 72 => 95 | 76 => 99 | 70 => 92 | 37 => 93 | 75 => 98 | 127 => 131 | 164 => 162 | 5 => 5 | 80 => 101 | n => n
  g := fun n => n
theorem lays156 : Lays.n156 Tryz.prog lays156_ren where
  mixed := by kernel_rfl
  f156 := Eq.trans Tryz.func19 (by kernel_rfl)
  f165 := Eq.trans Tryz.func39 (by kernel_rfl)
  f166 := Eq.trans Tryz.func40 (by kernel_rfl)
  f169 := Eq.trans Tryz.func41 (by kernel_rfl)
  f240 := Eq.trans Tryz.func66 (by kernel_rfl)
  f241 := Eq.trans Tryz.func67 (by kernel_rfl)
  f276 := Eq.trans Tryz.func97 (by kernel_rfl)
  f277 := Eq.trans Tryz.func98 (by kernel_rfl)
  t0 := Tryz.underlying0
  a0 := Tryz.isAgg0
  z0 := Tryz.sizeOf0
  v0 := Tryz.zeroValue0
  t3 := Tryz.underlying3
  a3 := Tryz.isAgg3
  z3 := Tryz.sizeOf3
  v3 := Tryz.zeroValue3
  t4 := Tryz.underlying4
  a4 := Tryz.isAgg4
  z4 := Tryz.sizeOf4
  v4 := Tryz.zeroValue4
  t9 := Tryz.underlying9
  a9 := Tryz.isAgg9
  z9 := Tryz.sizeOf9
  v9 := Tryz.zeroValue9
  t20 := Tryz.underlying20
  a20 := Tryz.isAgg20
  z20 := Tryz.sizeOf20
  v20 := Tryz.zeroValue20
  t31 := Tryz.underlying58
  a31 := Tryz.isAgg58
  z31 := Tryz.sizeOf58
  v31 := Tryz.zeroValue58
  t37 := Tryz.underlying93
  a37 := Tryz.isAgg93
  z37 := Tryz.sizeOf93
  v37 := Tryz.zeroValue93
  t70 := Tryz.underlying92
  a70 := Tryz.isAgg92
  z70 := Tryz.sizeOf92
  v70 := Tryz.zeroValue92
  t72 := Tryz.underlying95
  a72 := Tryz.isAgg95
  z72 := Tryz.sizeOf95
  v72 := Tryz.zeroValue95
  t75 := Tryz.underlying98
  a75 := Tryz.isAgg98
  z75 := Tryz.sizeOf98
  v75 := Tryz.zeroValue98
  t76 := Tryz.underlying99
  a76 := Tryz.isAgg99
  z76 := Tryz.sizeOf99
  v76 := Tryz.zeroValue99
  t127 := Tryz.underlying131
  a127 := Tryz.isAgg131
  z127 := Tryz.sizeOf131
  v127 := Tryz.zeroValue131
  t164 := Tryz.underlying162
  a164 := Tryz.isAgg162
  z164 := Tryz.sizeOf162
  v164 := Tryz.zeroValue162
theorem extra : Builder.Extra Tryz.prog lays156_ren where
  sizeBuilder := by kernel_rfl
  liesBuilder := by kernel_rfl
  t5 := Tryz.underlying5
  a5 := Tryz.isAgg5
  z5 := Tryz.sizeOf5
  v5 := Tryz.zeroValue5
  infoByte := by kernel_rfl
  cellsByte := by kernel_rfl
  sizeByte := by kernel_rfl
  neB5 := by decide
def lays145_ren : Ren where
  f := fun x => match x with | 145 => 22 | 220 => 43 | 219 => 71 | 217 => 100 | 225 => 101 | 224 => 102 | 267 => 103 | 266 => 130 | 314 => 131 | n => n
  t := fun x => match x with | 9 => 9 | 4 => 4 | 59 => 65 | 3 => 3 | 5 => 5 | 46 => 166 | 146 => 193 | 51 => 186 | n => n
  g := fun x => match x with | 1 => 0 | n => n
theorem lays145 : LaysM.n145 Tryz.prog lays145_ren where
  mixed := by kernel_rfl
  f145 := Eq.trans Tryz.func22 (by kernel_rfl)
  f217 := Eq.trans Tryz.func100 (by kernel_rfl)
  f219 := Eq.trans Tryz.func71 (by kernel_rfl)
  f220 := Eq.trans Tryz.func43 (by kernel_rfl)
  f224 := Eq.trans Tryz.func102 (by kernel_rfl)
  f225 := Eq.trans Tryz.func101 (by kernel_rfl)
  f266 := Eq.trans Tryz.func130 (by kernel_rfl)
  f267 := Eq.trans Tryz.func103 (by kernel_rfl)
  f314 := Eq.trans Tryz.func131 (by kernel_rfl)
  t3 := Tryz.underlying3
  a3 := Tryz.isAgg3
  z3 := Tryz.sizeOf3
  v3 := Tryz.zeroValue3
  t4 := Tryz.underlying4
  a4 := Tryz.isAgg4
  z4 := Tryz.sizeOf4
  v4 := Tryz.zeroValue4
  t5 := Tryz.underlying5
  a5 := Tryz.isAgg5
  z5 := Tryz.sizeOf5
  v5 := Tryz.zeroValue5
  t9 := Tryz.underlying9
  a9 := Tryz.isAgg9
  z9 := Tryz.sizeOf9
  v9 := Tryz.zeroValue9
  t46 := Tryz.underlying166
  a46 := Tryz.isAgg166
  z46 := Tryz.sizeOf166
  v46 := Tryz.zeroValue166
  t51 := Tryz.underlying186
  a51 := Tryz.isAgg186
  z51 := Tryz.sizeOf186
  v51 := Tryz.zeroValue186
  t59 := Tryz.underlying65
  a59 := Tryz.isAgg65
  z59 := Tryz.sizeOf65
  v59 := Tryz.zeroValue65
  t146 := Tryz.underlying193
  a146 := Tryz.isAgg193
  z146 := Tryz.sizeOf193
  v146 := Tryz.zeroValue193
  g1 := by kernel_rfl
  i3 := by kernel_rfl
  i4 := by kernel_rfl
  i5 := by kernel_rfl
  i9 := by kernel_rfl
  i46 := by kernel_rfl
  i51 := by kernel_rfl
  i59 := by kernel_rfl
  i146 := by kernel_rfl
  m1 := by kernel_rfl
  s1_3 := fun w h => cell_of_shapedOpen_int h (of_decide_eq_true (by kernel_rfl)) (show _ = some (#[Value.int IntKind.i64 0], 3) by kernel_rfl) rfl (by kernel_rfl) (by kernel_rfl) Tryz.underlying3
def lays146_ren : Ren where
  f := fun x => match x with | 146 => 23 | 221 => 44 | 268 => 72 | 138 => 73 | 143 => 70 | 195 => 104 | 197 => 69 | 218 => 105 | 219 => 71 | 260 => 99 | 217 => 100 | 225 => 101 | 224 => 102 | 267 => 103 | 266 => 130 | 314 => 131 | n => n
  t := fun x => match x with | 9 => 9 | 31 => 58 | 3 => 3 | 4 => 4 | 0 => 0 | 105 => 133 | 21 => 21 | 5 => 5 | 46 => 166 | 119 => 189 | 139 => 192 | 138 => 191 | 146 => 193 | 51 => 186 | n => n
  g := fun x => match x with | 1 => 0 | 3 => 2 | 4 => 3 | n => n
theorem lays146 : Lays.n146 Tryz.prog lays146_ren where
  mixed := by kernel_rfl
  f138 := Eq.trans Tryz.func73 (by kernel_rfl)
  f143 := Eq.trans Tryz.func70 (by kernel_rfl)
  f146 := Eq.trans Tryz.func23 (by kernel_rfl)
  f195 := Eq.trans Tryz.func104 (by kernel_rfl)
  f197 := Eq.trans Tryz.func69 (by kernel_rfl)
  f217 := Eq.trans Tryz.func100 (by kernel_rfl)
  f218 := Eq.trans Tryz.func105 (by kernel_rfl)
  f219 := Eq.trans Tryz.func71 (by kernel_rfl)
  f221 := Eq.trans Tryz.func44 (by kernel_rfl)
  f224 := Eq.trans Tryz.func102 (by kernel_rfl)
  f225 := Eq.trans Tryz.func101 (by kernel_rfl)
  f260 := Eq.trans Tryz.func99 (by kernel_rfl)
  f266 := Eq.trans Tryz.func130 (by kernel_rfl)
  f267 := Eq.trans Tryz.func103 (by kernel_rfl)
  f268 := Eq.trans Tryz.func72 (by kernel_rfl)
  f314 := Eq.trans Tryz.func131 (by kernel_rfl)
  t0 := Tryz.underlying0
  a0 := Tryz.isAgg0
  z0 := Tryz.sizeOf0
  v0 := Tryz.zeroValue0
  t3 := Tryz.underlying3
  a3 := Tryz.isAgg3
  z3 := Tryz.sizeOf3
  v3 := Tryz.zeroValue3
  t4 := Tryz.underlying4
  a4 := Tryz.isAgg4
  z4 := Tryz.sizeOf4
  v4 := Tryz.zeroValue4
  t5 := Tryz.underlying5
  a5 := Tryz.isAgg5
  z5 := Tryz.sizeOf5
  v5 := Tryz.zeroValue5
  t9 := Tryz.underlying9
  a9 := Tryz.isAgg9
  z9 := Tryz.sizeOf9
  v9 := Tryz.zeroValue9
  t21 := Tryz.underlying21
  a21 := Tryz.isAgg21
  z21 := Tryz.sizeOf21
  v21 := Tryz.zeroValue21
  t31 := Tryz.underlying58
  a31 := Tryz.isAgg58
  z31 := Tryz.sizeOf58
  v31 := Tryz.zeroValue58
  t46 := Tryz.underlying166
  a46 := Tryz.isAgg166
  z46 := Tryz.sizeOf166
  v46 := Tryz.zeroValue166
  t51 := Tryz.underlying186
  a51 := Tryz.isAgg186
  z51 := Tryz.sizeOf186
  v51 := Tryz.zeroValue186
  t105 := Tryz.underlying133
  a105 := Tryz.isAgg133
  z105 := Tryz.sizeOf133
  v105 := Tryz.zeroValue133
  t119 := Tryz.underlying189
  a119 := Tryz.isAgg189
  z119 := Tryz.sizeOf189
  t138 := Tryz.underlying191
  a138 := Tryz.isAgg191
  z138 := Tryz.sizeOf191
  v138 := Tryz.zeroValue191
  t139 := Tryz.underlying192
  a139 := Tryz.isAgg192
  z139 := Tryz.sizeOf192
  v139 := Tryz.zeroValue192
  t146 := Tryz.underlying193
  a146 := Tryz.isAgg193
  z146 := Tryz.sizeOf193
  v146 := Tryz.zeroValue193
  g1 := by kernel_rfl
  g3 := by kernel_rfl
  g4 := by kernel_rfl
def lays172_ren : Ren where
  f := fun x => match x with | 172 => 45 | 244 => 74 | 245 => 75 | 247 => 106 | 279 => 107 | 280 => 108 | 281 => 109 | 282 => 110 | 287 => 132 | 316 => 133 | 171 => 18 | 205 => 134 | 321 => 147 | 322 => 148 | 243 => 38 | 246 => 65 | 283 => 93 | 284 => 94 | 285 => 95 | 286 => 96 | 129 => 126 | 317 => 125 | 318 => 127 | 319 => 128 | 320 => 129 | 337 => 145 | 338 => 146 | n => n
  t := fun x => match x with | 9 => 9 | 3 => 3 | 75 => 98 | 76 => 99 | 4 => 4 | 5 => 5 | 167 => 168 | 37 => 93 | 0 => 0 | 85 => 169 | 2 => 2 | 168 => 171 | 53 => 157 | 175 => 195 | 46 => 166 | 210 => 199 | 127 => 131 | 145 => 212 | 143 => 210 | 21 => 21 | 171 => 156 | 173 => 160 | 212 => 185 | 51 => 186 | 20 => 20 | 213 => 187 | 232 => 215 | 233 => 216 | 80 => 101 | n => n
  g := fun x => match x with | 15 => 4 | 16 => 5 | 17 => 1 | 18 => 6 | 19 => 7 | n => n
theorem lays172 : LaysC.n172 Tryz.prog lays172_ren where
  mixed := by kernel_rfl
  f129 := Eq.trans Tryz.func126 (by kernel_rfl)
  f171 := Eq.trans Tryz.func18 (by kernel_rfl)
  f172 := Eq.trans Tryz.func45 (by kernel_rfl)
  f205 := Eq.trans Tryz.func134 (by kernel_rfl)
  f243 := Eq.trans Tryz.func38 (by kernel_rfl)
  f244 := Eq.trans Tryz.func74 (by kernel_rfl)
  f245 := Eq.trans Tryz.func75 (by kernel_rfl)
  f246 := Eq.trans Tryz.func65 (by kernel_rfl)
  f247 := Eq.trans Tryz.func106 (by kernel_rfl)
  f279 := Eq.trans Tryz.func107 (by kernel_rfl)
  f280 := Eq.trans Tryz.func108 (by kernel_rfl)
  f281 := Eq.trans Tryz.func109 (by kernel_rfl)
  f282 := Eq.trans Tryz.func110 (by kernel_rfl)
  f283 := Eq.trans Tryz.func93 (by kernel_rfl)
  f284 := Eq.trans Tryz.func94 (by kernel_rfl)
  f285 := Eq.trans Tryz.func95 (by kernel_rfl)
  f286 := Eq.trans Tryz.func96 (by kernel_rfl)
  f287 := Eq.trans Tryz.func132 (by kernel_rfl)
  f316 := Eq.trans Tryz.func133 (by kernel_rfl)
  f317 := Eq.trans Tryz.func125 (by kernel_rfl)
  f318 := Eq.trans Tryz.func127 (by kernel_rfl)
  f319 := Eq.trans Tryz.func128 (by kernel_rfl)
  f320 := Eq.trans Tryz.func129 (by kernel_rfl)
  f321 := Eq.trans Tryz.func147 (by kernel_rfl)
  f322 := Eq.trans Tryz.func148 (by kernel_rfl)
  f337 := Eq.trans Tryz.func145 (by kernel_rfl)
  f338 := Eq.trans Tryz.func146 (by kernel_rfl)
  t0 := Tryz.underlying0
  a0 := Tryz.isAgg0
  z0 := Tryz.sizeOf0
  v0 := Tryz.zeroValue0
  t2 := Tryz.underlying2
  a2 := Tryz.isAgg2
  z2 := Tryz.sizeOf2
  v2 := Tryz.zeroValue2
  t3 := Tryz.underlying3
  a3 := Tryz.isAgg3
  z3 := Tryz.sizeOf3
  v3 := Tryz.zeroValue3
  t4 := Tryz.underlying4
  a4 := Tryz.isAgg4
  z4 := Tryz.sizeOf4
  v4 := Tryz.zeroValue4
  t5 := Tryz.underlying5
  a5 := Tryz.isAgg5
  z5 := Tryz.sizeOf5
  v5 := Tryz.zeroValue5
  t9 := Tryz.underlying9
  a9 := Tryz.isAgg9
  z9 := Tryz.sizeOf9
  v9 := Tryz.zeroValue9
  t20 := Tryz.underlying20
  a20 := Tryz.isAgg20
  z20 := Tryz.sizeOf20
  v20 := Tryz.zeroValue20
  t21 := Tryz.underlying21
  a21 := Tryz.isAgg21
  z21 := Tryz.sizeOf21
  v21 := Tryz.zeroValue21
  t37 := Tryz.underlying93
  a37 := Tryz.isAgg93
  z37 := Tryz.sizeOf93
  v37 := Tryz.zeroValue93
  t46 := Tryz.underlying166
  a46 := Tryz.isAgg166
  z46 := Tryz.sizeOf166
  v46 := Tryz.zeroValue166
  t51 := Tryz.underlying186
  a51 := Tryz.isAgg186
  z51 := Tryz.sizeOf186
  v51 := Tryz.zeroValue186
  t53 := Tryz.underlying157
  a53 := Tryz.isAgg157
  z53 := Tryz.sizeOf157
  v53 := Tryz.zeroValue157
  t75 := Tryz.underlying98
  a75 := Tryz.isAgg98
  z75 := Tryz.sizeOf98
  v75 := Tryz.zeroValue98
  t76 := Tryz.underlying99
  a76 := Tryz.isAgg99
  z76 := Tryz.sizeOf99
  v76 := Tryz.zeroValue99
  t85 := Tryz.underlying169
  a85 := Tryz.isAgg169
  z85 := Tryz.sizeOf169
  v85 := Tryz.zeroValue169
  t127 := Tryz.underlying131
  a127 := Tryz.isAgg131
  z127 := Tryz.sizeOf131
  v127 := Tryz.zeroValue131
  t143 := Tryz.underlying210
  a143 := Tryz.isAgg210
  z143 := Tryz.sizeOf210
  v143 := Tryz.zeroValue210
  t145 := Tryz.underlying212
  a145 := Tryz.isAgg212
  z145 := Tryz.sizeOf212
  v145 := Tryz.zeroValue212
  t167 := Tryz.underlying168
  a167 := Tryz.isAgg168
  z167 := Tryz.sizeOf168
  v167 := Tryz.zeroValue168
  t168 := Tryz.underlying171
  a168 := Tryz.isAgg171
  z168 := Tryz.sizeOf171
  v168 := Tryz.zeroValue171
  t171 := Tryz.underlying156
  a171 := Tryz.isAgg156
  z171 := Tryz.sizeOf156
  v171 := Tryz.zeroValue156
  t173 := Tryz.underlying160
  a173 := Tryz.isAgg160
  z173 := Tryz.sizeOf160
  v173 := Tryz.zeroValue160
  t175 := Tryz.underlying195
  a175 := Tryz.isAgg195
  z175 := Tryz.sizeOf195
  v175 := Tryz.zeroValue195
  t210 := Tryz.underlying199
  a210 := Tryz.isAgg199
  z210 := Tryz.sizeOf199
  v210 := Tryz.zeroValue199
  t212 := Tryz.underlying185
  a212 := Tryz.isAgg185
  z212 := Tryz.sizeOf185
  v212 := Tryz.zeroValue185
  t213 := Tryz.underlying187
  a213 := Tryz.isAgg187
  z213 := Tryz.sizeOf187
  t232 := Tryz.underlying215
  a232 := Tryz.isAgg215
  z232 := Tryz.sizeOf215
  v232 := Tryz.zeroValue215
  t233 := Tryz.underlying216
  a233 := Tryz.isAgg216
  z233 := Tryz.sizeOf216
  v233 := Tryz.zeroValue216
  g15 := by kernel_rfl
  g16 := by kernel_rfl
  g17 := by kernel_rfl
  g18 := by kernel_rfl
  g19 := by kernel_rfl
  t80 := Tryz.underlying101
  a80 := Tryz.isAgg101
  z80 := Tryz.sizeOf101
  v80 := Tryz.zeroValue101
  i0 := by kernel_rfl
  i2 := by kernel_rfl
  i3 := by kernel_rfl
  i4 := by kernel_rfl
  i5 := by kernel_rfl
  i9 := by kernel_rfl
  i20 := by kernel_rfl
  i21 := by kernel_rfl
  i37 := by kernel_rfl
  i46 := by kernel_rfl
  i51 := by kernel_rfl
  i53 := by kernel_rfl
  i75 := by kernel_rfl
  i76 := by kernel_rfl
  i80 := by kernel_rfl
  i85 := by kernel_rfl
  i127 := by kernel_rfl
  i143 := by kernel_rfl
  i145 := by kernel_rfl
  i167 := by kernel_rfl
  i168 := by kernel_rfl
  i171 := by kernel_rfl
  i173 := by kernel_rfl
  i175 := by kernel_rfl
  i210 := by kernel_rfl
  i212 := by kernel_rfl
  i232 := by kernel_rfl
  i233 := by kernel_rfl
  m15 := by kernel_rfl
  m16 := by kernel_rfl
  m17 := by kernel_rfl
  m18 := by kernel_rfl
  m19 := by kernel_rfl
  c0 := by kernel_rfl
  c2 := by kernel_rfl
  c3 := by kernel_rfl
  c4 := by kernel_rfl
  c5 := by kernel_rfl
  c9 := by kernel_rfl
  c20 := by kernel_rfl
  c21 := by kernel_rfl
  c37 := by kernel_rfl
  c46 := by kernel_rfl
  c51 := by kernel_rfl
  c53 := by kernel_rfl
  c75 := by kernel_rfl
  c76 := by kernel_rfl
  c80 := by kernel_rfl
  c85 := by kernel_rfl
  c127 := by kernel_rfl
  c143 := by kernel_rfl
  c145 := by kernel_rfl
  c167 := by kernel_rfl
  c168 := by kernel_rfl
  c171 := by kernel_rfl
  c173 := by kernel_rfl
  c175 := by kernel_rfl
  c210 := by kernel_rfl
  c212 := by kernel_rfl
  c213 := by kernel_rfl
  c232 := by kernel_rfl
  c233 := by kernel_rfl
def lays143_ren : Ren where
  f := fun x => match x with | 143 => 70 | 219 => 71 | 217 => 100 | 225 => 101 | 224 => 102 | 267 => 103 | 266 => 130 | 314 => 131 | n => n
  t := fun x => match x with | 9 => 9 | 3 => 3 | 4 => 4 | 5 => 5 | 46 => 166 | 146 => 193 | 51 => 186 | n => n
  g := fun x => match x with | 1 => 0 | n => n
theorem lays143 : Lays.n143 Tryz.prog lays143_ren where
  mixed := by kernel_rfl
  f143 := Eq.trans Tryz.func70 (by kernel_rfl)
  f217 := Eq.trans Tryz.func100 (by kernel_rfl)
  f219 := Eq.trans Tryz.func71 (by kernel_rfl)
  f224 := Eq.trans Tryz.func102 (by kernel_rfl)
  f225 := Eq.trans Tryz.func101 (by kernel_rfl)
  f266 := Eq.trans Tryz.func130 (by kernel_rfl)
  f267 := Eq.trans Tryz.func103 (by kernel_rfl)
  f314 := Eq.trans Tryz.func131 (by kernel_rfl)
  t3 := Tryz.underlying3
  a3 := Tryz.isAgg3
  z3 := Tryz.sizeOf3
  v3 := Tryz.zeroValue3
  t4 := Tryz.underlying4
  a4 := Tryz.isAgg4
  z4 := Tryz.sizeOf4
  v4 := Tryz.zeroValue4
  t5 := Tryz.underlying5
  a5 := Tryz.isAgg5
  z5 := Tryz.sizeOf5
  v5 := Tryz.zeroValue5
  t9 := Tryz.underlying9
  a9 := Tryz.isAgg9
  z9 := Tryz.sizeOf9
  v9 := Tryz.zeroValue9
  t46 := Tryz.underlying166
  a46 := Tryz.isAgg166
  z46 := Tryz.sizeOf166
  v46 := Tryz.zeroValue166
  t51 := Tryz.underlying186
  a51 := Tryz.isAgg186
  z51 := Tryz.sizeOf186
  v51 := Tryz.zeroValue186
  t146 := Tryz.underlying193
  a146 := Tryz.isAgg193
  z146 := Tryz.sizeOf193
  v146 := Tryz.zeroValue193
  g1 := by kernel_rfl

abbrev KW : World → Prop := KShelf Tryz.prog (lays145_ren.g 1) (lays172_ren.g 15) (lays172_ren.g 16)
theorem has18 : HasBody Tryz.prog 18 := ⟨Tryz.f18, _, Tryz.func18, rfl, by kernel_rfl⟩
theorem has19 : HasBody Tryz.prog 19 := ⟨Tryz.f19, _, Tryz.func19, rfl, by kernel_rfl⟩
theorem has22 : HasBody Tryz.prog 22 := ⟨Tryz.f22, _, Tryz.func22, rfl, by kernel_rfl⟩
theorem has23 : HasBody Tryz.prog 23 := ⟨Tryz.f23, _, Tryz.func23, rfl, by kernel_rfl⟩
theorem has45 : HasBody Tryz.prog 45 := ⟨Tryz.f45, _, Tryz.func45, rfl, by kernel_rfl⟩
theorem has70 : HasBody Tryz.prog 70 := ⟨Tryz.f70, _, Tryz.func70, rfl, by kernel_rfl⟩

theorem tab_at {p : AFn → Nat → Bool} (h : (tab.zipIdx.all fun q => match q.1 with | some a => p a q.2 | none => true) = true) {f : FuncId} {a : AFn} (e : AP f = some a) : p a f = true := by
  unfold AP at e
  have e2 : tab[f]? = some (some a) := by
    cases h2 : tab[f]? with
    | none => rw [h2] at e; cases e
    | some x => rw [h2] at e; cases x with
      | none => cases e
      | some y => injection e with e; rw [e]
  have := List.all_eq_true.1 h (some a, f) (List.mem_zipIdx_iff_getElem?.2 e2)
  exact this
def primB (a : AFn) (i : Nat) : Bool := match a with | .prim _ => [18, 19, 22, 23, 45, 70].contains i | _ => true
def natB (a : AFn) (i : Nat) : Bool := match a with | .nat _ => [].contains i | _ => true
theorem prims : (tab.zipIdx.all fun q => match q.1 with | some a => primB a q.2 | none => true) = true := by kernel_rfl
theorem nats : (tab.zipIdx.all fun q => match q.1 with | some a => natB a q.2 | none => true) = true := by kernel_rfl

theorem prim_ok (f : FuncId) (F : List AV → Option AV) (h : AP f = some (.prim F)) : HasBody Tryz.prog f ∧ PrimOk Tryz.prog KW f F := by
  have hb : [18, 19, 22, 23, 45, 70].contains f = true := tab_at prims h
  simp only [List.contains_cons, List.contains_nil, Bool.or_false, Bool.or_eq_true, beq_iff_eq] at hb
  rcases hb with rfl | rfl | rfl | rfl | rfl | rfl
  · have e : pItoaA = .prim F := Option.some.inj h
    unfold pItoaA at e; cases e; exact ⟨has18, pItoaA_ok lays171 (fun _ h => h.tab)⟩
  · have e : pJoin = .prim F := Option.some.inj h
    unfold pJoin at e; cases e; exact ⟨has19, pJoin_ok lays156 extra⟩
  · have e : pCut = .prim F := Option.some.inj h
    unfold pCut at e; cases e; exact ⟨has22, pCut_ok { lays145 with } (fun _ h => h.len)⟩
  · have e : pSplit = .prim F := Option.some.inj h
    unfold pSplit at e; cases e; exact ⟨has23, pSplit_ok lays146 (by kernel_rfl) (fun _ h => h.len)⟩
  · have e : pAtoi = .prim F := Option.some.inj h
    unfold pAtoi at e; cases e; exact ⟨has45, pAtoi_ok lays172 (fun _ h => h.e1) (fun _ h => h.e2)⟩
  · have e : pIndex = .prim F := Option.some.inj h
    unfold pIndex at e; cases e; exact ⟨has70, pIndex_ok lays143 (fun _ h => h.len)⟩

theorem nat_ok (f : FuncId) (F : List AV → Option AV) (h : AP f = some (.nat F)) : NatOk Tryz.prog f F := by
  have hb := tab_at nats h
  cases hb

theorem prog_ok : ProgOk Tryz.prog AP KW := ⟨by kernel_rfl, code_ok, prim_ok, nat_ok⟩
end Go.Proofs.YtdefcodhamifjaaGreatDoor.AxOk
