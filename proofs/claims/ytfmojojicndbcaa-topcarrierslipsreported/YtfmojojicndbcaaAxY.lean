/-
  From the executor's answer to the call of the model.
-/
import Derived.Test.YtfmojojicndbcaaAxX
namespace Go.Ax
open Go.RowKit

/-- Nothing is of the call's own yet: every cell is only read. -/
def startG (w : World) : Ghost := { I := fun b i => w.cell? ⟨b, i, none⟩, acts := [], loops := [], own := fun _ => none }
def startS : Sig := ⟨[], [], 0, 0⟩

theorem start_rel (P : Program) (w : World) : SRel P w.heap.size w (startG w) startS w :=
  ⟨fun _ _ _ e => e, rfl, rfl, fun d r gr e => by simp [startS] at e, fun l lp r e => by simp [startS] at e, fun d gr e => by simp [startG] at e, fun d d' gr gr' _ e => by simp [startG] at e, Below.refl _ _, Nat.le_refl _, fun b o e => by cases e⟩

/-- What is read in a world. -/
abbrev Reads (w : World) : AV → Value → Prop := RelC fun b i => w.cell? ⟨b, i, none⟩

theorem run_sound {P : Program} {AP : FuncId → Option AFn} (hp : ProgOk P AP) {n : Nat} {f : FuncId} {args : List AV} {xs : Array Value} {w : World} {b : Bool} {s' : Sig} (hl : xs.size = args.length) (hR : ∀ i (hi : i < args.length), Reads w args[i] (xs.getD i Go.undef))
    (hc : callN AP n (.fn f) args startS = some (.v (.bool b), s')) : Calls P f xs w fun e w' => e = .returned (.bool b) ∧ Below w.heap.size w w' := by
  have := ((callN_sound (P := P) (B0 := w.heap.size) (w0 := w) hp n).1.fn (startG w) 0 0 startS w f args xs _ s' (start_rel P w) (Nat.zero_le _) (Nat.le_refl _) (Nat.le_refl _) hl (fun i hi => .cl (hR i hi)) hc).2
  refine Calls.mono this fun e w' he => ?_
  obtain ⟨z, rfl, G', h1, _, _, _, h5⟩ := he
  rw [h5.inv_v]
  exact ⟨rfl, h1.below⟩

end Go.Ax
