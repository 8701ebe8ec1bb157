/-
  DERIVED. GIVEN WITH THE SEED: THE CARDS: each row of YthbdbiapgipikaaGreatDoorRows.lean that lists a variable, with what it lists TIED to the program's text (the seventh form; the later family's looks); each row that meets fmt, with fmt's text TOLD by the authors' own Lean function (tested against real Go, not proved from fmt's source: count such statements apart). THE CARD IS WHAT COUNTS. Prove the row's statement (the work); the ties are given (YthbdbiapgipikaaGreatDoorTie.lean); close each card by the builder's one call (the guide's Derived/Test/ToyasCard.lean, 'card_holds'). Laid BY PROGRAM, IN A SANDBOX (cutbox-door.mjs). By AI agents, Wed Nov 11 2026. No macro, syntax, notation, axiom, sorry.
-/
import Derived.Test.YthbdbiapgipikaaGreatDoorRows
import GoSem.ClaimSeven
namespace Go.Proofs.YthbdbiapgipikaaGreatDoor
namespace Rows

/-- THE TIED CARD OF 'cassegrainlaw09.ScheduleBounds'. -/
def scheduleBoundsCard : Claim7 := { stood := { row := scheduleBoundsRow, standIns := [], harness := (true, "f403abae9990be6d509acf6f7d95e2f3a6ab5240b026ac0d9f5982e6f881ed9e"), looks := false }, kinds := [], alts := [], laidByText := true, laidKinds := [.data, .data, .data], laidTests := true, laidLooks := .later }
def ScheduleBoundsCardSaid : Prop := Claim7.holds Tryz.pinned (.plain (OpenSpec.ofChange scheduleBoundsSpec)) scheduleBoundsCard

/-- THE SECOND FORM's CARD OF 'cassegrainlaw09.ScheduleBounds'. -/
def scheduleBoundsUptoCard : Claim7 := { stood := { row := scheduleBoundsUptoRow, standIns := [], harness := (true, "f403abae9990be6d509acf6f7d95e2f3a6ab5240b026ac0d9f5982e6f881ed9e"), looks := false }, kinds := [], alts := [], laidByText := true, laidKinds := [.data, .data, .data], laidTests := true, laidLooks := .later }
def ScheduleBoundsUptoCardSaid : Prop := Claim7.holds Tryz.pinned (.plain (OpenSpec.upto scheduleBoundsSpec)) scheduleBoundsUptoCard
end Rows
end Go.Proofs.YthbdbiapgipikaaGreatDoor
