/-
  DERIVED. GIVEN WITH THE SEED: THE CARDS: each row of YtdnpjnhpcmpikaaGreatDoorRows.lean that lists a variable, with what it lists TIED to the program's text (the seventh form; the later family's looks); each row that meets fmt, with fmt's text TOLD by the authors' own Lean function (tested against real Go, not proved from fmt's source: count such statements apart). THE CARD IS WHAT COUNTS. Prove the row's statement (the work); the ties are given (YtdnpjnhpcmpikaaGreatDoorTie.lean); close each card by the builder's one call (the guide's Derived/Test/ToyasCard.lean, 'card_holds'). Laid BY PROGRAM, IN A SANDBOX (cutbox-door.mjs). By AI agents, Wed Nov 11 2026. No macro, syntax, notation, axiom, sorry.
-/
import Derived.Test.YtdnpjnhpcmpikaaGreatDoorRows
import GoSem.ClaimSeven
namespace Go.Proofs.YtdnpjnhpcmpikaaGreatDoor
namespace Rows

/-- THE TIED CARD OF 'cassegrainlaw09.ScheduleBounded'. -/
def scheduleBoundedCard : Claim7 := { stood := { row := scheduleBoundedRow, standIns := [], harness := (true, "847c4411ae488b670c0026b8a45344c9d28f9b79de7b635d1c441a6bffa4e2fc"), looks := false }, kinds := [], alts := [], laidByText := true, laidKinds := [.data, .data, .data], laidTests := true, laidLooks := .later }
def ScheduleBoundedCardSaid : Prop := Claim7.holds Tryz.pinned (.plain (OpenSpec.ofChange scheduleBoundedSpec)) scheduleBoundedCard

/-- THE SECOND FORM's CARD OF 'cassegrainlaw09.ScheduleBounded'. -/
def scheduleBoundedUptoCard : Claim7 := { stood := { row := scheduleBoundedUptoRow, standIns := [], harness := (true, "847c4411ae488b670c0026b8a45344c9d28f9b79de7b635d1c441a6bffa4e2fc"), looks := false }, kinds := [], alts := [], laidByText := true, laidKinds := [.data, .data, .data], laidTests := true, laidLooks := .later }
def ScheduleBoundedUptoCardSaid : Prop := Claim7.holds Tryz.pinned (.plain (OpenSpec.upto scheduleBoundedSpec)) scheduleBoundedUptoCard
end Rows
end Go.Proofs.YtdnpjnhpcmpikaaGreatDoor
