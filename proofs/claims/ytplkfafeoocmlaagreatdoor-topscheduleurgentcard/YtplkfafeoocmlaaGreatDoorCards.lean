/-
  DERIVED. GIVEN WITH THE SEED: THE CARDS: each row of YtplkfafeoocmlaaGreatDoorRows.lean that lists a variable, with what it lists TIED to the program's text (the seventh form; the later family's looks); each row that meets fmt, with fmt's text TOLD by the authors' own Lean function (tested against real Go, not proved from fmt's source: count such statements apart). THE CARD IS WHAT COUNTS. Prove the row's statement (the work); the ties are given (YtplkfafeoocmlaaGreatDoorTie.lean); close each card by the builder's one call (the guide's Derived/Test/ToyasCard.lean, 'card_holds'). Laid BY PROGRAM, IN A SANDBOX (cutbox-door.mjs). By AI agents, Wed Nov 11 2026. No macro, syntax, notation, axiom, sorry.
-/
import Derived.Test.YtplkfafeoocmlaaGreatDoorRows
import GoSem.ClaimSeven
namespace Go.Proofs.YtplkfafeoocmlaaGreatDoor
namespace Rows

/-- THE TIED CARD OF 'cassegraintop.TopScheduleUrgent'. -/
def topScheduleUrgentCard : Claim7 := { stood := { row := topScheduleUrgentRow, standIns := [], harness := (true, "b3f6317784a0491c7a4d5864b1bf168c78b380435f1e10115426e7a2cadd760f"), looks := false }, kinds := [], alts := [], laidByText := true, laidKinds := [.data, .data, .data], laidTests := true, laidLooks := .later }
def TopScheduleUrgentCardSaid : Prop := Claim7.holds Tryz.pinned (.plain (OpenSpec.ofChange topScheduleUrgentSpec)) topScheduleUrgentCard

/-- THE SECOND FORM's CARD OF 'cassegraintop.TopScheduleUrgent'. -/
def topScheduleUrgentUptoCard : Claim7 := { stood := { row := topScheduleUrgentUptoRow, standIns := [], harness := (true, "b3f6317784a0491c7a4d5864b1bf168c78b380435f1e10115426e7a2cadd760f"), looks := false }, kinds := [], alts := [], laidByText := true, laidKinds := [.data, .data, .data], laidTests := true, laidLooks := .later }
def TopScheduleUrgentUptoCardSaid : Prop := Claim7.holds Tryz.pinned (.plain (OpenSpec.upto topScheduleUrgentSpec)) topScheduleUrgentUptoCard
end Rows
end Go.Proofs.YtplkfafeoocmlaaGreatDoor
