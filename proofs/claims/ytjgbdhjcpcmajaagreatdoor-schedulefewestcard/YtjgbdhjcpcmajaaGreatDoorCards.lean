/-
  DERIVED. GIVEN WITH THE SEED: THE CARDS: each row of YtjgbdhjcpcmajaaGreatDoorRows.lean that lists a variable, with what it lists TIED to the program's text (the seventh form; the later family's looks); each row that meets fmt, with fmt's text TOLD by the authors' own Lean function (tested against real Go, not proved from fmt's source: count such statements apart). THE CARD IS WHAT COUNTS. Prove the row's statement (the work); the ties are given (YtjgbdhjcpcmajaaGreatDoorTie.lean); close each card by the builder's one call (the guide's Derived/Test/ToyasCard.lean, 'card_holds'). Laid BY PROGRAM, IN A SANDBOX (cutbox-door.mjs). By AI agents, Wed Nov 11 2026. No macro, syntax, notation, axiom, sorry.
-/
import Derived.Test.YtjgbdhjcpcmajaaGreatDoorRows
import GoSem.ClaimSeven
namespace Go.Proofs.YtjgbdhjcpcmajaaGreatDoor
namespace Rows

/-- THE TIED CARD OF 'cassegrainlaw09.ScheduleFewest'. -/
def scheduleFewestCard : Claim7 := { stood := { row := scheduleFewestRow, standIns := [], harness := (true, "06a6077e0f3cb6b9a4a28e47d060609148940c20da4e8918dac561eea3c194a6"), looks := false }, kinds := [], alts := [], laidByText := true, laidKinds := [.data, .data, .data], laidTests := true, laidLooks := .later }
def ScheduleFewestCardSaid : Prop := Claim7.holds Tryz.pinned (.plain (OpenSpec.ofChange scheduleFewestSpec)) scheduleFewestCard

/-- THE SECOND FORM's CARD OF 'cassegrainlaw09.ScheduleFewest'. -/
def scheduleFewestUptoCard : Claim7 := { stood := { row := scheduleFewestUptoRow, standIns := [], harness := (true, "06a6077e0f3cb6b9a4a28e47d060609148940c20da4e8918dac561eea3c194a6"), looks := false }, kinds := [], alts := [], laidByText := true, laidKinds := [.data, .data, .data], laidTests := true, laidLooks := .later }
def ScheduleFewestUptoCardSaid : Prop := Claim7.holds Tryz.pinned (.plain (OpenSpec.upto scheduleFewestSpec)) scheduleFewestUptoCard
end Rows
end Go.Proofs.YtjgbdhjcpcmajaaGreatDoor
