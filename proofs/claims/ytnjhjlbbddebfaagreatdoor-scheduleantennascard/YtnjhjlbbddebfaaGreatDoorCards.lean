/-
  DERIVED. GIVEN WITH THE SEED: THE CARDS: each row of YtnjhjlbbddebfaaGreatDoorRows.lean that lists a variable, with what it lists TIED to the program's text (the seventh form; the later family's looks); each row that meets fmt, with fmt's text TOLD by the authors' own Lean function (tested against real Go, not proved from fmt's source: count such statements apart). THE CARD IS WHAT COUNTS. Prove the row's statement (the work); the ties are given (YtnjhjlbbddebfaaGreatDoorTie.lean); close each card by the builder's one call (the guide's Derived/Test/ToyasCard.lean, 'card_holds'). Laid BY PROGRAM, IN A SANDBOX (cutbox-door.mjs). By AI agents, Wed Nov 11 2026. No macro, syntax, notation, axiom, sorry.
-/
import Derived.Test.YtnjhjlbbddebfaaGreatDoorRows
import GoSem.ClaimSeven
namespace Go.Proofs.YtnjhjlbbddebfaaGreatDoor
namespace Rows

/-- THE TIED CARD OF 'cassegrainlaw09.ScheduleAntennas'. -/
def scheduleAntennasCard : Claim7 := { stood := { row := scheduleAntennasRow, standIns := [], harness := (true, "8be44550b2e56ee33559f92c22360a7a8c2887e0a504c9688d185416c273111c"), looks := false }, kinds := [], alts := [], laidByText := true, laidKinds := [.data, .data, .data], laidTests := true, laidLooks := .later }
def ScheduleAntennasCardSaid : Prop := Claim7.holds Tryz.pinned (.plain (OpenSpec.ofChange scheduleAntennasSpec)) scheduleAntennasCard

/-- THE SECOND FORM's CARD OF 'cassegrainlaw09.ScheduleAntennas'. -/
def scheduleAntennasUptoCard : Claim7 := { stood := { row := scheduleAntennasUptoRow, standIns := [], harness := (true, "8be44550b2e56ee33559f92c22360a7a8c2887e0a504c9688d185416c273111c"), looks := false }, kinds := [], alts := [], laidByText := true, laidKinds := [.data, .data, .data], laidTests := true, laidLooks := .later }
def ScheduleAntennasUptoCardSaid : Prop := Claim7.holds Tryz.pinned (.plain (OpenSpec.upto scheduleAntennasSpec)) scheduleAntennasUptoCard
end Rows
end Go.Proofs.YtnjhjlbbddebfaaGreatDoor
