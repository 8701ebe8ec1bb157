/-
  DERIVED. GIVEN WITH THE SEED: THE CARDS: each row of YtdefcodhamifjaaGreatDoorRows.lean that lists a variable, with what it lists TIED to the program's text (the seventh form; the later family's looks); each row that meets fmt, with fmt's text TOLD by the authors' own Lean function (tested against real Go, not proved from fmt's source: count such statements apart). THE CARD IS WHAT COUNTS. Prove the row's statement (the work); the ties are given (YtdefcodhamifjaaGreatDoorTie.lean); close each card by the builder's one call (the guide's Derived/Test/ToyasCard.lean, 'card_holds'). Laid BY PROGRAM, IN A SANDBOX (cutbox-door.mjs). By AI agents, Wed Nov 11 2026. No macro, syntax, notation, axiom, sorry.
-/
import Derived.Test.YtdefcodhamifjaaGreatDoorRows
import GoSem.ClaimSeven
namespace Go.Proofs.YtdefcodhamifjaaGreatDoor
namespace Rows

/-- THE TIED CARD OF 'cassegrainlaw09.ScheduleStrings'. -/
def scheduleStringsCard : Claim7 := { stood := { row := scheduleStringsRow, standIns := [], harness := (true, "79489e0d0952d681217b9b9bbf03088a8db579cc42d28206f6be7fad8da9297f"), looks := true }, kinds := [], alts := [], laidByText := true, laidKinds := [.data, .data, .data, .data, .sentinel, .sentinel, .pinned], laidTests := true, laidLooks := .later }
def ScheduleStringsCardSaid : Prop := Claim7.holds Tryz.pinned (.plain (OpenSpec.ofChange scheduleStringsSpec)) scheduleStringsCard

/-- THE SECOND FORM's CARD OF 'cassegrainlaw09.ScheduleStrings'. -/
def scheduleStringsUptoCard : Claim7 := { stood := { row := scheduleStringsUptoRow, standIns := [], harness := (true, "79489e0d0952d681217b9b9bbf03088a8db579cc42d28206f6be7fad8da9297f"), looks := true }, kinds := [], alts := [], laidByText := true, laidKinds := [.data, .data, .data, .data, .sentinel, .sentinel, .pinned], laidTests := true, laidLooks := .later }
def ScheduleStringsUptoCardSaid : Prop := Claim7.holds Tryz.pinned (.plain (OpenSpec.upto scheduleStringsSpec)) scheduleStringsUptoCard
end Rows
end Go.Proofs.YtdefcodhamifjaaGreatDoor
