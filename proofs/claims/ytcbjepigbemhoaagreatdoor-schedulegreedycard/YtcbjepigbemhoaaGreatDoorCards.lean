/-
  DERIVED. GIVEN WITH THE SEED: THE CARDS: each row of YtcbjepigbemhoaaGreatDoorRows.lean that lists a variable, with what it lists TIED to the program's text (the seventh form; the later family's looks); each row that meets fmt, with fmt's text TOLD by the authors' own Lean function (tested against real Go, not proved from fmt's source: count such statements apart). THE CARD IS WHAT COUNTS. Prove the row's statement (the work); the ties are given (YtcbjepigbemhoaaGreatDoorTie.lean); close each card by the builder's one call (the guide's Derived/Test/ToyasCard.lean, 'card_holds'). Laid BY PROGRAM, IN A SANDBOX (cutbox-door.mjs). By AI agents, Wed Nov 11 2026. No macro, syntax, notation, axiom, sorry.
-/
import Derived.Test.YtcbjepigbemhoaaGreatDoorRows
import GoSem.ClaimSeven
namespace Go.Proofs.YtcbjepigbemhoaaGreatDoor
namespace Rows

/-- THE TIED CARD OF 'cassegrainlaw09.ScheduleGreedy'. -/
def scheduleGreedyCard : Claim7 := { stood := { row := scheduleGreedyRow, standIns := [], harness := (true, "9c764012fe651560bf5d2dc92f8d1cb731985a153f2513c092d94879f1161930"), looks := false }, kinds := [], alts := [], laidByText := true, laidKinds := [.data, .data, .data], laidTests := true, laidLooks := .later }
def ScheduleGreedyCardSaid : Prop := Claim7.holds Tryz.pinned (.plain (OpenSpec.ofChange scheduleGreedySpec)) scheduleGreedyCard

/-- THE SECOND FORM's CARD OF 'cassegrainlaw09.ScheduleGreedy'. -/
def scheduleGreedyUptoCard : Claim7 := { stood := { row := scheduleGreedyUptoRow, standIns := [], harness := (true, "9c764012fe651560bf5d2dc92f8d1cb731985a153f2513c092d94879f1161930"), looks := false }, kinds := [], alts := [], laidByText := true, laidKinds := [.data, .data, .data], laidTests := true, laidLooks := .later }
def ScheduleGreedyUptoCardSaid : Prop := Claim7.holds Tryz.pinned (.plain (OpenSpec.upto scheduleGreedySpec)) scheduleGreedyUptoCard
end Rows
end Go.Proofs.YtcbjepigbemhoaaGreatDoor
