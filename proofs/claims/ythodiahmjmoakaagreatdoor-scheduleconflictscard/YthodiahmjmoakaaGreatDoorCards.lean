/-
  DERIVED. GIVEN WITH THE SEED: THE CARDS: each row of YthodiahmjmoakaaGreatDoorRows.lean that lists a variable, with what it lists TIED to the program's text (the seventh form; the later family's looks); each row that meets fmt, with fmt's text TOLD by the authors' own Lean function (tested against real Go, not proved from fmt's source: count such statements apart). THE CARD IS WHAT COUNTS. Prove the row's statement (the work); the ties are given (YthodiahmjmoakaaGreatDoorTie.lean); close each card by the builder's one call (the guide's Derived/Test/ToyasCard.lean, 'card_holds'). Laid BY PROGRAM, IN A SANDBOX (cutbox-door.mjs). By AI agents, Wed Nov 11 2026. No macro, syntax, notation, axiom, sorry.
-/
import Derived.Test.YthodiahmjmoakaaGreatDoorRows
import GoSem.ClaimSeven
namespace Go.Proofs.YthodiahmjmoakaaGreatDoor
namespace Rows

/-- THE TIED CARD OF 'cassegrainlaw09.ScheduleConflicts'. -/
def scheduleConflictsCard : Claim7 := { stood := { row := scheduleConflictsRow, standIns := [], harness := (true, "91da825731353636c48b9b48c22ba1178a16a957b322285dc314b38dd6337c14"), looks := false }, kinds := [], alts := [], laidByText := true, laidKinds := [.data, .data, .data], laidTests := true, laidLooks := .later }
def ScheduleConflictsCardSaid : Prop := Claim7.holds Tryz.pinned (.plain (OpenSpec.ofChange scheduleConflictsSpec)) scheduleConflictsCard

/-- THE SECOND FORM's CARD OF 'cassegrainlaw09.ScheduleConflicts'. -/
def scheduleConflictsUptoCard : Claim7 := { stood := { row := scheduleConflictsUptoRow, standIns := [], harness := (true, "91da825731353636c48b9b48c22ba1178a16a957b322285dc314b38dd6337c14"), looks := false }, kinds := [], alts := [], laidByText := true, laidKinds := [.data, .data, .data], laidTests := true, laidLooks := .later }
def ScheduleConflictsUptoCardSaid : Prop := Claim7.holds Tryz.pinned (.plain (OpenSpec.upto scheduleConflictsSpec)) scheduleConflictsUptoCard
end Rows
end Go.Proofs.YthodiahmjmoakaaGreatDoor
