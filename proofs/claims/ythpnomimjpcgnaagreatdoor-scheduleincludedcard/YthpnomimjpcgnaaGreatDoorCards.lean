/-
  DERIVED. GIVEN WITH THE SEED: THE CARDS: each row of YthpnomimjpcgnaaGreatDoorRows.lean that lists a variable, with what it lists TIED to the program's text (the seventh form; the later family's looks); each row that meets fmt, with fmt's text TOLD by the authors' own Lean function (tested against real Go, not proved from fmt's source: count such statements apart). THE CARD IS WHAT COUNTS. Prove the row's statement (the work); the ties are given (YthpnomimjpcgnaaGreatDoorTie.lean); close each card by the builder's one call (the guide's Derived/Test/ToyasCard.lean, 'card_holds'). Laid BY PROGRAM, IN A SANDBOX (cutbox-door.mjs). By AI agents, Wed Nov 11 2026. No macro, syntax, notation, axiom, sorry.
-/
import Derived.Test.YthpnomimjpcgnaaGreatDoorRows
import GoSem.ClaimSeven
namespace Go.Proofs.YthpnomimjpcgnaaGreatDoor
namespace Rows

/-- THE TIED CARD OF 'cassegrainlaw09.ScheduleIncluded'. -/
def scheduleIncludedCard : Claim7 := { stood := { row := scheduleIncludedRow, standIns := [], harness := (true, "7067d848ab4ba80369b14419df0412b847a47b91bf7ae11fef0d171b6202093c"), looks := false }, kinds := [], alts := [], laidByText := true, laidKinds := [.data, .data, .data], laidTests := true, laidLooks := .later }
def ScheduleIncludedCardSaid : Prop := Claim7.holds Tryz.pinned (.plain (OpenSpec.ofChange scheduleIncludedSpec)) scheduleIncludedCard

/-- THE SECOND FORM's CARD OF 'cassegrainlaw09.ScheduleIncluded'. -/
def scheduleIncludedUptoCard : Claim7 := { stood := { row := scheduleIncludedUptoRow, standIns := [], harness := (true, "7067d848ab4ba80369b14419df0412b847a47b91bf7ae11fef0d171b6202093c"), looks := false }, kinds := [], alts := [], laidByText := true, laidKinds := [.data, .data, .data], laidTests := true, laidLooks := .later }
def ScheduleIncludedUptoCardSaid : Prop := Claim7.holds Tryz.pinned (.plain (OpenSpec.upto scheduleIncludedSpec)) scheduleIncludedUptoCard
end Rows
end Go.Proofs.YthpnomimjpcgnaaGreatDoor
