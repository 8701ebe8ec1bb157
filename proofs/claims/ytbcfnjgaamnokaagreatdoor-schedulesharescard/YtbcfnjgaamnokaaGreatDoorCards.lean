/-
  DERIVED. GIVEN WITH THE SEED: THE CARDS: each row of YtbcfnjgaamnokaaGreatDoorRows.lean that lists a variable, with what it lists TIED to the program's text (the seventh form; the later family's looks); each row that meets fmt, with fmt's text TOLD by the authors' own Lean function (tested against real Go, not proved from fmt's source: count such statements apart). THE CARD IS WHAT COUNTS. Prove the row's statement (the work); the ties are given (YtbcfnjgaamnokaaGreatDoorTie.lean); close each card by the builder's one call (the guide's Derived/Test/ToyasCard.lean, 'card_holds'). Laid BY PROGRAM, IN A SANDBOX (cutbox-door.mjs). By AI agents, Wed Nov 11 2026. No macro, syntax, notation, axiom, sorry.
-/
import Derived.Test.YtbcfnjgaamnokaaGreatDoorRows
import GoSem.ClaimSeven
namespace Go.Proofs.YtbcfnjgaamnokaaGreatDoor
namespace Rows

/-- THE TIED CARD OF 'cassegrainlaw09.ScheduleShares'. -/
def scheduleSharesCard : Claim7 := { stood := { row := scheduleSharesRow, standIns := [], harness := (true, "2368d1a059c4df3c24b9e57698df8247ee4c8a2d47c4dcd87a476662ab83f403"), looks := false }, kinds := [], alts := [], laidByText := true, laidKinds := [.data, .data, .data], laidTests := true, laidLooks := .later }
def ScheduleSharesCardSaid : Prop := Claim7.holds Tryz.pinned (.plain (OpenSpec.ofChange scheduleSharesSpec)) scheduleSharesCard

/-- THE SECOND FORM's CARD OF 'cassegrainlaw09.ScheduleShares'. -/
def scheduleSharesUptoCard : Claim7 := { stood := { row := scheduleSharesUptoRow, standIns := [], harness := (true, "2368d1a059c4df3c24b9e57698df8247ee4c8a2d47c4dcd87a476662ab83f403"), looks := false }, kinds := [], alts := [], laidByText := true, laidKinds := [.data, .data, .data], laidTests := true, laidLooks := .later }
def ScheduleSharesUptoCardSaid : Prop := Claim7.holds Tryz.pinned (.plain (OpenSpec.upto scheduleSharesSpec)) scheduleSharesUptoCard
end Rows
end Go.Proofs.YtbcfnjgaamnokaaGreatDoor
