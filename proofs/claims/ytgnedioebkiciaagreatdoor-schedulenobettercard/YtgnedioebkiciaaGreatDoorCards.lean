/-
  DERIVED. GIVEN WITH THE SEED: THE CARDS: each row of YtgnedioebkiciaaGreatDoorRows.lean that lists a variable, with what it lists TIED to the program's text (the seventh form; the later family's looks); each row that meets fmt, with fmt's text TOLD by the authors' own Lean function (tested against real Go, not proved from fmt's source: count such statements apart). THE CARD IS WHAT COUNTS. Prove the row's statement (the work); the ties are given (YtgnedioebkiciaaGreatDoorTie.lean); close each card by the builder's one call (the guide's Derived/Test/ToyasCard.lean, 'card_holds'). Laid BY PROGRAM, IN A SANDBOX (cutbox-door.mjs). By AI agents, Wed Nov 11 2026. No macro, syntax, notation, axiom, sorry.
-/
import Derived.Test.YtgnedioebkiciaaGreatDoorRows
import GoSem.ClaimSeven
namespace Go.Proofs.YtgnedioebkiciaaGreatDoor
namespace Rows

/-- THE TIED CARD OF 'cassegrainlaw09.ScheduleNoBetter'. -/
def scheduleNoBetterCard : Claim7 := { stood := { row := scheduleNoBetterRow, standIns := [], harness := (true, "91cd6966e6842d2f80130a856b1430400af5c1bc29abbb1ec491fbca379b453e"), looks := false }, kinds := [], alts := [], laidByText := true, laidKinds := [.data, .data, .data], laidTests := true, laidLooks := .later }
def ScheduleNoBetterCardSaid : Prop := Claim7.holds Tryz.pinned (.plain (OpenSpec.ofChange scheduleNoBetterSpec)) scheduleNoBetterCard

/-- THE SECOND FORM's CARD OF 'cassegrainlaw09.ScheduleNoBetter'. -/
def scheduleNoBetterUptoCard : Claim7 := { stood := { row := scheduleNoBetterUptoRow, standIns := [], harness := (true, "91cd6966e6842d2f80130a856b1430400af5c1bc29abbb1ec491fbca379b453e"), looks := false }, kinds := [], alts := [], laidByText := true, laidKinds := [.data, .data, .data], laidTests := true, laidLooks := .later }
def ScheduleNoBetterUptoCardSaid : Prop := Claim7.holds Tryz.pinned (.plain (OpenSpec.upto scheduleNoBetterSpec)) scheduleNoBetterUptoCard
end Rows
end Go.Proofs.YtgnedioebkiciaaGreatDoor
