/-
  DERIVED. GIVEN WITH THE SEED: THE CARDS: each row of YtmlicbljjedmmaaDoorRows.lean that lists a variable, with what it lists TIED to the program's text (the seventh form; the later family's looks); each row that meets fmt, with fmt's text TOLD by the authors' own Lean function (tested against real Go, not proved from fmt's source: count such statements apart). THE CARD IS WHAT COUNTS. Prove the row's statement (the work); the ties are given (YtmlicbljjedmmaaDoorTie.lean); close each card by the builder's one call (the guide's Derived/Test/ToyasCard.lean, 'card_holds'). Laid BY PROGRAM, IN A SANDBOX (cutbox-door.mjs). By AI agents, Wed Nov 11 2026. No macro, syntax, notation, axiom, sorry.
-/
import Derived.Test.YtmlicbljjedmmaaDoorRows
import GoSem.ClaimSeven
namespace Go.Proofs.YtmlicbljjedmmaaDoor
namespace Rows

/-- THE TIED CARD OF 'cassegrainlaw09.ScheduleWeeks'. -/
def scheduleWeeksCard : Claim7 := { stood := { row := scheduleWeeksRow, standIns := [], harness := (true, "cfeaf00b725930f1ad6b9629a94ddf3475b8cdbd7536c7cb631c04768f2f81df"), looks := false }, kinds := [], alts := [], laidByText := true, laidKinds := [.data, .data, .data], laidTests := true, laidLooks := .later }
def ScheduleWeeksCardSaid : Prop := Claim7.holds Tryd.pinned (.plain (OpenSpec.ofChange scheduleWeeksSpec)) scheduleWeeksCard

/-- THE SECOND FORM's CARD OF 'cassegrainlaw09.ScheduleWeeks'. -/
def scheduleWeeksUptoCard : Claim7 := { stood := { row := scheduleWeeksUptoRow, standIns := [], harness := (true, "cfeaf00b725930f1ad6b9629a94ddf3475b8cdbd7536c7cb631c04768f2f81df"), looks := false }, kinds := [], alts := [], laidByText := true, laidKinds := [.data, .data, .data], laidTests := true, laidLooks := .later }
def ScheduleWeeksUptoCardSaid : Prop := Claim7.holds Tryd.pinned (.plain (OpenSpec.upto scheduleWeeksSpec)) scheduleWeeksUptoCard
end Rows
end Go.Proofs.YtmlicbljjedmmaaDoor
