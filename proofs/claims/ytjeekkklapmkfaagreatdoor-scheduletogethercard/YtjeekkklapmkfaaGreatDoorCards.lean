/-
  DERIVED. GIVEN WITH THE SEED: THE CARDS: each row of YtjeekkklapmkfaaGreatDoorRows.lean that lists a variable, with what it lists TIED to the program's text (the seventh form; the later family's looks); each row that meets fmt, with fmt's text TOLD by the authors' own Lean function (tested against real Go, not proved from fmt's source: count such statements apart). THE CARD IS WHAT COUNTS. Prove the row's statement (the work); the ties are given (YtjeekkklapmkfaaGreatDoorTie.lean); close each card by the builder's one call (the guide's Derived/Test/ToyasCard.lean, 'card_holds'). Laid BY PROGRAM, IN A SANDBOX (cutbox-door.mjs). By AI agents, Wed Nov 11 2026. No macro, syntax, notation, axiom, sorry.
-/
import Derived.Test.YtjeekkklapmkfaaGreatDoorRows
import GoSem.ClaimSeven
namespace Go.Proofs.YtjeekkklapmkfaaGreatDoor
namespace Rows

/-- THE TIED CARD OF 'cassegrainlaw09.ScheduleTogether'. -/
def scheduleTogetherCard : Claim7 := { stood := { row := scheduleTogetherRow, standIns := [], harness := (true, "ecfe95f7c29700e4d17e85d128ab1e3238effebcb6e3b1850afe78e0fd6dd376"), looks := false }, kinds := [], alts := [], laidByText := true, laidKinds := [.data, .data, .data], laidTests := true, laidLooks := .later }
def ScheduleTogetherCardSaid : Prop := Claim7.holds Tryz.pinned (.plain (OpenSpec.ofChange scheduleTogetherSpec)) scheduleTogetherCard

/-- THE SECOND FORM's CARD OF 'cassegrainlaw09.ScheduleTogether'. -/
def scheduleTogetherUptoCard : Claim7 := { stood := { row := scheduleTogetherUptoRow, standIns := [], harness := (true, "ecfe95f7c29700e4d17e85d128ab1e3238effebcb6e3b1850afe78e0fd6dd376"), looks := false }, kinds := [], alts := [], laidByText := true, laidKinds := [.data, .data, .data], laidTests := true, laidLooks := .later }
def ScheduleTogetherUptoCardSaid : Prop := Claim7.holds Tryz.pinned (.plain (OpenSpec.upto scheduleTogetherSpec)) scheduleTogetherUptoCard
end Rows
end Go.Proofs.YtjeekkklapmkfaaGreatDoor
