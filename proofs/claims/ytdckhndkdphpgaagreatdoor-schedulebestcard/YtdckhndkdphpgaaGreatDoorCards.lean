/-
  DERIVED. GIVEN WITH THE SEED: THE CARDS: each row of YtdckhndkdphpgaaGreatDoorRows.lean that lists a variable, with what it lists TIED to the program's text (the seventh form; the later family's looks); each row that meets fmt, with fmt's text TOLD by the authors' own Lean function (tested against real Go, not proved from fmt's source: count such statements apart). THE CARD IS WHAT COUNTS. Prove the row's statement (the work); the ties are given (YtdckhndkdphpgaaGreatDoorTie.lean); close each card by the builder's one call (the guide's Derived/Test/ToyasCard.lean, 'card_holds'). Laid BY PROGRAM, IN A SANDBOX (cutbox-door.mjs). By AI agents, Wed Nov 11 2026. No macro, syntax, notation, axiom, sorry.
-/
import Derived.Test.YtdckhndkdphpgaaGreatDoorRows
import GoSem.ClaimSeven
namespace Go.Proofs.YtdckhndkdphpgaaGreatDoor
namespace Rows

/-- THE TIED CARD OF 'cassegrainlaw09.ScheduleBest'. -/
def scheduleBestCard : Claim7 := { stood := { row := scheduleBestRow, standIns := [], harness := (true, "310391ef32b164841b6c15c9f2b2edc8d4b2f728cba8fdba057e0abd4da1b740"), looks := false }, kinds := [], alts := [], laidByText := true, laidKinds := [.data, .data, .data], laidTests := true, laidLooks := .later }
def ScheduleBestCardSaid : Prop := Claim7.holds Tryz.pinned (.plain (OpenSpec.ofChange scheduleBestSpec)) scheduleBestCard

/-- THE SECOND FORM's CARD OF 'cassegrainlaw09.ScheduleBest'. -/
def scheduleBestUptoCard : Claim7 := { stood := { row := scheduleBestUptoRow, standIns := [], harness := (true, "310391ef32b164841b6c15c9f2b2edc8d4b2f728cba8fdba057e0abd4da1b740"), looks := false }, kinds := [], alts := [], laidByText := true, laidKinds := [.data, .data, .data], laidTests := true, laidLooks := .later }
def ScheduleBestUptoCardSaid : Prop := Claim7.holds Tryz.pinned (.plain (OpenSpec.upto scheduleBestSpec)) scheduleBestUptoCard
end Rows
end Go.Proofs.YtdckhndkdphpgaaGreatDoor
