/-
  DERIVED. GIVEN WITH THE SEED: THE CARDS: each row of YtchenadpkldjdaaGreatDoorRows.lean that lists a variable, with what it lists TIED to the program's text (the seventh form; the later family's looks); each row that meets fmt, with fmt's text TOLD by the authors' own Lean function (tested against real Go, not proved from fmt's source: count such statements apart). THE CARD IS WHAT COUNTS. Prove the row's statement (the work); the ties are given (YtchenadpkldjdaaGreatDoorTie.lean); close each card by the builder's one call (the guide's Derived/Test/ToyasCard.lean, 'card_holds'). Laid BY PROGRAM, IN A SANDBOX (cutbox-door.mjs). By AI agents, Wed Nov 11 2026. No macro, syntax, notation, axiom, sorry.
-/
import Derived.Test.YtchenadpkldjdaaGreatDoorRows
import GoSem.ClaimSeven
namespace Go.Proofs.YtchenadpkldjdaaGreatDoor
namespace Rows

/-- THE TIED CARD OF 'cassegrainlaw09.SchedulePlacements'. -/
def schedulePlacementsCard : Claim7 := { stood := { row := schedulePlacementsRow, standIns := [], harness := (true, "0395afd40b51576fff698a9fbe679d668fa89c4bcc6c1fd20040669f9041a42b"), looks := false }, kinds := [], alts := [], laidByText := true, laidKinds := [.data, .data, .data], laidTests := true, laidLooks := .later }
def SchedulePlacementsCardSaid : Prop := Claim7.holds Tryz.pinned (.plain (OpenSpec.ofChange schedulePlacementsSpec)) schedulePlacementsCard

/-- THE SECOND FORM's CARD OF 'cassegrainlaw09.SchedulePlacements'. -/
def schedulePlacementsUptoCard : Claim7 := { stood := { row := schedulePlacementsUptoRow, standIns := [], harness := (true, "0395afd40b51576fff698a9fbe679d668fa89c4bcc6c1fd20040669f9041a42b"), looks := false }, kinds := [], alts := [], laidByText := true, laidKinds := [.data, .data, .data], laidTests := true, laidLooks := .later }
def SchedulePlacementsUptoCardSaid : Prop := Claim7.holds Tryz.pinned (.plain (OpenSpec.upto schedulePlacementsSpec)) schedulePlacementsUptoCard
end Rows
end Go.Proofs.YtchenadpkldjdaaGreatDoor
