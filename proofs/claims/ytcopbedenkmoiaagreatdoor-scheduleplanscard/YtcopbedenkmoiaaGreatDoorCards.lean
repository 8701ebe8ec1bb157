/-
  DERIVED. GIVEN WITH THE SEED: THE CARDS: each row of YtcopbedenkmoiaaGreatDoorRows.lean that lists a variable, with what it lists TIED to the program's text (the seventh form; the later family's looks); each row that meets fmt, with fmt's text TOLD by the authors' own Lean function (tested against real Go, not proved from fmt's source: count such statements apart). THE CARD IS WHAT COUNTS. Prove the row's statement (the work); the ties are given (YtcopbedenkmoiaaGreatDoorTie.lean); close each card by the builder's one call (the guide's Derived/Test/ToyasCard.lean, 'card_holds'). Laid BY PROGRAM, IN A SANDBOX (cutbox-door.mjs). By AI agents, Wed Nov 11 2026. No macro, syntax, notation, axiom, sorry.
-/
import Derived.Test.YtcopbedenkmoiaaGreatDoorRows
import GoSem.ClaimSeven
namespace Go.Proofs.YtcopbedenkmoiaaGreatDoor
namespace Rows

/-- THE TIED CARD OF 'cassegrainlaw09.SchedulePlans'. -/
def schedulePlansCard : Claim7 := { stood := { row := schedulePlansRow, standIns := [], harness := (true, "cbc16613735c88366b51a821a9fe4578c39ffd03a93e5fe7d6b962ae5a556011"), looks := false }, kinds := [], alts := [], laidByText := true, laidKinds := [.data, .data, .data], laidTests := true, laidLooks := .later }
def SchedulePlansCardSaid : Prop := Claim7.holds Tryz.pinned (.plain (OpenSpec.ofChange schedulePlansSpec)) schedulePlansCard

/-- THE SECOND FORM's CARD OF 'cassegrainlaw09.SchedulePlans'. -/
def schedulePlansUptoCard : Claim7 := { stood := { row := schedulePlansUptoRow, standIns := [], harness := (true, "cbc16613735c88366b51a821a9fe4578c39ffd03a93e5fe7d6b962ae5a556011"), looks := false }, kinds := [], alts := [], laidByText := true, laidKinds := [.data, .data, .data], laidTests := true, laidLooks := .later }
def SchedulePlansUptoCardSaid : Prop := Claim7.holds Tryz.pinned (.plain (OpenSpec.upto schedulePlansSpec)) schedulePlansUptoCard
end Rows
end Go.Proofs.YtcopbedenkmoiaaGreatDoor
