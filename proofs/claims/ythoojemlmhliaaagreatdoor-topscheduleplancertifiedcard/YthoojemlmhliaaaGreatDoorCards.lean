/-
  DERIVED. GIVEN WITH THE SEED: THE CARDS: each row of YthoojemlmhliaaaGreatDoorRows.lean that lists a variable, with what it lists TIED to the program's text (the seventh form; the later family's looks); each row that meets fmt, with fmt's text TOLD by the authors' own Lean function (tested against real Go, not proved from fmt's source: count such statements apart). THE CARD IS WHAT COUNTS. Prove the row's statement (the work); the ties are given (YthoojemlmhliaaaGreatDoorTie.lean); close each card by the builder's one call (the guide's Derived/Test/ToyasCard.lean, 'card_holds'). Laid BY PROGRAM, IN A SANDBOX (cutbox-door.mjs). By AI agents, Wed Nov 11 2026. No macro, syntax, notation, axiom, sorry.
-/
import Derived.Test.YthoojemlmhliaaaGreatDoorRows
import GoSem.ClaimSeven
namespace Go.Proofs.YthoojemlmhliaaaGreatDoor
namespace Rows

/-- THE TIED CARD OF 'cassegraintop.TopSchedulePlanCertified'. -/
def topSchedulePlanCertifiedCard : Claim7 := { stood := { row := topSchedulePlanCertifiedRow, standIns := [], harness := (true, "3b7a50946b887615c2e6f95a19f33f60c5a5ab61503854700fac0aa90cf22a77"), looks := true }, kinds := [], alts := [], laidByText := true, laidKinds := [.data, .data, .data, .data, .sentinel, .sentinel, .pinned], laidTests := true, laidLooks := .later }
def TopSchedulePlanCertifiedCardSaid : Prop := Claim7.holds Tryz.pinned (.plain (OpenSpec.ofChange topSchedulePlanCertifiedSpec)) topSchedulePlanCertifiedCard

/-- THE SECOND FORM's CARD OF 'cassegraintop.TopSchedulePlanCertified'. -/
def topSchedulePlanCertifiedUptoCard : Claim7 := { stood := { row := topSchedulePlanCertifiedUptoRow, standIns := [], harness := (true, "3b7a50946b887615c2e6f95a19f33f60c5a5ab61503854700fac0aa90cf22a77"), looks := true }, kinds := [], alts := [], laidByText := true, laidKinds := [.data, .data, .data, .data, .sentinel, .sentinel, .pinned], laidTests := true, laidLooks := .later }
def TopSchedulePlanCertifiedUptoCardSaid : Prop := Claim7.holds Tryz.pinned (.plain (OpenSpec.upto topSchedulePlanCertifiedSpec)) topSchedulePlanCertifiedUptoCard
end Rows
end Go.Proofs.YthoojemlmhliaaaGreatDoor
