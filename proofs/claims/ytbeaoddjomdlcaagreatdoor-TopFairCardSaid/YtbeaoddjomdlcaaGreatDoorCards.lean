/-
  DERIVED. GIVEN WITH THE SEED: THE CARDS: each row of YtbeaoddjomdlcaaGreatDoorRows.lean that lists a variable, with what it lists TIED to the program's text (the seventh form; the later family's looks); each row that meets fmt, with fmt's text TOLD by the authors' own Lean function (tested against real Go, not proved from fmt's source: count such statements apart). THE CARD IS WHAT COUNTS. Prove the row's statement (the work); the ties are given (YtbeaoddjomdlcaaGreatDoorTie.lean); close each card by the builder's one call (the guide's Derived/Test/ToyasCard.lean, 'card_holds'). Laid BY PROGRAM, IN A SANDBOX (cutbox-door.mjs). By AI agents, Wed Nov 11 2026. No macro, syntax, notation, axiom, sorry.
-/
import Derived.Test.YtbeaoddjomdlcaaGreatDoorRows
import GoSem.ClaimSeven
namespace Go.Proofs.YtbeaoddjomdlcaaGreatDoor
namespace Rows

/-- THE TIED CARD OF 'jetwaytop.TopFair'. -/
def topFairCard : Claim7 := { stood := { row := topFairRow, standIns := [], harness := (true, "62972641eb15c08642f0ad0f9a57b98a935dcba43e15cce245e7bf0c3bfb1e45"), looks := true }, kinds := [], alts := [], laidByText := true, laidKinds := [.data, .data, .data], laidTests := true, laidLooks := .later }
def TopFairCardSaid : Prop := Claim7.holds Tryz.pinned (.plain (OpenSpec.ofChange topFairSpec)) topFairCard

/-- THE SECOND FORM's CARD OF 'jetwaytop.TopFair'. -/
def topFairUptoCard : Claim7 := { stood := { row := topFairUptoRow, standIns := [], harness := (true, "62972641eb15c08642f0ad0f9a57b98a935dcba43e15cce245e7bf0c3bfb1e45"), looks := true }, kinds := [], alts := [], laidByText := true, laidKinds := [.data, .data, .data], laidTests := true, laidLooks := .later }
def TopFairUptoCardSaid : Prop := Claim7.holds Tryz.pinned (.plain (OpenSpec.upto topFairSpec)) topFairUptoCard
end Rows
end Go.Proofs.YtbeaoddjomdlcaaGreatDoor
