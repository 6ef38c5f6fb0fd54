/-
  DERIVED. GIVEN WITH THE SEED: THE CARDS: each row of YtjjhgampfhlmbaaGreatDoorRows.lean that lists a variable, with what it lists TIED to the program's text (the seventh form; the later family's looks); each row that meets fmt, with fmt's text TOLD by the authors' own Lean function (tested against real Go, not proved from fmt's source: count such statements apart). THE CARD IS WHAT COUNTS. Prove the row's statement (the work); the ties are given (YtjjhgampfhlmbaaGreatDoorTie.lean); close each card by the builder's one call (the guide's Derived/Test/ToyasCard.lean, 'card_holds'). Laid BY PROGRAM, IN A SANDBOX (cutbox-door.mjs). By AI agents, Wed Nov 11 2026. No macro, syntax, notation, axiom, sorry.
-/
import Derived.Test.YtjjhgampfhlmbaaGreatDoorRows
import GoSem.ClaimSeven
namespace Go.Proofs.YtjjhgampfhlmbaaGreatDoor
namespace Rows

/-- THE TIED CARD OF 'dragheadlaw09.DisposalTexts'. -/
def disposalTextsCard : Claim7 := { stood := { row := disposalTextsRow, standIns := [], harness := (true, "c5405849d47601867cf2a6a6dd7c823ae245e84cdd4aba3935e54107c4a66de7"), looks := true }, kinds := [], alts := [], laidByText := true, laidKinds := [.data, .data, .data, .data, .sentinel, .sentinel, .pinned], laidTests := true, laidLooks := .later }
def DisposalTextsCardSaid : Prop := Claim7.holds Tryz.pinned (.plain (OpenSpec.ofChange disposalTextsSpec)) disposalTextsCard

/-- THE SECOND FORM's CARD OF 'dragheadlaw09.DisposalTexts'. -/
def disposalTextsUptoCard : Claim7 := { stood := { row := disposalTextsUptoRow, standIns := [], harness := (true, "c5405849d47601867cf2a6a6dd7c823ae245e84cdd4aba3935e54107c4a66de7"), looks := true }, kinds := [], alts := [], laidByText := true, laidKinds := [.data, .data, .data, .data, .sentinel, .sentinel, .pinned], laidTests := true, laidLooks := .later }
def DisposalTextsUptoCardSaid : Prop := Claim7.holds Tryz.pinned (.plain (OpenSpec.upto disposalTextsSpec)) disposalTextsUptoCard
end Rows
end Go.Proofs.YtjjhgampfhlmbaaGreatDoor
