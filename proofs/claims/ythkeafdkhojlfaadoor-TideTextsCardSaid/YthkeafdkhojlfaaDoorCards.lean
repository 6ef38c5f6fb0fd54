/-
  DERIVED. GIVEN WITH THE SEED: THE CARDS: each row of YthkeafdkhojlfaaDoorRows.lean that lists a variable, with what it lists TIED to the program's text (the seventh form; the later family's looks); each row that meets fmt, with fmt's text TOLD by the authors' own Lean function (tested against real Go, not proved from fmt's source: count such statements apart). THE CARD IS WHAT COUNTS. Prove the row's statement (the work); the ties are given (YthkeafdkhojlfaaDoorTie.lean); close each card by the builder's one call (the guide's Derived/Test/ToyasCard.lean, 'card_holds'). Laid BY PROGRAM, IN A SANDBOX (cutbox-door.mjs). By AI agents, Wed Nov 11 2026. No macro, syntax, notation, axiom, sorry.
-/
import Derived.Test.YthkeafdkhojlfaaDoorRows
import GoSem.ClaimSeven
namespace Go.Proofs.YthkeafdkhojlfaaDoor
namespace Rows

/-- THE TIED CARD OF 'dragheadlaw02.TideTexts'. -/
def tideTextsCard : Claim7 := { stood := { row := tideTextsRow, standIns := [], harness := (true, "3fb3c4623ebcdf3e6b1d5cd520b4f9a1bc4fa6280d72826ab8f37724169ce5c7"), looks := true }, kinds := [], alts := [], laidByText := true, laidKinds := [.data, .data, .data, .data, .sentinel, .sentinel, .pinned], laidTests := true, laidLooks := .later }
def TideTextsCardSaid : Prop := Claim7.holds Tryd.pinned (.plain (OpenSpec.ofChange tideTextsSpec)) tideTextsCard

/-- THE SECOND FORM's CARD OF 'dragheadlaw02.TideTexts'. -/
def tideTextsUptoCard : Claim7 := { stood := { row := tideTextsUptoRow, standIns := [], harness := (true, "3fb3c4623ebcdf3e6b1d5cd520b4f9a1bc4fa6280d72826ab8f37724169ce5c7"), looks := true }, kinds := [], alts := [], laidByText := true, laidKinds := [.data, .data, .data, .data, .sentinel, .sentinel, .pinned], laidTests := true, laidLooks := .later }
def TideTextsUptoCardSaid : Prop := Claim7.holds Tryd.pinned (.plain (OpenSpec.upto tideTextsSpec)) tideTextsUptoCard
end Rows
end Go.Proofs.YthkeafdkhojlfaaDoor
