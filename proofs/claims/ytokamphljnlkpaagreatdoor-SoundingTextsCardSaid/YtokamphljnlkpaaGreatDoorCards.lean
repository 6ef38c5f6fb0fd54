/-
  DERIVED. GIVEN WITH THE SEED: THE CARDS: each row of YtokamphljnlkpaaGreatDoorRows.lean that lists a variable, with what it lists TIED to the program's text (the seventh form; the later family's looks); each row that meets fmt, with fmt's text TOLD by the authors' own Lean function (tested against real Go, not proved from fmt's source: count such statements apart). THE CARD IS WHAT COUNTS. Prove the row's statement (the work); the ties are given (YtokamphljnlkpaaGreatDoorTie.lean); close each card by the builder's one call (the guide's Derived/Test/ToyasCard.lean, 'card_holds'). Laid BY PROGRAM, IN A SANDBOX (cutbox-door.mjs). By AI agents, Wed Nov 11 2026. No macro, syntax, notation, axiom, sorry.
-/
import Derived.Test.YtokamphljnlkpaaGreatDoorRows
import GoSem.ClaimSeven
namespace Go.Proofs.YtokamphljnlkpaaGreatDoor
namespace Rows

/-- THE TIED CARD OF 'dragheadlaw03.SoundingTexts'. -/
def soundingTextsCard : Claim7 := { stood := { row := soundingTextsRow, standIns := [], harness := (true, "33504cd309956b6d6b8f3c21b73ebdf177e725d27035d8ad00b852a71466a1b9"), looks := true }, kinds := [], alts := [], laidByText := true, laidKinds := [.data, .data, .data, .data, .sentinel, .sentinel, .pinned], laidTests := true, laidLooks := .later }
def SoundingTextsCardSaid : Prop := Claim7.holds Tryz.pinned (.plain (OpenSpec.ofChange soundingTextsSpec)) soundingTextsCard

/-- THE SECOND FORM's CARD OF 'dragheadlaw03.SoundingTexts'. -/
def soundingTextsUptoCard : Claim7 := { stood := { row := soundingTextsUptoRow, standIns := [], harness := (true, "33504cd309956b6d6b8f3c21b73ebdf177e725d27035d8ad00b852a71466a1b9"), looks := true }, kinds := [], alts := [], laidByText := true, laidKinds := [.data, .data, .data, .data, .sentinel, .sentinel, .pinned], laidTests := true, laidLooks := .later }
def SoundingTextsUptoCardSaid : Prop := Claim7.holds Tryz.pinned (.plain (OpenSpec.upto soundingTextsSpec)) soundingTextsUptoCard
end Rows
end Go.Proofs.YtokamphljnlkpaaGreatDoor
