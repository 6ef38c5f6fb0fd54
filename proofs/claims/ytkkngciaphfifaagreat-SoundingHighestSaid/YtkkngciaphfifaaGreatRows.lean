/-
  No cell of these rows narrows 'for every input' (looked for: loops, veiled, ifaces, maps, wideKeys, modest, calm, conditions, laid).
  DERIVED. THE GIVEN ROWS OF THIS SEAT. 12 by the template 'for every input the law returns true; each argument reads behind the call as it read before'; 0 by the template 'total and deterministic' (their statements: YtkkngciaphfifaaGreatTotals.lean).
  GIVEN WITH THE SEED: the statements are not yours to turn. If you find one false, say at which input.
  Laid BY PROGRAM, IN A SANDBOX (cutbox-rows.mjs): the forced cells as the released guide's own fill.sh prints them over the translation 8bb9c500ba435f9f… (all of the seat's roots in one cut). By AI agents, Wed Nov 11 2026. No macro, syntax, notation, axiom, sorry.
-/
import Derived.Test.YtkkngciaphfifaaGreatChecked
import GoSem.Claim
import GoSem.ClaimJoined
import GoSem.ClaimMapViews
import Derived.JoinedTies
import Derived.KernelRfl
namespace Go.Proofs.YtkkngciaphfifaaGreat
/- THE CELL 'sum', in the pinned program and in every row, IS THE sha256 OF THE DUMP (.gsa) THAT YtkkngciaphfifaaGreatProg.lean LOADS. Nothing in Lean hashes anything: it is a label: what it is worth is what the hold of that sum in a sandbox is worth. -/
noncomputable def Tryz.pinned : Pinned := { name := "ytkkngciaphfifaagreat", sum := "8bb9c500ba435f9f3a366861fc7d13965133f014bcfcc18cd84d795b0539bd48", checked := Tryz.checked }
namespace Rows
def none {H : Type} : Left H := { results := [], args := [] }

/-- 'dragheadlaw03.SoundingContains': WHATEVER THE INPUT: true; the input reads as it did. -/
def soundingContainsSpec : ChangeSpec := { name := "soundingContains", fn := fun _ => fun
  | [d1, d2, d3] => { results := [.lit (.bool true)], args := [d1, d2, d3] }
  | _ => none }
def soundingContainsRow : OpenClaim := { program := "ytkkngciaphfifaagreat", sum := "8bb9c500ba435f9f3a366861fc7d13965133f014bcfcc18cd84d795b0539bd48", func := "draghead/dragheadlaw03.SoundingContains", spec := "soundingContains", unfollowed := true, recurses := true, apart := false }
def SoundingContainsSaid : Prop := soundingContainsRow.holds Tryz.pinned (OpenSpec.ofChange soundingContainsSpec)

/-- ITS FALSE NEIGHBOUR: 'it returns false'. Refute it at one input. -/
def soundingContainsWrong : ChangeSpec := { name := "soundingContains", fn := fun _ => fun
  | [d1, d2, d3] => { results := [.lit (.bool false)], args := [d1, d2, d3] }
  | _ => none }
def SoundingContainsWrongFalsely : Prop := soundingContainsRow.holds Tryz.pinned (OpenSpec.ofChange soundingContainsWrong)

/-- 'dragheadlaw03.SoundingReduces': WHATEVER THE INPUT: true; the input reads as it did. -/
def soundingReducesSpec : ChangeSpec := { name := "soundingReduces", fn := fun _ => fun
  | [d1, d2] => { results := [.lit (.bool true)], args := [d1, d2] }
  | _ => none }
def soundingReducesRow : OpenClaim := { program := "ytkkngciaphfifaagreat", sum := "8bb9c500ba435f9f3a366861fc7d13965133f014bcfcc18cd84d795b0539bd48", func := "draghead/dragheadlaw03.SoundingReduces", spec := "soundingReduces", unfollowed := true, recurses := true, apart := false }
def SoundingReducesSaid : Prop := soundingReducesRow.holds Tryz.pinned (OpenSpec.ofChange soundingReducesSpec)

/-- ITS FALSE NEIGHBOUR: 'it returns false'. Refute it at one input. -/
def soundingReducesWrong : ChangeSpec := { name := "soundingReduces", fn := fun _ => fun
  | [d1, d2] => { results := [.lit (.bool false)], args := [d1, d2] }
  | _ => none }
def SoundingReducesWrongFalsely : Prop := soundingReducesRow.holds Tryz.pinned (OpenSpec.ofChange soundingReducesWrong)

/-- 'dragheadlaw03.SoundingThins': WHATEVER THE INPUT: true; the input reads as it did. -/
def soundingThinsSpec : ChangeSpec := { name := "soundingThins", fn := fun _ => fun
  | [d1, d2, d3] => { results := [.lit (.bool true)], args := [d1, d2, d3] }
  | _ => none }
def soundingThinsRow : OpenClaim := { program := "ytkkngciaphfifaagreat", sum := "8bb9c500ba435f9f3a366861fc7d13965133f014bcfcc18cd84d795b0539bd48", func := "draghead/dragheadlaw03.SoundingThins", spec := "soundingThins", unfollowed := true, recurses := true, apart := false }
def SoundingThinsSaid : Prop := soundingThinsRow.holds Tryz.pinned (OpenSpec.ofChange soundingThinsSpec)

/-- ITS FALSE NEIGHBOUR: 'it returns false'. Refute it at one input. -/
def soundingThinsWrong : ChangeSpec := { name := "soundingThins", fn := fun _ => fun
  | [d1, d2, d3] => { results := [.lit (.bool false)], args := [d1, d2, d3] }
  | _ => none }
def SoundingThinsWrongFalsely : Prop := soundingThinsRow.holds Tryz.pinned (OpenSpec.ofChange soundingThinsWrong)

/-- 'dragheadlaw03.SoundingNears': WHATEVER THE INPUT: true; the input reads as it did. -/
def soundingNearsSpec : ChangeSpec := { name := "soundingNears", fn := fun _ => fun
  | [d1, d2, d3] => { results := [.lit (.bool true)], args := [d1, d2, d3] }
  | _ => none }
def soundingNearsRow : OpenClaim := { program := "ytkkngciaphfifaagreat", sum := "8bb9c500ba435f9f3a366861fc7d13965133f014bcfcc18cd84d795b0539bd48", func := "draghead/dragheadlaw03.SoundingNears", spec := "soundingNears", unfollowed := true, recurses := true, apart := false }
def SoundingNearsSaid : Prop := soundingNearsRow.holds Tryz.pinned (OpenSpec.ofChange soundingNearsSpec)

/-- ITS FALSE NEIGHBOUR: 'it returns false'. Refute it at one input. -/
def soundingNearsWrong : ChangeSpec := { name := "soundingNears", fn := fun _ => fun
  | [d1, d2, d3] => { results := [.lit (.bool false)], args := [d1, d2, d3] }
  | _ => none }
def SoundingNearsWrongFalsely : Prop := soundingNearsRow.holds Tryz.pinned (OpenSpec.ofChange soundingNearsWrong)

/-- 'dragheadlaw03.SoundingCrosses': WHATEVER THE INPUT: true; the input reads as it did. -/
def soundingCrossesSpec : ChangeSpec := { name := "soundingCrosses", fn := fun _ => fun
  | [d1, d2, d3] => { results := [.lit (.bool true)], args := [d1, d2, d3] }
  | _ => none }
def soundingCrossesRow : OpenClaim := { program := "ytkkngciaphfifaagreat", sum := "8bb9c500ba435f9f3a366861fc7d13965133f014bcfcc18cd84d795b0539bd48", func := "draghead/dragheadlaw03.SoundingCrosses", spec := "soundingCrosses", unfollowed := true, recurses := true, apart := false }
def SoundingCrossesSaid : Prop := soundingCrossesRow.holds Tryz.pinned (OpenSpec.ofChange soundingCrossesSpec)

/-- ITS FALSE NEIGHBOUR: 'it returns false'. Refute it at one input. -/
def soundingCrossesWrong : ChangeSpec := { name := "soundingCrosses", fn := fun _ => fun
  | [d1, d2, d3] => { results := [.lit (.bool false)], args := [d1, d2, d3] }
  | _ => none }
def SoundingCrossesWrongFalsely : Prop := soundingCrossesRow.holds Tryz.pinned (OpenSpec.ofChange soundingCrossesWrong)

/-- 'dragheadlaw03.SoundingChecks': WHATEVER THE INPUT: true; the input reads as it did. -/
def soundingChecksSpec : ChangeSpec := { name := "soundingChecks", fn := fun _ => fun
  | [d1, d2, d3] => { results := [.lit (.bool true)], args := [d1, d2, d3] }
  | _ => none }
def soundingChecksRow : OpenClaim := { program := "ytkkngciaphfifaagreat", sum := "8bb9c500ba435f9f3a366861fc7d13965133f014bcfcc18cd84d795b0539bd48", func := "draghead/dragheadlaw03.SoundingChecks", spec := "soundingChecks", unfollowed := true, recurses := true, apart := false }
def SoundingChecksSaid : Prop := soundingChecksRow.holds Tryz.pinned (OpenSpec.ofChange soundingChecksSpec)

/-- ITS FALSE NEIGHBOUR: 'it returns false'. Refute it at one input. -/
def soundingChecksWrong : ChangeSpec := { name := "soundingChecks", fn := fun _ => fun
  | [d1, d2, d3] => { results := [.lit (.bool false)], args := [d1, d2, d3] }
  | _ => none }
def SoundingChecksWrongFalsely : Prop := soundingChecksRow.holds Tryz.pinned (OpenSpec.ofChange soundingChecksWrong)

/-- 'dragheadlaw03.SoundingSpikes': WHATEVER THE INPUT: true; the input reads as it did. -/
def soundingSpikesSpec : ChangeSpec := { name := "soundingSpikes", fn := fun _ => fun
  | [d1, d2] => { results := [.lit (.bool true)], args := [d1, d2] }
  | _ => none }
def soundingSpikesRow : OpenClaim := { program := "ytkkngciaphfifaagreat", sum := "8bb9c500ba435f9f3a366861fc7d13965133f014bcfcc18cd84d795b0539bd48", func := "draghead/dragheadlaw03.SoundingSpikes", spec := "soundingSpikes", unfollowed := true, recurses := true, apart := false }
def SoundingSpikesSaid : Prop := soundingSpikesRow.holds Tryz.pinned (OpenSpec.ofChange soundingSpikesSpec)

/-- ITS FALSE NEIGHBOUR: 'it returns false'. Refute it at one input. -/
def soundingSpikesWrong : ChangeSpec := { name := "soundingSpikes", fn := fun _ => fun
  | [d1, d2] => { results := [.lit (.bool false)], args := [d1, d2] }
  | _ => none }
def SoundingSpikesWrongFalsely : Prop := soundingSpikesRow.holds Tryz.pinned (OpenSpec.ofChange soundingSpikesWrong)

/-- 'dragheadlaw03.SoundingShoals': WHATEVER THE INPUT: true; the input reads as it did. -/
def soundingShoalsSpec : ChangeSpec := { name := "soundingShoals", fn := fun _ => fun
  | [d1, d2] => { results := [.lit (.bool true)], args := [d1, d2] }
  | _ => none }
def soundingShoalsRow : OpenClaim := { program := "ytkkngciaphfifaagreat", sum := "8bb9c500ba435f9f3a366861fc7d13965133f014bcfcc18cd84d795b0539bd48", func := "draghead/dragheadlaw03.SoundingShoals", spec := "soundingShoals", unfollowed := true, recurses := true, apart := false }
def SoundingShoalsSaid : Prop := soundingShoalsRow.holds Tryz.pinned (OpenSpec.ofChange soundingShoalsSpec)

/-- ITS FALSE NEIGHBOUR: 'it returns false'. Refute it at one input. -/
def soundingShoalsWrong : ChangeSpec := { name := "soundingShoals", fn := fun _ => fun
  | [d1, d2] => { results := [.lit (.bool false)], args := [d1, d2] }
  | _ => none }
def SoundingShoalsWrongFalsely : Prop := soundingShoalsRow.holds Tryz.pinned (OpenSpec.ofChange soundingShoalsWrong)

/-- 'dragheadlaw03.SoundingSheets': WHATEVER THE INPUT: true; the input reads as it did. -/
def soundingSheetsSpec : ChangeSpec := { name := "soundingSheets", fn := fun _ => fun
  | [d1, d2, d3] => { results := [.lit (.bool true)], args := [d1, d2, d3] }
  | _ => none }
def soundingSheetsRow : OpenClaim := { program := "ytkkngciaphfifaagreat", sum := "8bb9c500ba435f9f3a366861fc7d13965133f014bcfcc18cd84d795b0539bd48", func := "draghead/dragheadlaw03.SoundingSheets", spec := "soundingSheets", unfollowed := true, recurses := true, apart := false }
def SoundingSheetsSaid : Prop := soundingSheetsRow.holds Tryz.pinned (OpenSpec.ofChange soundingSheetsSpec)

/-- ITS FALSE NEIGHBOUR: 'it returns false'. Refute it at one input. -/
def soundingSheetsWrong : ChangeSpec := { name := "soundingSheets", fn := fun _ => fun
  | [d1, d2, d3] => { results := [.lit (.bool false)], args := [d1, d2, d3] }
  | _ => none }
def SoundingSheetsWrongFalsely : Prop := soundingSheetsRow.holds Tryz.pinned (OpenSpec.ofChange soundingSheetsWrong)

/-- 'dragheadlaw03.SoundingParts': WHATEVER THE INPUT: true; the input reads as it did. -/
def soundingPartsSpec : ChangeSpec := { name := "soundingParts", fn := fun _ => fun
  | [d1, d2, d3] => { results := [.lit (.bool true)], args := [d1, d2, d3] }
  | _ => none }
def soundingPartsRow : OpenClaim := { program := "ytkkngciaphfifaagreat", sum := "8bb9c500ba435f9f3a366861fc7d13965133f014bcfcc18cd84d795b0539bd48", func := "draghead/dragheadlaw03.SoundingParts", spec := "soundingParts", unfollowed := true, recurses := true, apart := false }
def SoundingPartsSaid : Prop := soundingPartsRow.holds Tryz.pinned (OpenSpec.ofChange soundingPartsSpec)

/-- ITS FALSE NEIGHBOUR: 'it returns false'. Refute it at one input. -/
def soundingPartsWrong : ChangeSpec := { name := "soundingParts", fn := fun _ => fun
  | [d1, d2, d3] => { results := [.lit (.bool false)], args := [d1, d2, d3] }
  | _ => none }
def SoundingPartsWrongFalsely : Prop := soundingPartsRow.holds Tryz.pinned (OpenSpec.ofChange soundingPartsWrong)

/-- 'dragheadlaw03.SoundingHighest': WHATEVER THE INPUT: true; the input reads as it did. -/
def soundingHighestSpec : ChangeSpec := { name := "soundingHighest", fn := fun _ => fun
  | [d1, d2, d3] => { results := [.lit (.bool true)], args := [d1, d2, d3] }
  | _ => none }
def soundingHighestRow : OpenClaim := { program := "ytkkngciaphfifaagreat", sum := "8bb9c500ba435f9f3a366861fc7d13965133f014bcfcc18cd84d795b0539bd48", func := "draghead/dragheadlaw03.SoundingHighest", spec := "soundingHighest", unfollowed := true, recurses := true, apart := false }
def SoundingHighestSaid : Prop := soundingHighestRow.holds Tryz.pinned (OpenSpec.ofChange soundingHighestSpec)

/-- ITS FALSE NEIGHBOUR: 'it returns false'. Refute it at one input. -/
def soundingHighestWrong : ChangeSpec := { name := "soundingHighest", fn := fun _ => fun
  | [d1, d2, d3] => { results := [.lit (.bool false)], args := [d1, d2, d3] }
  | _ => none }
def SoundingHighestWrongFalsely : Prop := soundingHighestRow.holds Tryz.pinned (OpenSpec.ofChange soundingHighestWrong)

/-- 'dragheadlaw03.SoundingBins': WHATEVER THE INPUT: true; the input reads as it did. -/
def soundingBinsSpec : ChangeSpec := { name := "soundingBins", fn := fun _ => fun
  | [d1, d2] => { results := [.lit (.bool true)], args := [d1, d2] }
  | _ => none }
def soundingBinsRow : OpenClaim := { program := "ytkkngciaphfifaagreat", sum := "8bb9c500ba435f9f3a366861fc7d13965133f014bcfcc18cd84d795b0539bd48", func := "draghead/dragheadlaw03.SoundingBins", spec := "soundingBins", unfollowed := true, recurses := true, apart := false }
def SoundingBinsSaid : Prop := soundingBinsRow.holds Tryz.pinned (OpenSpec.ofChange soundingBinsSpec)

/-- ITS FALSE NEIGHBOUR: 'it returns false'. Refute it at one input. -/
def soundingBinsWrong : ChangeSpec := { name := "soundingBins", fn := fun _ => fun
  | [d1, d2] => { results := [.lit (.bool false)], args := [d1, d2] }
  | _ => none }
def SoundingBinsWrongFalsely : Prop := soundingBinsRow.holds Tryz.pinned (OpenSpec.ofChange soundingBinsWrong)

/- THE SECOND FORM. 'bulk': how many values and letters a reading holds, each counted each time it is reached (what is shared counts as often as it is met; a slice's spare places count too). A statement '..UptoSaid' is the law's where the arguments, and the package variables that the reading takes, are together of bulk at most 1048576: NARROWER than '..Said'. Prove '..Said' where nothing that the law and all that it calls make is longer than what came in: it says more and counts as full. Else prove '..UptoSaid'. A law counts once. -/
mutual
def uptoBulk {H : Type} : DataW H → Nat
  | .lit (.string bytes) => bytes.length + 1
  | .lit _ => 1
  | .nil => 1
  | .ptr d => uptoBulk d + 1
  | .slice elems spare => uptoBulkAll elems + uptoBulkAll spare + 1
  | .agg parts => uptoBulkAll parts + 1
  | .iface _ d => uptoBulk d + 1
  | .map entries => uptoBulkEntries entries + 1
  | .held _ => 1
def uptoBulkAll {H : Type} : List (DataW H) → Nat
  | [] => 0
  | d :: r => uptoBulk d + uptoBulkAll r
def uptoBulkEntries {H : Type} : List (Lit × DataW H) → Nat
  | [] => 0
  | x :: r => uptoBulkEntry x + uptoBulkEntries r
def uptoBulkEntry {H : Type} : Lit × DataW H → Nat
  | (.string bytes, d) => bytes.length + uptoBulk d + 1
  | (_, d) => uptoBulk d + 1
 end
def uptoSmall : (H : Type) → List (DataW H) → Bool := fun _ ds => decide (uptoBulkAll ds ≤ 1048576)
def OpenSpec.upto (s : _root_.Go.ChangeSpec) : _root_.Go.OpenSpec := { _root_.Go.OpenSpec.ofChange s with cond := some uptoSmall }

/-- 'dragheadlaw03.SoundingContains', WHERE WHAT IT READS IS OF BULK AT MOST 1048576: true; the input reads as it did. -/
def soundingContainsUptoRow : OpenClaim := { program := "ytkkngciaphfifaagreat", sum := "8bb9c500ba435f9f3a366861fc7d13965133f014bcfcc18cd84d795b0539bd48", func := "draghead/dragheadlaw03.SoundingContains", spec := "soundingContains", unfollowed := true, recurses := true, apart := false, narrowed := true }
def SoundingContainsUptoSaid : Prop := soundingContainsUptoRow.holds Tryz.pinned (OpenSpec.upto soundingContainsSpec)

/-- 'dragheadlaw03.SoundingReduces', WHERE WHAT IT READS IS OF BULK AT MOST 1048576: true; the input reads as it did. -/
def soundingReducesUptoRow : OpenClaim := { program := "ytkkngciaphfifaagreat", sum := "8bb9c500ba435f9f3a366861fc7d13965133f014bcfcc18cd84d795b0539bd48", func := "draghead/dragheadlaw03.SoundingReduces", spec := "soundingReduces", unfollowed := true, recurses := true, apart := false, narrowed := true }
def SoundingReducesUptoSaid : Prop := soundingReducesUptoRow.holds Tryz.pinned (OpenSpec.upto soundingReducesSpec)

/-- 'dragheadlaw03.SoundingThins', WHERE WHAT IT READS IS OF BULK AT MOST 1048576: true; the input reads as it did. -/
def soundingThinsUptoRow : OpenClaim := { program := "ytkkngciaphfifaagreat", sum := "8bb9c500ba435f9f3a366861fc7d13965133f014bcfcc18cd84d795b0539bd48", func := "draghead/dragheadlaw03.SoundingThins", spec := "soundingThins", unfollowed := true, recurses := true, apart := false, narrowed := true }
def SoundingThinsUptoSaid : Prop := soundingThinsUptoRow.holds Tryz.pinned (OpenSpec.upto soundingThinsSpec)

/-- 'dragheadlaw03.SoundingNears', WHERE WHAT IT READS IS OF BULK AT MOST 1048576: true; the input reads as it did. -/
def soundingNearsUptoRow : OpenClaim := { program := "ytkkngciaphfifaagreat", sum := "8bb9c500ba435f9f3a366861fc7d13965133f014bcfcc18cd84d795b0539bd48", func := "draghead/dragheadlaw03.SoundingNears", spec := "soundingNears", unfollowed := true, recurses := true, apart := false, narrowed := true }
def SoundingNearsUptoSaid : Prop := soundingNearsUptoRow.holds Tryz.pinned (OpenSpec.upto soundingNearsSpec)

/-- 'dragheadlaw03.SoundingCrosses', WHERE WHAT IT READS IS OF BULK AT MOST 1048576: true; the input reads as it did. -/
def soundingCrossesUptoRow : OpenClaim := { program := "ytkkngciaphfifaagreat", sum := "8bb9c500ba435f9f3a366861fc7d13965133f014bcfcc18cd84d795b0539bd48", func := "draghead/dragheadlaw03.SoundingCrosses", spec := "soundingCrosses", unfollowed := true, recurses := true, apart := false, narrowed := true }
def SoundingCrossesUptoSaid : Prop := soundingCrossesUptoRow.holds Tryz.pinned (OpenSpec.upto soundingCrossesSpec)

/-- 'dragheadlaw03.SoundingChecks', WHERE WHAT IT READS IS OF BULK AT MOST 1048576: true; the input reads as it did. -/
def soundingChecksUptoRow : OpenClaim := { program := "ytkkngciaphfifaagreat", sum := "8bb9c500ba435f9f3a366861fc7d13965133f014bcfcc18cd84d795b0539bd48", func := "draghead/dragheadlaw03.SoundingChecks", spec := "soundingChecks", unfollowed := true, recurses := true, apart := false, narrowed := true }
def SoundingChecksUptoSaid : Prop := soundingChecksUptoRow.holds Tryz.pinned (OpenSpec.upto soundingChecksSpec)

/-- 'dragheadlaw03.SoundingSpikes', WHERE WHAT IT READS IS OF BULK AT MOST 1048576: true; the input reads as it did. -/
def soundingSpikesUptoRow : OpenClaim := { program := "ytkkngciaphfifaagreat", sum := "8bb9c500ba435f9f3a366861fc7d13965133f014bcfcc18cd84d795b0539bd48", func := "draghead/dragheadlaw03.SoundingSpikes", spec := "soundingSpikes", unfollowed := true, recurses := true, apart := false, narrowed := true }
def SoundingSpikesUptoSaid : Prop := soundingSpikesUptoRow.holds Tryz.pinned (OpenSpec.upto soundingSpikesSpec)

/-- 'dragheadlaw03.SoundingShoals', WHERE WHAT IT READS IS OF BULK AT MOST 1048576: true; the input reads as it did. -/
def soundingShoalsUptoRow : OpenClaim := { program := "ytkkngciaphfifaagreat", sum := "8bb9c500ba435f9f3a366861fc7d13965133f014bcfcc18cd84d795b0539bd48", func := "draghead/dragheadlaw03.SoundingShoals", spec := "soundingShoals", unfollowed := true, recurses := true, apart := false, narrowed := true }
def SoundingShoalsUptoSaid : Prop := soundingShoalsUptoRow.holds Tryz.pinned (OpenSpec.upto soundingShoalsSpec)

/-- 'dragheadlaw03.SoundingSheets', WHERE WHAT IT READS IS OF BULK AT MOST 1048576: true; the input reads as it did. -/
def soundingSheetsUptoRow : OpenClaim := { program := "ytkkngciaphfifaagreat", sum := "8bb9c500ba435f9f3a366861fc7d13965133f014bcfcc18cd84d795b0539bd48", func := "draghead/dragheadlaw03.SoundingSheets", spec := "soundingSheets", unfollowed := true, recurses := true, apart := false, narrowed := true }
def SoundingSheetsUptoSaid : Prop := soundingSheetsUptoRow.holds Tryz.pinned (OpenSpec.upto soundingSheetsSpec)

/-- 'dragheadlaw03.SoundingParts', WHERE WHAT IT READS IS OF BULK AT MOST 1048576: true; the input reads as it did. -/
def soundingPartsUptoRow : OpenClaim := { program := "ytkkngciaphfifaagreat", sum := "8bb9c500ba435f9f3a366861fc7d13965133f014bcfcc18cd84d795b0539bd48", func := "draghead/dragheadlaw03.SoundingParts", spec := "soundingParts", unfollowed := true, recurses := true, apart := false, narrowed := true }
def SoundingPartsUptoSaid : Prop := soundingPartsUptoRow.holds Tryz.pinned (OpenSpec.upto soundingPartsSpec)

/-- 'dragheadlaw03.SoundingHighest', WHERE WHAT IT READS IS OF BULK AT MOST 1048576: true; the input reads as it did. -/
def soundingHighestUptoRow : OpenClaim := { program := "ytkkngciaphfifaagreat", sum := "8bb9c500ba435f9f3a366861fc7d13965133f014bcfcc18cd84d795b0539bd48", func := "draghead/dragheadlaw03.SoundingHighest", spec := "soundingHighest", unfollowed := true, recurses := true, apart := false, narrowed := true }
def SoundingHighestUptoSaid : Prop := soundingHighestUptoRow.holds Tryz.pinned (OpenSpec.upto soundingHighestSpec)

/-- 'dragheadlaw03.SoundingBins', WHERE WHAT IT READS IS OF BULK AT MOST 1048576: true; the input reads as it did. -/
def soundingBinsUptoRow : OpenClaim := { program := "ytkkngciaphfifaagreat", sum := "8bb9c500ba435f9f3a366861fc7d13965133f014bcfcc18cd84d795b0539bd48", func := "draghead/dragheadlaw03.SoundingBins", spec := "soundingBins", unfollowed := true, recurses := true, apart := false, narrowed := true }
def SoundingBinsUptoSaid : Prop := soundingBinsUptoRow.holds Tryz.pinned (OpenSpec.upto soundingBinsSpec)

end Rows
end Go.Proofs.YtkkngciaphfifaaGreat
