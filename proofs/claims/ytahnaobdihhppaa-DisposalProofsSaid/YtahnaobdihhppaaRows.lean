/-
  No cell of these rows narrows 'for every input' (looked for: loops, veiled, ifaces, maps, wideKeys, modest, calm, conditions, laid).
  DERIVED. THE GIVEN ROWS OF THIS SEAT. 8 by the template 'for every input the law returns true; each argument reads behind the call as it read before'; 0 by the template 'total and deterministic' (their statements: YtahnaobdihhppaaTotals.lean).
  GIVEN WITH THE SEED: the statements are not yours to turn. If you find one false, say at which input.
  Laid BY PROGRAM, IN A SANDBOX (cutbox-rows.mjs): the forced cells as the released guide's own fill.sh prints them over the translation 91d1948d29c79df7… (all of the seat's roots in one cut). By AI agents, Wed Nov 11 2026. No macro, syntax, notation, axiom, sorry.
-/
import Derived.Test.YtahnaobdihhppaaChecked
import GoSem.Claim
import GoSem.ClaimJoined
import GoSem.ClaimMapViews
import Derived.JoinedTies
import Derived.KernelRfl
namespace Go.Proofs.Ytahnaobdihhppaa
/- THE CELL 'sum', in the pinned program and in every row, IS THE sha256 OF THE DUMP (.gsa) THAT YtahnaobdihhppaaProg.lean LOADS. Nothing in Lean hashes anything: it is a label: what it is worth is what the hold of that sum in a sandbox is worth. -/
noncomputable def Try.pinned : Pinned := { name := "ytahnaobdihhppaa", sum := "91d1948d29c79df76d389f19c342df45a30de127d88b4c480452ff8c67e664c5", checked := Try.checked }
namespace Rows
def none {H : Type} : Left H := { results := [], args := [] }

/-- 'dragheadlaw09.DisposalBatches': WHATEVER THE INPUT: true; the input reads as it did. -/
def disposalBatchesSpec : ChangeSpec := { name := "disposalBatches", fn := fun _ => fun
  | [d1, d2] => { results := [.lit (.bool true)], args := [d1, d2] }
  | _ => none }
def disposalBatchesRow : OpenClaim := { program := "ytahnaobdihhppaa", sum := "91d1948d29c79df76d389f19c342df45a30de127d88b4c480452ff8c67e664c5", func := "draghead/dragheadlaw09.DisposalBatches", spec := "disposalBatches", unfollowed := true, recurses := true, apart := false }
def DisposalBatchesSaid : Prop := disposalBatchesRow.holds Try.pinned (OpenSpec.ofChange disposalBatchesSpec)

/-- ITS FALSE NEIGHBOUR: 'it returns false'. Refute it at one input. -/
def disposalBatchesWrong : ChangeSpec := { name := "disposalBatches", fn := fun _ => fun
  | [d1, d2] => { results := [.lit (.bool false)], args := [d1, d2] }
  | _ => none }
def DisposalBatchesWrongFalsely : Prop := disposalBatchesRow.holds Try.pinned (OpenSpec.ofChange disposalBatchesWrong)

/-- 'dragheadlaw09.DisposalPlaces': WHATEVER THE INPUT: true; the input reads as it did. -/
def disposalPlacesSpec : ChangeSpec := { name := "disposalPlaces", fn := fun _ => fun
  | [d1, d2, d3] => { results := [.lit (.bool true)], args := [d1, d2, d3] }
  | _ => none }
def disposalPlacesRow : OpenClaim := { program := "ytahnaobdihhppaa", sum := "91d1948d29c79df76d389f19c342df45a30de127d88b4c480452ff8c67e664c5", func := "draghead/dragheadlaw09.DisposalPlaces", spec := "disposalPlaces", unfollowed := true, recurses := true, apart := false }
def DisposalPlacesSaid : Prop := disposalPlacesRow.holds Try.pinned (OpenSpec.ofChange disposalPlacesSpec)

/-- ITS FALSE NEIGHBOUR: 'it returns false'. Refute it at one input. -/
def disposalPlacesWrong : ChangeSpec := { name := "disposalPlaces", fn := fun _ => fun
  | [d1, d2, d3] => { results := [.lit (.bool false)], args := [d1, d2, d3] }
  | _ => none }
def DisposalPlacesWrongFalsely : Prop := disposalPlacesRow.holds Try.pinned (OpenSpec.ofChange disposalPlacesWrong)

/-- 'dragheadlaw09.DisposalChecks': WHATEVER THE INPUT: true; the input reads as it did. -/
def disposalChecksSpec : ChangeSpec := { name := "disposalChecks", fn := fun _ => fun
  | [d] => { results := [.lit (.bool true)], args := [d] }
  | _ => none }
def disposalChecksRow : OpenClaim := { program := "ytahnaobdihhppaa", sum := "91d1948d29c79df76d389f19c342df45a30de127d88b4c480452ff8c67e664c5", func := "draghead/dragheadlaw09.DisposalChecks", spec := "disposalChecks", unfollowed := true, recurses := true, apart := false }
def DisposalChecksSaid : Prop := disposalChecksRow.holds Try.pinned (OpenSpec.ofChange disposalChecksSpec)

/-- ITS FALSE NEIGHBOUR: 'it returns false'. Refute it at one input. -/
def disposalChecksWrong : ChangeSpec := { name := "disposalChecks", fn := fun _ => fun
  | [d] => { results := [.lit (.bool false)], args := [d] }
  | _ => none }
def DisposalChecksWrongFalsely : Prop := disposalChecksRow.holds Try.pinned (OpenSpec.ofChange disposalChecksWrong)

/-- 'dragheadlaw09.DisposalReasons': WHATEVER THE INPUT: true; the input reads as it did. -/
def disposalReasonsSpec : ChangeSpec := { name := "disposalReasons", fn := fun _ => fun
  | [d1, d2] => { results := [.lit (.bool true)], args := [d1, d2] }
  | _ => none }
def disposalReasonsRow : OpenClaim := { program := "ytahnaobdihhppaa", sum := "91d1948d29c79df76d389f19c342df45a30de127d88b4c480452ff8c67e664c5", func := "draghead/dragheadlaw09.DisposalReasons", spec := "disposalReasons", unfollowed := true, recurses := true, apart := false }
def DisposalReasonsSaid : Prop := disposalReasonsRow.holds Try.pinned (OpenSpec.ofChange disposalReasonsSpec)

/-- ITS FALSE NEIGHBOUR: 'it returns false'. Refute it at one input. -/
def disposalReasonsWrong : ChangeSpec := { name := "disposalReasons", fn := fun _ => fun
  | [d1, d2] => { results := [.lit (.bool false)], args := [d1, d2] }
  | _ => none }
def DisposalReasonsWrongFalsely : Prop := disposalReasonsRow.holds Try.pinned (OpenSpec.ofChange disposalReasonsWrong)

/-- 'dragheadlaw09.DisposalKept': WHATEVER THE INPUT: true; the input reads as it did. -/
def disposalKeptSpec : ChangeSpec := { name := "disposalKept", fn := fun _ => fun
  | [d1, d2] => { results := [.lit (.bool true)], args := [d1, d2] }
  | _ => none }
def disposalKeptRow : OpenClaim := { program := "ytahnaobdihhppaa", sum := "91d1948d29c79df76d389f19c342df45a30de127d88b4c480452ff8c67e664c5", func := "draghead/dragheadlaw09.DisposalKept", spec := "disposalKept", unfollowed := true, recurses := true, apart := false }
def DisposalKeptSaid : Prop := disposalKeptRow.holds Try.pinned (OpenSpec.ofChange disposalKeptSpec)

/-- ITS FALSE NEIGHBOUR: 'it returns false'. Refute it at one input. -/
def disposalKeptWrong : ChangeSpec := { name := "disposalKept", fn := fun _ => fun
  | [d1, d2] => { results := [.lit (.bool false)], args := [d1, d2] }
  | _ => none }
def DisposalKeptWrongFalsely : Prop := disposalKeptRow.holds Try.pinned (OpenSpec.ofChange disposalKeptWrong)

/-- 'dragheadlaw09.DisposalBalances': WHATEVER THE INPUT: true; the input reads as it did. -/
def disposalBalancesSpec : ChangeSpec := { name := "disposalBalances", fn := fun _ => fun
  | [d1, d2] => { results := [.lit (.bool true)], args := [d1, d2] }
  | _ => none }
def disposalBalancesRow : OpenClaim := { program := "ytahnaobdihhppaa", sum := "91d1948d29c79df76d389f19c342df45a30de127d88b4c480452ff8c67e664c5", func := "draghead/dragheadlaw09.DisposalBalances", spec := "disposalBalances", unfollowed := true, recurses := true, apart := false }
def DisposalBalancesSaid : Prop := disposalBalancesRow.holds Try.pinned (OpenSpec.ofChange disposalBalancesSpec)

/-- ITS FALSE NEIGHBOUR: 'it returns false'. Refute it at one input. -/
def disposalBalancesWrong : ChangeSpec := { name := "disposalBalances", fn := fun _ => fun
  | [d1, d2] => { results := [.lit (.bool false)], args := [d1, d2] }
  | _ => none }
def DisposalBalancesWrongFalsely : Prop := disposalBalancesRow.holds Try.pinned (OpenSpec.ofChange disposalBalancesWrong)

/-- 'dragheadlaw09.DisposalPits': WHATEVER THE INPUT: true; the input reads as it did. -/
def disposalPitsSpec : ChangeSpec := { name := "disposalPits", fn := fun _ => fun
  | [d1, d2] => { results := [.lit (.bool true)], args := [d1, d2] }
  | _ => none }
def disposalPitsRow : OpenClaim := { program := "ytahnaobdihhppaa", sum := "91d1948d29c79df76d389f19c342df45a30de127d88b4c480452ff8c67e664c5", func := "draghead/dragheadlaw09.DisposalPits", spec := "disposalPits", unfollowed := true, recurses := true, apart := false }
def DisposalPitsSaid : Prop := disposalPitsRow.holds Try.pinned (OpenSpec.ofChange disposalPitsSpec)

/-- ITS FALSE NEIGHBOUR: 'it returns false'. Refute it at one input. -/
def disposalPitsWrong : ChangeSpec := { name := "disposalPits", fn := fun _ => fun
  | [d1, d2] => { results := [.lit (.bool false)], args := [d1, d2] }
  | _ => none }
def DisposalPitsWrongFalsely : Prop := disposalPitsRow.holds Try.pinned (OpenSpec.ofChange disposalPitsWrong)

/-- 'dragheadlaw09.DisposalProofs': WHATEVER THE INPUT: true; the input reads as it did. -/
def disposalProofsSpec : ChangeSpec := { name := "disposalProofs", fn := fun _ => fun
  | [d1, d2] => { results := [.lit (.bool true)], args := [d1, d2] }
  | _ => none }
def disposalProofsRow : OpenClaim := { program := "ytahnaobdihhppaa", sum := "91d1948d29c79df76d389f19c342df45a30de127d88b4c480452ff8c67e664c5", func := "draghead/dragheadlaw09.DisposalProofs", spec := "disposalProofs", unfollowed := true, recurses := true, apart := false }
def DisposalProofsSaid : Prop := disposalProofsRow.holds Try.pinned (OpenSpec.ofChange disposalProofsSpec)

/-- ITS FALSE NEIGHBOUR: 'it returns false'. Refute it at one input. -/
def disposalProofsWrong : ChangeSpec := { name := "disposalProofs", fn := fun _ => fun
  | [d1, d2] => { results := [.lit (.bool false)], args := [d1, d2] }
  | _ => none }
def DisposalProofsWrongFalsely : Prop := disposalProofsRow.holds Try.pinned (OpenSpec.ofChange disposalProofsWrong)

/- THE SECOND FORM. 'bulk': how many values and letters a reading holds, each counted each time it is reached (what is shared counts as often as it is met; a slice's spare places count too). A statement '..UptoSaid' is the law's where the arguments, and the package variables that the reading takes, are together of bulk at most 1048576: NARROWER than '..Said'. Prove '..Said' where nothing that the law and all that it calls make is longer than what came in: it says more and counts as full. Else prove '..UptoSaid'. A law counts once. -/
mutual
def uptoBulk {H : Type} : DataW H → Nat
  | .lit (.string bytes) => bytes.length + 1
  | .lit _ => 1
  | .nil => 1
  | .ptr d => uptoBulk d + 1
  | .slice elems spare => uptoBulkAll elems + uptoBulkAll spare + 1
  | .agg parts => uptoBulkAll parts + 1
  | .iface _ d => uptoBulk d + 1
  | .map entries => uptoBulkEntries entries + 1
  | .held _ => 1
def uptoBulkAll {H : Type} : List (DataW H) → Nat
  | [] => 0
  | d :: r => uptoBulk d + uptoBulkAll r
def uptoBulkEntries {H : Type} : List (Lit × DataW H) → Nat
  | [] => 0
  | x :: r => uptoBulkEntry x + uptoBulkEntries r
def uptoBulkEntry {H : Type} : Lit × DataW H → Nat
  | (.string bytes, d) => bytes.length + uptoBulk d + 1
  | (_, d) => uptoBulk d + 1
 end
def uptoSmall : (H : Type) → List (DataW H) → Bool := fun _ ds => decide (uptoBulkAll ds ≤ 1048576)
def OpenSpec.upto (s : _root_.Go.ChangeSpec) : _root_.Go.OpenSpec := { _root_.Go.OpenSpec.ofChange s with cond := some uptoSmall }

/-- 'dragheadlaw09.DisposalBatches', WHERE WHAT IT READS IS OF BULK AT MOST 1048576: true; the input reads as it did. -/
def disposalBatchesUptoRow : OpenClaim := { program := "ytahnaobdihhppaa", sum := "91d1948d29c79df76d389f19c342df45a30de127d88b4c480452ff8c67e664c5", func := "draghead/dragheadlaw09.DisposalBatches", spec := "disposalBatches", unfollowed := true, recurses := true, apart := false, narrowed := true }
def DisposalBatchesUptoSaid : Prop := disposalBatchesUptoRow.holds Try.pinned (OpenSpec.upto disposalBatchesSpec)

/-- 'dragheadlaw09.DisposalPlaces', WHERE WHAT IT READS IS OF BULK AT MOST 1048576: true; the input reads as it did. -/
def disposalPlacesUptoRow : OpenClaim := { program := "ytahnaobdihhppaa", sum := "91d1948d29c79df76d389f19c342df45a30de127d88b4c480452ff8c67e664c5", func := "draghead/dragheadlaw09.DisposalPlaces", spec := "disposalPlaces", unfollowed := true, recurses := true, apart := false, narrowed := true }
def DisposalPlacesUptoSaid : Prop := disposalPlacesUptoRow.holds Try.pinned (OpenSpec.upto disposalPlacesSpec)

/-- 'dragheadlaw09.DisposalChecks', WHERE WHAT IT READS IS OF BULK AT MOST 1048576: true; the input reads as it did. -/
def disposalChecksUptoRow : OpenClaim := { program := "ytahnaobdihhppaa", sum := "91d1948d29c79df76d389f19c342df45a30de127d88b4c480452ff8c67e664c5", func := "draghead/dragheadlaw09.DisposalChecks", spec := "disposalChecks", unfollowed := true, recurses := true, apart := false, narrowed := true }
def DisposalChecksUptoSaid : Prop := disposalChecksUptoRow.holds Try.pinned (OpenSpec.upto disposalChecksSpec)

/-- 'dragheadlaw09.DisposalReasons', WHERE WHAT IT READS IS OF BULK AT MOST 1048576: true; the input reads as it did. -/
def disposalReasonsUptoRow : OpenClaim := { program := "ytahnaobdihhppaa", sum := "91d1948d29c79df76d389f19c342df45a30de127d88b4c480452ff8c67e664c5", func := "draghead/dragheadlaw09.DisposalReasons", spec := "disposalReasons", unfollowed := true, recurses := true, apart := false, narrowed := true }
def DisposalReasonsUptoSaid : Prop := disposalReasonsUptoRow.holds Try.pinned (OpenSpec.upto disposalReasonsSpec)

/-- 'dragheadlaw09.DisposalKept', WHERE WHAT IT READS IS OF BULK AT MOST 1048576: true; the input reads as it did. -/
def disposalKeptUptoRow : OpenClaim := { program := "ytahnaobdihhppaa", sum := "91d1948d29c79df76d389f19c342df45a30de127d88b4c480452ff8c67e664c5", func := "draghead/dragheadlaw09.DisposalKept", spec := "disposalKept", unfollowed := true, recurses := true, apart := false, narrowed := true }
def DisposalKeptUptoSaid : Prop := disposalKeptUptoRow.holds Try.pinned (OpenSpec.upto disposalKeptSpec)

/-- 'dragheadlaw09.DisposalBalances', WHERE WHAT IT READS IS OF BULK AT MOST 1048576: true; the input reads as it did. -/
def disposalBalancesUptoRow : OpenClaim := { program := "ytahnaobdihhppaa", sum := "91d1948d29c79df76d389f19c342df45a30de127d88b4c480452ff8c67e664c5", func := "draghead/dragheadlaw09.DisposalBalances", spec := "disposalBalances", unfollowed := true, recurses := true, apart := false, narrowed := true }
def DisposalBalancesUptoSaid : Prop := disposalBalancesUptoRow.holds Try.pinned (OpenSpec.upto disposalBalancesSpec)

/-- 'dragheadlaw09.DisposalPits', WHERE WHAT IT READS IS OF BULK AT MOST 1048576: true; the input reads as it did. -/
def disposalPitsUptoRow : OpenClaim := { program := "ytahnaobdihhppaa", sum := "91d1948d29c79df76d389f19c342df45a30de127d88b4c480452ff8c67e664c5", func := "draghead/dragheadlaw09.DisposalPits", spec := "disposalPits", unfollowed := true, recurses := true, apart := false, narrowed := true }
def DisposalPitsUptoSaid : Prop := disposalPitsUptoRow.holds Try.pinned (OpenSpec.upto disposalPitsSpec)

/-- 'dragheadlaw09.DisposalProofs', WHERE WHAT IT READS IS OF BULK AT MOST 1048576: true; the input reads as it did. -/
def disposalProofsUptoRow : OpenClaim := { program := "ytahnaobdihhppaa", sum := "91d1948d29c79df76d389f19c342df45a30de127d88b4c480452ff8c67e664c5", func := "draghead/dragheadlaw09.DisposalProofs", spec := "disposalProofs", unfollowed := true, recurses := true, apart := false, narrowed := true }
def DisposalProofsUptoSaid : Prop := disposalProofsUptoRow.holds Try.pinned (OpenSpec.upto disposalProofsSpec)

end Rows
end Go.Proofs.Ytahnaobdihhppaa
