/-
  No cell of these rows narrows 'for every input' (looked for: loops, veiled, ifaces, maps, wideKeys, modest, calm, conditions, laid).
  DERIVED. THE GIVEN ROWS OF THIS SEAT. 2 by the template 'for every input the law returns true; each argument reads behind the call as it read before'; 0 by the template 'total and deterministic' (their statements: YtgfaonnajdoeoaaTotals.lean).
  GIVEN WITH THE SEED: the statements are not yours to turn. If you find one false, say at which input.
  Laid BY PROGRAM, IN A SANDBOX (cutbox-rows.mjs): the forced cells as the released guide's own fill.sh prints them over the translation 152bef64432433d5… (all of the seat's roots in one cut). By AI agents, Wed Nov 11 2026. No macro, syntax, notation, axiom, sorry.
-/
import Derived.Test.YtgfaonnajdoeoaaChecked
import GoSem.Claim
import GoSem.ClaimJoined
import GoSem.ClaimMapViews
import Derived.JoinedTies
import Derived.KernelRfl
namespace Go.Proofs.Ytgfaonnajdoeoaa
/- THE CELL 'sum', in the pinned program and in every row, IS THE sha256 OF THE DUMP (.gsa) THAT YtgfaonnajdoeoaaProg.lean LOADS. Nothing in Lean hashes anything: it is a label: what it is worth is what the hold of that sum in a sandbox is worth. -/
noncomputable def Try.pinned : Pinned := { name := "ytgfaonnajdoeoaa", sum := "152bef64432433d5b5340bb31eaae91532ecb40cc1a2690fa283115bf8190d69", checked := Try.checked }
namespace Rows
def none {H : Type} : Left H := { results := [], args := [] }

/-- 'dragheadlaw08.TripHoppers': WHATEVER THE INPUT: true; the input reads as it did. -/
def tripHoppersSpec : ChangeSpec := { name := "tripHoppers", fn := fun _ => fun
  | [d1, d2, d3] => { results := [.lit (.bool true)], args := [d1, d2, d3] }
  | _ => none }
def tripHoppersRow : OpenClaim := { program := "ytgfaonnajdoeoaa", sum := "152bef64432433d5b5340bb31eaae91532ecb40cc1a2690fa283115bf8190d69", func := "draghead/dragheadlaw08.TripHoppers", spec := "tripHoppers", unfollowed := true, recurses := true, apart := false }
def TripHoppersSaid : Prop := tripHoppersRow.holds Try.pinned (OpenSpec.ofChange tripHoppersSpec)

/-- ITS FALSE NEIGHBOUR: 'it returns false'. Refute it at one input. -/
def tripHoppersWrong : ChangeSpec := { name := "tripHoppers", fn := fun _ => fun
  | [d1, d2, d3] => { results := [.lit (.bool false)], args := [d1, d2, d3] }
  | _ => none }
def TripHoppersWrongFalsely : Prop := tripHoppersRow.holds Try.pinned (OpenSpec.ofChange tripHoppersWrong)

/-- 'dragheadlaw08.TripFairways': WHATEVER THE INPUT: true; the input reads as it did. -/
def tripFairwaysSpec : ChangeSpec := { name := "tripFairways", fn := fun _ => fun
  | [d1, d2] => { results := [.lit (.bool true)], args := [d1, d2] }
  | _ => none }
def tripFairwaysRow : OpenClaim := { program := "ytgfaonnajdoeoaa", sum := "152bef64432433d5b5340bb31eaae91532ecb40cc1a2690fa283115bf8190d69", func := "draghead/dragheadlaw08.TripFairways", spec := "tripFairways", unfollowed := true, recurses := true, apart := false }
def TripFairwaysSaid : Prop := tripFairwaysRow.holds Try.pinned (OpenSpec.ofChange tripFairwaysSpec)

/-- ITS FALSE NEIGHBOUR: 'it returns false'. Refute it at one input. -/
def tripFairwaysWrong : ChangeSpec := { name := "tripFairways", fn := fun _ => fun
  | [d1, d2] => { results := [.lit (.bool false)], args := [d1, d2] }
  | _ => none }
def TripFairwaysWrongFalsely : Prop := tripFairwaysRow.holds Try.pinned (OpenSpec.ofChange tripFairwaysWrong)

/- THE SECOND FORM. 'bulk': how many values and letters a reading holds, each counted each time it is reached (what is shared counts as often as it is met; a slice's spare places count too). A statement '..UptoSaid' is the law's where the arguments, and the package variables that the reading takes, are together of bulk at most 1048576: NARROWER than '..Said'. Prove '..Said' where nothing that the law and all that it calls make is longer than what came in: it says more and counts as full. Else prove '..UptoSaid'. A law counts once. -/
mutual
def uptoBulk {H : Type} : DataW H → Nat
  | .lit (.string bytes) => bytes.length + 1
  | .lit _ => 1
  | .nil => 1
  | .ptr d => uptoBulk d + 1
  | .slice elems spare => uptoBulkAll elems + uptoBulkAll spare + 1
  | .agg parts => uptoBulkAll parts + 1
  | .iface _ d => uptoBulk d + 1
  | .map entries => uptoBulkEntries entries + 1
  | .held _ => 1
def uptoBulkAll {H : Type} : List (DataW H) → Nat
  | [] => 0
  | d :: r => uptoBulk d + uptoBulkAll r
def uptoBulkEntries {H : Type} : List (Lit × DataW H) → Nat
  | [] => 0
  | x :: r => uptoBulkEntry x + uptoBulkEntries r
def uptoBulkEntry {H : Type} : Lit × DataW H → Nat
  | (.string bytes, d) => bytes.length + uptoBulk d + 1
  | (_, d) => uptoBulk d + 1
 end
def uptoSmall : (H : Type) → List (DataW H) → Bool := fun _ ds => decide (uptoBulkAll ds ≤ 1048576)
def OpenSpec.upto (s : _root_.Go.ChangeSpec) : _root_.Go.OpenSpec := { _root_.Go.OpenSpec.ofChange s with cond := some uptoSmall }

/-- 'dragheadlaw08.TripHoppers', WHERE WHAT IT READS IS OF BULK AT MOST 1048576: true; the input reads as it did. -/
def tripHoppersUptoRow : OpenClaim := { program := "ytgfaonnajdoeoaa", sum := "152bef64432433d5b5340bb31eaae91532ecb40cc1a2690fa283115bf8190d69", func := "draghead/dragheadlaw08.TripHoppers", spec := "tripHoppers", unfollowed := true, recurses := true, apart := false, narrowed := true }
def TripHoppersUptoSaid : Prop := tripHoppersUptoRow.holds Try.pinned (OpenSpec.upto tripHoppersSpec)

/-- 'dragheadlaw08.TripFairways', WHERE WHAT IT READS IS OF BULK AT MOST 1048576: true; the input reads as it did. -/
def tripFairwaysUptoRow : OpenClaim := { program := "ytgfaonnajdoeoaa", sum := "152bef64432433d5b5340bb31eaae91532ecb40cc1a2690fa283115bf8190d69", func := "draghead/dragheadlaw08.TripFairways", spec := "tripFairways", unfollowed := true, recurses := true, apart := false, narrowed := true }
def TripFairwaysUptoSaid : Prop := tripFairwaysUptoRow.holds Try.pinned (OpenSpec.upto tripFairwaysSpec)

end Rows
end Go.Proofs.Ytgfaonnajdoeoaa
