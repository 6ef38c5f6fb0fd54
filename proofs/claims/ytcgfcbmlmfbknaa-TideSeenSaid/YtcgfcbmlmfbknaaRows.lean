/-
  No cell of these rows narrows 'for every input' (looked for: loops, veiled, ifaces, maps, wideKeys, modest, calm, conditions, laid).
  DERIVED. THE GIVEN ROWS OF THIS SEAT. 12 by the template 'for every input the law returns true; each argument reads behind the call as it read before'; 0 by the template 'total and deterministic' (their statements: YtcgfcbmlmfbknaaTotals.lean).
  GIVEN WITH THE SEED: the statements are not yours to turn. If you find one false, say at which input.
  Laid BY PROGRAM, IN A SANDBOX (cutbox-rows.mjs): the forced cells as the released guide's own fill.sh prints them over the translation bf291b0cf0ff4dce… (all of the seat's roots in one cut). By AI agents, Wed Nov 11 2026. No macro, syntax, notation, axiom, sorry.
-/
import Derived.Test.YtcgfcbmlmfbknaaChecked
import GoSem.Claim
import GoSem.ClaimJoined
import GoSem.ClaimMapViews
import Derived.JoinedTies
import Derived.KernelRfl
namespace Go.Proofs.Ytcgfcbmlmfbknaa
/- THE CELL 'sum', in the pinned program and in every row, IS THE sha256 OF THE DUMP (.gsa) THAT YtcgfcbmlmfbknaaProg.lean LOADS. Nothing in Lean hashes anything: it is a label: what it is worth is what the hold of that sum in a sandbox is worth. -/
noncomputable def Try.pinned : Pinned := { name := "ytcgfcbmlmfbknaa", sum := "bf291b0cf0ff4dced450a916273a48682cf218c3acdfc78b8a1aa7032948353a", checked := Try.checked }
namespace Rows
def none {H : Type} : Left H := { results := [], args := [] }

/-- 'dragheadlaw02.TideLevels': WHATEVER THE INPUT: true; the input reads as it did. -/
def tideLevelsSpec : ChangeSpec := { name := "tideLevels", fn := fun _ => fun
  | [d1, d2] => { results := [.lit (.bool true)], args := [d1, d2] }
  | _ => none }
def tideLevelsRow : OpenClaim := { program := "ytcgfcbmlmfbknaa", sum := "bf291b0cf0ff4dced450a916273a48682cf218c3acdfc78b8a1aa7032948353a", func := "draghead/dragheadlaw02.TideLevels", spec := "tideLevels", unfollowed := true, recurses := true, apart := false }
def TideLevelsSaid : Prop := tideLevelsRow.holds Try.pinned (OpenSpec.ofChange tideLevelsSpec)

/-- ITS FALSE NEIGHBOUR: 'it returns false'. Refute it at one input. -/
def tideLevelsWrong : ChangeSpec := { name := "tideLevels", fn := fun _ => fun
  | [d1, d2] => { results := [.lit (.bool false)], args := [d1, d2] }
  | _ => none }
def TideLevelsWrongFalsely : Prop := tideLevelsRow.holds Try.pinned (OpenSpec.ofChange tideLevelsWrong)

/-- 'dragheadlaw02.TideSimple': WHATEVER THE INPUT: true; the input reads as it did. -/
def tideSimpleSpec : ChangeSpec := { name := "tideSimple", fn := fun _ => fun
  | [d1, d2] => { results := [.lit (.bool true)], args := [d1, d2] }
  | _ => none }
def tideSimpleRow : OpenClaim := { program := "ytcgfcbmlmfbknaa", sum := "bf291b0cf0ff4dced450a916273a48682cf218c3acdfc78b8a1aa7032948353a", func := "draghead/dragheadlaw02.TideSimple", spec := "tideSimple", unfollowed := true, recurses := true, apart := false }
def TideSimpleSaid : Prop := tideSimpleRow.holds Try.pinned (OpenSpec.ofChange tideSimpleSpec)

/-- ITS FALSE NEIGHBOUR: 'it returns false'. Refute it at one input. -/
def tideSimpleWrong : ChangeSpec := { name := "tideSimple", fn := fun _ => fun
  | [d1, d2] => { results := [.lit (.bool false)], args := [d1, d2] }
  | _ => none }
def TideSimpleWrongFalsely : Prop := tideSimpleRow.holds Try.pinned (OpenSpec.ofChange tideSimpleWrong)

/-- 'dragheadlaw02.TideShifts': WHATEVER THE INPUT: true; the input reads as it did. -/
def tideShiftsSpec : ChangeSpec := { name := "tideShifts", fn := fun _ => fun
  | [d1, d2, d3] => { results := [.lit (.bool true)], args := [d1, d2, d3] }
  | _ => none }
def tideShiftsRow : OpenClaim := { program := "ytcgfcbmlmfbknaa", sum := "bf291b0cf0ff4dced450a916273a48682cf218c3acdfc78b8a1aa7032948353a", func := "draghead/dragheadlaw02.TideShifts", spec := "tideShifts", unfollowed := true, recurses := true, apart := false }
def TideShiftsSaid : Prop := tideShiftsRow.holds Try.pinned (OpenSpec.ofChange tideShiftsSpec)

/-- ITS FALSE NEIGHBOUR: 'it returns false'. Refute it at one input. -/
def tideShiftsWrong : ChangeSpec := { name := "tideShifts", fn := fun _ => fun
  | [d1, d2, d3] => { results := [.lit (.bool false)], args := [d1, d2, d3] }
  | _ => none }
def TideShiftsWrongFalsely : Prop := tideShiftsRow.holds Try.pinned (OpenSpec.ofChange tideShiftsWrong)

/-- 'dragheadlaw02.TideTwelfths': WHATEVER THE INPUT: true; the input reads as it did. -/
def tideTwelfthsSpec : ChangeSpec := { name := "tideTwelfths", fn := fun _ => fun
  | [d] => { results := [.lit (.bool true)], args := [d] }
  | _ => none }
def tideTwelfthsRow : OpenClaim := { program := "ytcgfcbmlmfbknaa", sum := "bf291b0cf0ff4dced450a916273a48682cf218c3acdfc78b8a1aa7032948353a", func := "draghead/dragheadlaw02.TideTwelfths", spec := "tideTwelfths", unfollowed := true, recurses := true, apart := false }
def TideTwelfthsSaid : Prop := tideTwelfthsRow.holds Try.pinned (OpenSpec.ofChange tideTwelfthsSpec)

/-- ITS FALSE NEIGHBOUR: 'it returns false'. Refute it at one input. -/
def tideTwelfthsWrong : ChangeSpec := { name := "tideTwelfths", fn := fun _ => fun
  | [d] => { results := [.lit (.bool false)], args := [d] }
  | _ => none }
def TideTwelfthsWrongFalsely : Prop := tideTwelfthsRow.holds Try.pinned (OpenSpec.ofChange tideTwelfthsWrong)

/-- 'dragheadlaw02.TideSeen': WHATEVER THE INPUT: true; the input reads as it did. -/
def tideSeenSpec : ChangeSpec := { name := "tideSeen", fn := fun _ => fun
  | [d1, d2] => { results := [.lit (.bool true)], args := [d1, d2] }
  | _ => none }
def tideSeenRow : OpenClaim := { program := "ytcgfcbmlmfbknaa", sum := "bf291b0cf0ff4dced450a916273a48682cf218c3acdfc78b8a1aa7032948353a", func := "draghead/dragheadlaw02.TideSeen", spec := "tideSeen", unfollowed := true, recurses := true, apart := false }
def TideSeenSaid : Prop := tideSeenRow.holds Try.pinned (OpenSpec.ofChange tideSeenSpec)

/-- ITS FALSE NEIGHBOUR: 'it returns false'. Refute it at one input. -/
def tideSeenWrong : ChangeSpec := { name := "tideSeen", fn := fun _ => fun
  | [d1, d2] => { results := [.lit (.bool false)], args := [d1, d2] }
  | _ => none }
def TideSeenWrongFalsely : Prop := tideSeenRow.holds Try.pinned (OpenSpec.ofChange tideSeenWrong)

/-- 'dragheadlaw02.TidePlaces': WHATEVER THE INPUT: true; the input reads as it did. -/
def tidePlacesSpec : ChangeSpec := { name := "tidePlaces", fn := fun _ => fun
  | [d1, d2, d3] => { results := [.lit (.bool true)], args := [d1, d2, d3] }
  | _ => none }
def tidePlacesRow : OpenClaim := { program := "ytcgfcbmlmfbknaa", sum := "bf291b0cf0ff4dced450a916273a48682cf218c3acdfc78b8a1aa7032948353a", func := "draghead/dragheadlaw02.TidePlaces", spec := "tidePlaces", unfollowed := true, recurses := true, apart := false }
def TidePlacesSaid : Prop := tidePlacesRow.holds Try.pinned (OpenSpec.ofChange tidePlacesSpec)

/-- ITS FALSE NEIGHBOUR: 'it returns false'. Refute it at one input. -/
def tidePlacesWrong : ChangeSpec := { name := "tidePlaces", fn := fun _ => fun
  | [d1, d2, d3] => { results := [.lit (.bool false)], args := [d1, d2, d3] }
  | _ => none }
def TidePlacesWrongFalsely : Prop := tidePlacesRow.holds Try.pinned (OpenSpec.ofChange tidePlacesWrong)

/-- 'dragheadlaw02.TideBetween': WHATEVER THE INPUT: true; the input reads as it did. -/
def tideBetweenSpec : ChangeSpec := { name := "tideBetween", fn := fun _ => fun
  | [d1, d2, d3] => { results := [.lit (.bool true)], args := [d1, d2, d3] }
  | _ => none }
def tideBetweenRow : OpenClaim := { program := "ytcgfcbmlmfbknaa", sum := "bf291b0cf0ff4dced450a916273a48682cf218c3acdfc78b8a1aa7032948353a", func := "draghead/dragheadlaw02.TideBetween", spec := "tideBetween", unfollowed := true, recurses := true, apart := false }
def TideBetweenSaid : Prop := tideBetweenRow.holds Try.pinned (OpenSpec.ofChange tideBetweenSpec)

/-- ITS FALSE NEIGHBOUR: 'it returns false'. Refute it at one input. -/
def tideBetweenWrong : ChangeSpec := { name := "tideBetween", fn := fun _ => fun
  | [d1, d2, d3] => { results := [.lit (.bool false)], args := [d1, d2, d3] }
  | _ => none }
def TideBetweenWrongFalsely : Prop := tideBetweenRow.holds Try.pinned (OpenSpec.ofChange tideBetweenWrong)

/-- 'dragheadlaw02.TideSpans': WHATEVER THE INPUT: true; the input reads as it did. -/
def tideSpansSpec : ChangeSpec := { name := "tideSpans", fn := fun _ => fun
  | [d] => { results := [.lit (.bool true)], args := [d] }
  | _ => none }
def tideSpansRow : OpenClaim := { program := "ytcgfcbmlmfbknaa", sum := "bf291b0cf0ff4dced450a916273a48682cf218c3acdfc78b8a1aa7032948353a", func := "draghead/dragheadlaw02.TideSpans", spec := "tideSpans", unfollowed := true, recurses := true, apart := false }
def TideSpansSaid : Prop := tideSpansRow.holds Try.pinned (OpenSpec.ofChange tideSpansSpec)

/-- ITS FALSE NEIGHBOUR: 'it returns false'. Refute it at one input. -/
def tideSpansWrong : ChangeSpec := { name := "tideSpans", fn := fun _ => fun
  | [d] => { results := [.lit (.bool false)], args := [d] }
  | _ => none }
def TideSpansWrongFalsely : Prop := tideSpansRow.holds Try.pinned (OpenSpec.ofChange tideSpansWrong)

/-- 'dragheadlaw02.TideNested': WHATEVER THE INPUT: true; the input reads as it did. -/
def tideNestedSpec : ChangeSpec := { name := "tideNested", fn := fun _ => fun
  | [d1, d2, d3] => { results := [.lit (.bool true)], args := [d1, d2, d3] }
  | _ => none }
def tideNestedRow : OpenClaim := { program := "ytcgfcbmlmfbknaa", sum := "bf291b0cf0ff4dced450a916273a48682cf218c3acdfc78b8a1aa7032948353a", func := "draghead/dragheadlaw02.TideNested", spec := "tideNested", unfollowed := true, recurses := true, apart := false }
def TideNestedSaid : Prop := tideNestedRow.holds Try.pinned (OpenSpec.ofChange tideNestedSpec)

/-- ITS FALSE NEIGHBOUR: 'it returns false'. Refute it at one input. -/
def tideNestedWrong : ChangeSpec := { name := "tideNested", fn := fun _ => fun
  | [d1, d2, d3] => { results := [.lit (.bool false)], args := [d1, d2, d3] }
  | _ => none }
def TideNestedWrongFalsely : Prop := tideNestedRow.holds Try.pinned (OpenSpec.ofChange tideNestedWrong)

/-- 'dragheadlaw02.TideWindows': WHATEVER THE INPUT: true; the input reads as it did. -/
def tideWindowsSpec : ChangeSpec := { name := "tideWindows", fn := fun _ => fun
  | [d1, d2] => { results := [.lit (.bool true)], args := [d1, d2] }
  | _ => none }
def tideWindowsRow : OpenClaim := { program := "ytcgfcbmlmfbknaa", sum := "bf291b0cf0ff4dced450a916273a48682cf218c3acdfc78b8a1aa7032948353a", func := "draghead/dragheadlaw02.TideWindows", spec := "tideWindows", unfollowed := true, recurses := true, apart := false }
def TideWindowsSaid : Prop := tideWindowsRow.holds Try.pinned (OpenSpec.ofChange tideWindowsSpec)

/-- ITS FALSE NEIGHBOUR: 'it returns false'. Refute it at one input. -/
def tideWindowsWrong : ChangeSpec := { name := "tideWindows", fn := fun _ => fun
  | [d1, d2] => { results := [.lit (.bool false)], args := [d1, d2] }
  | _ => none }
def TideWindowsWrongFalsely : Prop := tideWindowsRow.holds Try.pinned (OpenSpec.ofChange tideWindowsWrong)

/-- 'dragheadlaw02.TideMerges': WHATEVER THE INPUT: true; the input reads as it did. -/
def tideMergesSpec : ChangeSpec := { name := "tideMerges", fn := fun _ => fun
  | [d1, d2] => { results := [.lit (.bool true)], args := [d1, d2] }
  | _ => none }
def tideMergesRow : OpenClaim := { program := "ytcgfcbmlmfbknaa", sum := "bf291b0cf0ff4dced450a916273a48682cf218c3acdfc78b8a1aa7032948353a", func := "draghead/dragheadlaw02.TideMerges", spec := "tideMerges", unfollowed := true, recurses := true, apart := false }
def TideMergesSaid : Prop := tideMergesRow.holds Try.pinned (OpenSpec.ofChange tideMergesSpec)

/-- ITS FALSE NEIGHBOUR: 'it returns false'. Refute it at one input. -/
def tideMergesWrong : ChangeSpec := { name := "tideMerges", fn := fun _ => fun
  | [d1, d2] => { results := [.lit (.bool false)], args := [d1, d2] }
  | _ => none }
def TideMergesWrongFalsely : Prop := tideMergesRow.holds Try.pinned (OpenSpec.ofChange tideMergesWrong)

/-- 'dragheadlaw02.TideTurns': WHATEVER THE INPUT: true; the input reads as it did. -/
def tideTurnsSpec : ChangeSpec := { name := "tideTurns", fn := fun _ => fun
  | [d] => { results := [.lit (.bool true)], args := [d] }
  | _ => none }
def tideTurnsRow : OpenClaim := { program := "ytcgfcbmlmfbknaa", sum := "bf291b0cf0ff4dced450a916273a48682cf218c3acdfc78b8a1aa7032948353a", func := "draghead/dragheadlaw02.TideTurns", spec := "tideTurns", unfollowed := true, recurses := true, apart := false }
def TideTurnsSaid : Prop := tideTurnsRow.holds Try.pinned (OpenSpec.ofChange tideTurnsSpec)

/-- ITS FALSE NEIGHBOUR: 'it returns false'. Refute it at one input. -/
def tideTurnsWrong : ChangeSpec := { name := "tideTurns", fn := fun _ => fun
  | [d] => { results := [.lit (.bool false)], args := [d] }
  | _ => none }
def TideTurnsWrongFalsely : Prop := tideTurnsRow.holds Try.pinned (OpenSpec.ofChange tideTurnsWrong)

/- THE SECOND FORM. 'bulk': how many values and letters a reading holds, each counted each time it is reached (what is shared counts as often as it is met; a slice's spare places count too). A statement '..UptoSaid' is the law's where the arguments, and the package variables that the reading takes, are together of bulk at most 1048576: NARROWER than '..Said'. Prove '..Said' where nothing that the law and all that it calls make is longer than what came in: it says more and counts as full. Else prove '..UptoSaid'. A law counts once. -/
mutual
def uptoBulk {H : Type} : DataW H → Nat
  | .lit (.string bytes) => bytes.length + 1
  | .lit _ => 1
  | .nil => 1
  | .ptr d => uptoBulk d + 1
  | .slice elems spare => uptoBulkAll elems + uptoBulkAll spare + 1
  | .agg parts => uptoBulkAll parts + 1
  | .iface _ d => uptoBulk d + 1
  | .map entries => uptoBulkEntries entries + 1
  | .held _ => 1
def uptoBulkAll {H : Type} : List (DataW H) → Nat
  | [] => 0
  | d :: r => uptoBulk d + uptoBulkAll r
def uptoBulkEntries {H : Type} : List (Lit × DataW H) → Nat
  | [] => 0
  | x :: r => uptoBulkEntry x + uptoBulkEntries r
def uptoBulkEntry {H : Type} : Lit × DataW H → Nat
  | (.string bytes, d) => bytes.length + uptoBulk d + 1
  | (_, d) => uptoBulk d + 1
 end
def uptoSmall : (H : Type) → List (DataW H) → Bool := fun _ ds => decide (uptoBulkAll ds ≤ 1048576)
def OpenSpec.upto (s : _root_.Go.ChangeSpec) : _root_.Go.OpenSpec := { _root_.Go.OpenSpec.ofChange s with cond := some uptoSmall }

/-- 'dragheadlaw02.TideLevels', WHERE WHAT IT READS IS OF BULK AT MOST 1048576: true; the input reads as it did. -/
def tideLevelsUptoRow : OpenClaim := { program := "ytcgfcbmlmfbknaa", sum := "bf291b0cf0ff4dced450a916273a48682cf218c3acdfc78b8a1aa7032948353a", func := "draghead/dragheadlaw02.TideLevels", spec := "tideLevels", unfollowed := true, recurses := true, apart := false, narrowed := true }
def TideLevelsUptoSaid : Prop := tideLevelsUptoRow.holds Try.pinned (OpenSpec.upto tideLevelsSpec)

/-- 'dragheadlaw02.TideSimple', WHERE WHAT IT READS IS OF BULK AT MOST 1048576: true; the input reads as it did. -/
def tideSimpleUptoRow : OpenClaim := { program := "ytcgfcbmlmfbknaa", sum := "bf291b0cf0ff4dced450a916273a48682cf218c3acdfc78b8a1aa7032948353a", func := "draghead/dragheadlaw02.TideSimple", spec := "tideSimple", unfollowed := true, recurses := true, apart := false, narrowed := true }
def TideSimpleUptoSaid : Prop := tideSimpleUptoRow.holds Try.pinned (OpenSpec.upto tideSimpleSpec)

/-- 'dragheadlaw02.TideShifts', WHERE WHAT IT READS IS OF BULK AT MOST 1048576: true; the input reads as it did. -/
def tideShiftsUptoRow : OpenClaim := { program := "ytcgfcbmlmfbknaa", sum := "bf291b0cf0ff4dced450a916273a48682cf218c3acdfc78b8a1aa7032948353a", func := "draghead/dragheadlaw02.TideShifts", spec := "tideShifts", unfollowed := true, recurses := true, apart := false, narrowed := true }
def TideShiftsUptoSaid : Prop := tideShiftsUptoRow.holds Try.pinned (OpenSpec.upto tideShiftsSpec)

/-- 'dragheadlaw02.TideTwelfths', WHERE WHAT IT READS IS OF BULK AT MOST 1048576: true; the input reads as it did. -/
def tideTwelfthsUptoRow : OpenClaim := { program := "ytcgfcbmlmfbknaa", sum := "bf291b0cf0ff4dced450a916273a48682cf218c3acdfc78b8a1aa7032948353a", func := "draghead/dragheadlaw02.TideTwelfths", spec := "tideTwelfths", unfollowed := true, recurses := true, apart := false, narrowed := true }
def TideTwelfthsUptoSaid : Prop := tideTwelfthsUptoRow.holds Try.pinned (OpenSpec.upto tideTwelfthsSpec)

/-- 'dragheadlaw02.TideSeen', WHERE WHAT IT READS IS OF BULK AT MOST 1048576: true; the input reads as it did. -/
def tideSeenUptoRow : OpenClaim := { program := "ytcgfcbmlmfbknaa", sum := "bf291b0cf0ff4dced450a916273a48682cf218c3acdfc78b8a1aa7032948353a", func := "draghead/dragheadlaw02.TideSeen", spec := "tideSeen", unfollowed := true, recurses := true, apart := false, narrowed := true }
def TideSeenUptoSaid : Prop := tideSeenUptoRow.holds Try.pinned (OpenSpec.upto tideSeenSpec)

/-- 'dragheadlaw02.TidePlaces', WHERE WHAT IT READS IS OF BULK AT MOST 1048576: true; the input reads as it did. -/
def tidePlacesUptoRow : OpenClaim := { program := "ytcgfcbmlmfbknaa", sum := "bf291b0cf0ff4dced450a916273a48682cf218c3acdfc78b8a1aa7032948353a", func := "draghead/dragheadlaw02.TidePlaces", spec := "tidePlaces", unfollowed := true, recurses := true, apart := false, narrowed := true }
def TidePlacesUptoSaid : Prop := tidePlacesUptoRow.holds Try.pinned (OpenSpec.upto tidePlacesSpec)

/-- 'dragheadlaw02.TideBetween', WHERE WHAT IT READS IS OF BULK AT MOST 1048576: true; the input reads as it did. -/
def tideBetweenUptoRow : OpenClaim := { program := "ytcgfcbmlmfbknaa", sum := "bf291b0cf0ff4dced450a916273a48682cf218c3acdfc78b8a1aa7032948353a", func := "draghead/dragheadlaw02.TideBetween", spec := "tideBetween", unfollowed := true, recurses := true, apart := false, narrowed := true }
def TideBetweenUptoSaid : Prop := tideBetweenUptoRow.holds Try.pinned (OpenSpec.upto tideBetweenSpec)

/-- 'dragheadlaw02.TideSpans', WHERE WHAT IT READS IS OF BULK AT MOST 1048576: true; the input reads as it did. -/
def tideSpansUptoRow : OpenClaim := { program := "ytcgfcbmlmfbknaa", sum := "bf291b0cf0ff4dced450a916273a48682cf218c3acdfc78b8a1aa7032948353a", func := "draghead/dragheadlaw02.TideSpans", spec := "tideSpans", unfollowed := true, recurses := true, apart := false, narrowed := true }
def TideSpansUptoSaid : Prop := tideSpansUptoRow.holds Try.pinned (OpenSpec.upto tideSpansSpec)

/-- 'dragheadlaw02.TideNested', WHERE WHAT IT READS IS OF BULK AT MOST 1048576: true; the input reads as it did. -/
def tideNestedUptoRow : OpenClaim := { program := "ytcgfcbmlmfbknaa", sum := "bf291b0cf0ff4dced450a916273a48682cf218c3acdfc78b8a1aa7032948353a", func := "draghead/dragheadlaw02.TideNested", spec := "tideNested", unfollowed := true, recurses := true, apart := false, narrowed := true }
def TideNestedUptoSaid : Prop := tideNestedUptoRow.holds Try.pinned (OpenSpec.upto tideNestedSpec)

/-- 'dragheadlaw02.TideWindows', WHERE WHAT IT READS IS OF BULK AT MOST 1048576: true; the input reads as it did. -/
def tideWindowsUptoRow : OpenClaim := { program := "ytcgfcbmlmfbknaa", sum := "bf291b0cf0ff4dced450a916273a48682cf218c3acdfc78b8a1aa7032948353a", func := "draghead/dragheadlaw02.TideWindows", spec := "tideWindows", unfollowed := true, recurses := true, apart := false, narrowed := true }
def TideWindowsUptoSaid : Prop := tideWindowsUptoRow.holds Try.pinned (OpenSpec.upto tideWindowsSpec)

/-- 'dragheadlaw02.TideMerges', WHERE WHAT IT READS IS OF BULK AT MOST 1048576: true; the input reads as it did. -/
def tideMergesUptoRow : OpenClaim := { program := "ytcgfcbmlmfbknaa", sum := "bf291b0cf0ff4dced450a916273a48682cf218c3acdfc78b8a1aa7032948353a", func := "draghead/dragheadlaw02.TideMerges", spec := "tideMerges", unfollowed := true, recurses := true, apart := false, narrowed := true }
def TideMergesUptoSaid : Prop := tideMergesUptoRow.holds Try.pinned (OpenSpec.upto tideMergesSpec)

/-- 'dragheadlaw02.TideTurns', WHERE WHAT IT READS IS OF BULK AT MOST 1048576: true; the input reads as it did. -/
def tideTurnsUptoRow : OpenClaim := { program := "ytcgfcbmlmfbknaa", sum := "bf291b0cf0ff4dced450a916273a48682cf218c3acdfc78b8a1aa7032948353a", func := "draghead/dragheadlaw02.TideTurns", spec := "tideTurns", unfollowed := true, recurses := true, apart := false, narrowed := true }
def TideTurnsUptoSaid : Prop := tideTurnsUptoRow.holds Try.pinned (OpenSpec.upto tideTurnsSpec)

end Rows
end Go.Proofs.Ytcgfcbmlmfbknaa
