/-
  No cell of these rows narrows 'for every input' (looked for: loops, veiled, ifaces, maps, wideKeys, modest, calm, conditions, laid).
  DERIVED. THE GIVEN ROWS OF THIS SEAT. 4 by the template 'for every input the law returns true; each argument reads behind the call as it read before'; 0 by the template 'total and deterministic' (their statements: YtahnaobdihhppaaGreatTotals.lean).
  GIVEN WITH THE SEED: the statements are not yours to turn. If you find one false, say at which input.
  Laid BY PROGRAM, IN A SANDBOX (cutbox-rows.mjs): the forced cells as the released guide's own fill.sh prints them over the translation fdbe0adec43e93fc… (all of the seat's roots in one cut). By AI agents, Wed Nov 11 2026. No macro, syntax, notation, axiom, sorry.
-/
import Derived.Test.YtahnaobdihhppaaGreatChecked
import GoSem.Claim
import GoSem.ClaimJoined
import GoSem.ClaimMapViews
import Derived.JoinedTies
import Derived.KernelRfl
namespace Go.Proofs.YtahnaobdihhppaaGreat
/- THE CELL 'sum', in the pinned program and in every row, IS THE sha256 OF THE DUMP (.gsa) THAT YtahnaobdihhppaaGreatProg.lean LOADS. Nothing in Lean hashes anything: it is a label: what it is worth is what the hold of that sum in a sandbox is worth. -/
noncomputable def Tryz.pinned : Pinned := { name := "ytahnaobdihhppaagreat", sum := "fdbe0adec43e93fc34d1754339596e3ccc78a10735a3ea456178bf93858df862", checked := Tryz.checked }
namespace Rows
def none {H : Type} : Left H := { results := [], args := [] }

/-- 'dragheadlaw09.DisposalCheapest': WHATEVER THE INPUT: true; the input reads as it did. -/
def disposalCheapestSpec : ChangeSpec := { name := "disposalCheapest", fn := fun _ => fun
  | [d1, d2] => { results := [.lit (.bool true)], args := [d1, d2] }
  | _ => none }
def disposalCheapestRow : OpenClaim := { program := "ytahnaobdihhppaagreat", sum := "fdbe0adec43e93fc34d1754339596e3ccc78a10735a3ea456178bf93858df862", func := "draghead/dragheadlaw09.DisposalCheapest", spec := "disposalCheapest", unfollowed := true, recurses := true, apart := false }
def DisposalCheapestSaid : Prop := disposalCheapestRow.holds Tryz.pinned (OpenSpec.ofChange disposalCheapestSpec)

/-- ITS FALSE NEIGHBOUR: 'it returns false'. Refute it at one input. -/
def disposalCheapestWrong : ChangeSpec := { name := "disposalCheapest", fn := fun _ => fun
  | [d1, d2] => { results := [.lit (.bool false)], args := [d1, d2] }
  | _ => none }
def DisposalCheapestWrongFalsely : Prop := disposalCheapestRow.holds Tryz.pinned (OpenSpec.ofChange disposalCheapestWrong)

/-- 'dragheadlaw09.DisposalCuts': WHATEVER THE INPUT: true; the input reads as it did. -/
def disposalCutsSpec : ChangeSpec := { name := "disposalCuts", fn := fun _ => fun
  | [d1, d2, d3] => { results := [.lit (.bool true)], args := [d1, d2, d3] }
  | _ => none }
def disposalCutsRow : OpenClaim := { program := "ytahnaobdihhppaagreat", sum := "fdbe0adec43e93fc34d1754339596e3ccc78a10735a3ea456178bf93858df862", func := "draghead/dragheadlaw09.DisposalCuts", spec := "disposalCuts", unfollowed := true, recurses := true, apart := false }
def DisposalCutsSaid : Prop := disposalCutsRow.holds Tryz.pinned (OpenSpec.ofChange disposalCutsSpec)

/-- ITS FALSE NEIGHBOUR: 'it returns false'. Refute it at one input. -/
def disposalCutsWrong : ChangeSpec := { name := "disposalCuts", fn := fun _ => fun
  | [d1, d2, d3] => { results := [.lit (.bool false)], args := [d1, d2, d3] }
  | _ => none }
def DisposalCutsWrongFalsely : Prop := disposalCutsRow.holds Tryz.pinned (OpenSpec.ofChange disposalCutsWrong)

/-- 'dragheadlaw09.DisposalShares': WHATEVER THE INPUT: true; the input reads as it did. -/
def disposalSharesSpec : ChangeSpec := { name := "disposalShares", fn := fun _ => fun
  | [d1, d2, d3] => { results := [.lit (.bool true)], args := [d1, d2, d3] }
  | _ => none }
def disposalSharesRow : OpenClaim := { program := "ytahnaobdihhppaagreat", sum := "fdbe0adec43e93fc34d1754339596e3ccc78a10735a3ea456178bf93858df862", func := "draghead/dragheadlaw09.DisposalShares", spec := "disposalShares", unfollowed := true, recurses := true, apart := false }
def DisposalSharesSaid : Prop := disposalSharesRow.holds Tryz.pinned (OpenSpec.ofChange disposalSharesSpec)

/-- ITS FALSE NEIGHBOUR: 'it returns false'. Refute it at one input. -/
def disposalSharesWrong : ChangeSpec := { name := "disposalShares", fn := fun _ => fun
  | [d1, d2, d3] => { results := [.lit (.bool false)], args := [d1, d2, d3] }
  | _ => none }
def DisposalSharesWrongFalsely : Prop := disposalSharesRow.holds Tryz.pinned (OpenSpec.ofChange disposalSharesWrong)

/-- 'dragheadlaw09.DisposalAssigns': WHATEVER THE INPUT: true; the input reads as it did. -/
def disposalAssignsSpec : ChangeSpec := { name := "disposalAssigns", fn := fun _ => fun
  | [d1, d2] => { results := [.lit (.bool true)], args := [d1, d2] }
  | _ => none }
def disposalAssignsRow : OpenClaim := { program := "ytahnaobdihhppaagreat", sum := "fdbe0adec43e93fc34d1754339596e3ccc78a10735a3ea456178bf93858df862", func := "draghead/dragheadlaw09.DisposalAssigns", spec := "disposalAssigns", unfollowed := true, recurses := true, apart := false }
def DisposalAssignsSaid : Prop := disposalAssignsRow.holds Tryz.pinned (OpenSpec.ofChange disposalAssignsSpec)

/-- ITS FALSE NEIGHBOUR: 'it returns false'. Refute it at one input. -/
def disposalAssignsWrong : ChangeSpec := { name := "disposalAssigns", fn := fun _ => fun
  | [d1, d2] => { results := [.lit (.bool false)], args := [d1, d2] }
  | _ => none }
def DisposalAssignsWrongFalsely : Prop := disposalAssignsRow.holds Tryz.pinned (OpenSpec.ofChange disposalAssignsWrong)

/- THE SECOND FORM. 'bulk': how many values and letters a reading holds, each counted each time it is reached (what is shared counts as often as it is met; a slice's spare places count too). A statement '..UptoSaid' is the law's where the arguments, and the package variables that the reading takes, are together of bulk at most 1048576: NARROWER than '..Said'. Prove '..Said' where nothing that the law and all that it calls make is longer than what came in: it says more and counts as full. Else prove '..UptoSaid'. A law counts once. -/
mutual
def uptoBulk {H : Type} : DataW H → Nat
  | .lit (.string bytes) => bytes.length + 1
  | .lit _ => 1
  | .nil => 1
  | .ptr d => uptoBulk d + 1
  | .slice elems spare => uptoBulkAll elems + uptoBulkAll spare + 1
  | .agg parts => uptoBulkAll parts + 1
  | .iface _ d => uptoBulk d + 1
  | .map entries => uptoBulkEntries entries + 1
  | .held _ => 1
def uptoBulkAll {H : Type} : List (DataW H) → Nat
  | [] => 0
  | d :: r => uptoBulk d + uptoBulkAll r
def uptoBulkEntries {H : Type} : List (Lit × DataW H) → Nat
  | [] => 0
  | x :: r => uptoBulkEntry x + uptoBulkEntries r
def uptoBulkEntry {H : Type} : Lit × DataW H → Nat
  | (.string bytes, d) => bytes.length + uptoBulk d + 1
  | (_, d) => uptoBulk d + 1
 end
def uptoSmall : (H : Type) → List (DataW H) → Bool := fun _ ds => decide (uptoBulkAll ds ≤ 1048576)
def OpenSpec.upto (s : _root_.Go.ChangeSpec) : _root_.Go.OpenSpec := { _root_.Go.OpenSpec.ofChange s with cond := some uptoSmall }

/-- 'dragheadlaw09.DisposalCheapest', WHERE WHAT IT READS IS OF BULK AT MOST 1048576: true; the input reads as it did. -/
def disposalCheapestUptoRow : OpenClaim := { program := "ytahnaobdihhppaagreat", sum := "fdbe0adec43e93fc34d1754339596e3ccc78a10735a3ea456178bf93858df862", func := "draghead/dragheadlaw09.DisposalCheapest", spec := "disposalCheapest", unfollowed := true, recurses := true, apart := false, narrowed := true }
def DisposalCheapestUptoSaid : Prop := disposalCheapestUptoRow.holds Tryz.pinned (OpenSpec.upto disposalCheapestSpec)

/-- 'dragheadlaw09.DisposalCuts', WHERE WHAT IT READS IS OF BULK AT MOST 1048576: true; the input reads as it did. -/
def disposalCutsUptoRow : OpenClaim := { program := "ytahnaobdihhppaagreat", sum := "fdbe0adec43e93fc34d1754339596e3ccc78a10735a3ea456178bf93858df862", func := "draghead/dragheadlaw09.DisposalCuts", spec := "disposalCuts", unfollowed := true, recurses := true, apart := false, narrowed := true }
def DisposalCutsUptoSaid : Prop := disposalCutsUptoRow.holds Tryz.pinned (OpenSpec.upto disposalCutsSpec)

/-- 'dragheadlaw09.DisposalShares', WHERE WHAT IT READS IS OF BULK AT MOST 1048576: true; the input reads as it did. -/
def disposalSharesUptoRow : OpenClaim := { program := "ytahnaobdihhppaagreat", sum := "fdbe0adec43e93fc34d1754339596e3ccc78a10735a3ea456178bf93858df862", func := "draghead/dragheadlaw09.DisposalShares", spec := "disposalShares", unfollowed := true, recurses := true, apart := false, narrowed := true }
def DisposalSharesUptoSaid : Prop := disposalSharesUptoRow.holds Tryz.pinned (OpenSpec.upto disposalSharesSpec)

/-- 'dragheadlaw09.DisposalAssigns', WHERE WHAT IT READS IS OF BULK AT MOST 1048576: true; the input reads as it did. -/
def disposalAssignsUptoRow : OpenClaim := { program := "ytahnaobdihhppaagreat", sum := "fdbe0adec43e93fc34d1754339596e3ccc78a10735a3ea456178bf93858df862", func := "draghead/dragheadlaw09.DisposalAssigns", spec := "disposalAssigns", unfollowed := true, recurses := true, apart := false, narrowed := true }
def DisposalAssignsUptoSaid : Prop := disposalAssignsUptoRow.holds Tryz.pinned (OpenSpec.upto disposalAssignsSpec)

end Rows
end Go.Proofs.YtahnaobdihhppaaGreat
