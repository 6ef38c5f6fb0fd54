/- TideSimple: its contract. -/
import Derived.Test.YticnipadahihhaaTwG
namespace Go.Proofs.Try
open Go Go.Vm
set_option maxRecDepth 20000
set_option maxHeartbeats 2000000
theorem gz_len : gzG.marks.length < 1000000 := by decide
end Go.Proofs.Try
