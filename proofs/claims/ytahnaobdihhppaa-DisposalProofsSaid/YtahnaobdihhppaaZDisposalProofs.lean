/- DisposalProofs: for every input the law answers true, and its arguments read behind the call as before. No condition. -/
import Derived.Test.YtahnaobdihhppaaRows
import Derived.Test.YtahnaobdihhppaaMgA
import Derived.Test.YtahnaobdihhppaaMgB
import Derived.Test.YtahnaobdihhppaaMgC
import Derived.Test.YtahnaobdihhppaaMgD
import Derived.Test.YtahnaobdihhppaaMgE
import Derived.Test.YtahnaobdihhppaaMgF
import Derived.Test.YtahnaobdihhppaaMgG
import Derived.Test.YtahnaobdihhppaaMgH
import Derived.Test.YtahnaobdihhppaaMgI
import Derived.Test.YtahnaobdihhppaaMgJ
import Derived.Test.YtahnaobdihhppaaMpd
namespace Go.Proofs.Ytahnaobdihhppaa
open Go Go.Vm Go.Proofs.Try Go.ChangeShapes Go.WideShapes Go.RowKit
theorem disposalProofs_own : ownKnob Try.prog.godebug = none := by kernel_rfl
set_option maxRecDepth 100000 in
theorem disposalProofs_lifted (os : Os) (started : os.Started) (H : Type) (enc : TypeId × Value → H) :
    ReturnsInHanded {} Try.checked os 10 .any (Rows.disposalProofsSpec.pre6 enc Try.prog Try.f10 [] false) (Rows.disposalProofsSpec.post enc Try.prog Try.f10 false true false false) := by
  refine returnsInHanded_of_change (C := Try.checked) disposalProofs_own started (by kernel_rfl) Try.func10
    (ChangeSpec.witness6 (C := Try.checked) false ⟨#[], #[.agg #[.slice none 0 0, .slice none 0 0, .slice none 0 0, .slice none 0 0], .agg #[.slice none 0 0, .slice none 0 0, .slice none 0 0, .int .i64 0, .slice none 0 0, .slice none 0 0]], []⟩ 8 (by kernel_rfl) (by kernel_rfl) (by kernel_rfl) (by kernel_rfl)) ?_
  intro W base args ds gs before hval hW _ _
  refine law_of_ev (P := Try.prog) tysOk (by kernel_rfl) 12 [(true, cYard), (true, cBid)] (by kernel_rfl) (by kernel_rfl) rfl (by kernel_rfl) (tb := 4) (by kernel_rfl) ?_ ?_ W base args ds gs before hval hW
  · intro ds hds
    match ds, hds with
    | [d0, d1], _ => rfl
  · intro xs hx
    match xs, hx with
    | [a0, a1], hx =>
      obtain ⟨y0, rfl⟩ := yard_of hx.1
      obtain ⟨b1, rfl⟩ := bid_of hx.2.1
      exact ev_DisposalProofs' y0 b1
theorem DisposalProofs_holds : Rows.DisposalProofsSaid :=
  OpenClaim.holds_of_wide 10 Try.f10 rfl rfl rfl rfl rfl rfl rfl ⟨rfl, rfl, rfl, rfl, rfl⟩ rfl rfl rfl rfl rfl (by kernel_rfl) Try.func10 (by kernel_rfl)
    (of_decide_eq_true (by kernel_rfl)) (by unfold Func.isWrapper; first | (rw [if_pos (by decide +kernel)]; kernel_rfl) | (rw [if_neg (by decide +kernel)]; exact ⟨rfl, rfl⟩))
    (fun os started H enc _ => disposalProofs_lifted os started H enc)
end Go.Proofs.Ytahnaobdihhppaa
