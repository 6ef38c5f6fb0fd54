/- DisposalKept: for every input the law answers true, and its arguments read behind the call as before. No condition. -/
import Derived.Test.YtahnaobdihhppaaRows
import Derived.Test.YtahnaobdihhppaaMgA
import Derived.Test.YtahnaobdihhppaaMgB
import Derived.Test.YtahnaobdihhppaaMgC
import Derived.Test.YtahnaobdihhppaaMgD
import Derived.Test.YtahnaobdihhppaaMgE
import Derived.Test.YtahnaobdihhppaaMgF
import Derived.Test.YtahnaobdihhppaaMgG
import Derived.Test.YtahnaobdihhppaaMgH
import Derived.Test.YtahnaobdihhppaaMgI
import Derived.Test.YtahnaobdihhppaaMgJ
import Derived.Test.YtahnaobdihhppaaMpa
namespace Go.Proofs.Ytahnaobdihhppaa
open Go Go.Vm Go.Proofs.Try Go.ChangeShapes Go.WideShapes Go.RowKit
theorem disposalKept_own : ownKnob Try.prog.godebug = none := by kernel_rfl
set_option maxRecDepth 100000 in
theorem disposalKept_lifted (os : Os) (started : os.Started) (H : Type) (enc : TypeId × Value → H) :
    ReturnsInHanded {} Try.checked os 7 .any (Rows.disposalKeptSpec.pre6 enc Try.prog Try.f7 [] false) (Rows.disposalKeptSpec.post enc Try.prog Try.f7 false true false false) := by
  refine returnsInHanded_of_change (C := Try.checked) disposalKept_own started (by kernel_rfl) Try.func7
    (ChangeSpec.witness6 (C := Try.checked) false ⟨#[], #[.agg #[.slice none 0 0, .slice none 0 0, .slice none 0 0, .slice none 0 0], .slice none 0 0], []⟩ 8 (by kernel_rfl) (by kernel_rfl) (by kernel_rfl) (by kernel_rfl)) ?_
  intro W base args ds gs before hval hW _ _
  refine law_of_ev (P := Try.prog) tysOk (by kernel_rfl) 12 [(true, cYard), (false, [.sl true cBat])] (by kernel_rfl) (by kernel_rfl) rfl (by kernel_rfl) (tb := 4) (by kernel_rfl) ?_ ?_ W base args ds gs before hval hW
  · intro ds hds
    match ds, hds with
    | [d0, d1], _ => rfl
  · intro xs hx
    match xs, hx with
    | [a0, a1], hx =>
      obtain ⟨y0, rfl⟩ := yard_of hx.1
      obtain ⟨l1, rfl⟩ := bats_of (one_of hx.2.1)
      exact ev_DisposalKept' y0 l1
theorem DisposalKept_holds : Rows.DisposalKeptSaid :=
  OpenClaim.holds_of_wide 7 Try.f7 rfl rfl rfl rfl rfl rfl rfl ⟨rfl, rfl, rfl, rfl, rfl⟩ rfl rfl rfl rfl rfl (by kernel_rfl) Try.func7 (by kernel_rfl)
    (of_decide_eq_true (by kernel_rfl)) (by unfold Func.isWrapper; first | (rw [if_pos (by decide +kernel)]; kernel_rfl) | (rw [if_neg (by decide +kernel)]; exact ⟨rfl, rfl⟩))
    (fun os started H enc _ => disposalKept_lifted os started H enc)
end Go.Proofs.Ytahnaobdihhppaa
