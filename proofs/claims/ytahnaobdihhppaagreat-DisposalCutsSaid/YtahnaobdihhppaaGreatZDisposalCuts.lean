/- DisposalCuts: for every input the law answers true, and its arguments read behind the call as before. No condition. -/
import Derived.Test.YtahnaobdihhppaaGreatRows
import Derived.Test.YtahnaobdihhppaaGreatMgA
import Derived.Test.YtahnaobdihhppaaGreatMgB
import Derived.Test.YtahnaobdihhppaaGreatMgC
import Derived.Test.YtahnaobdihhppaaGreatMgD
import Derived.Test.YtahnaobdihhppaaGreatMgE
import Derived.Test.YtahnaobdihhppaaGreatMgF
import Derived.Test.YtahnaobdihhppaaGreatMgG
import Derived.Test.YtahnaobdihhppaaGreatMgH
import Derived.Test.YtahnaobdihhppaaGreatMgI
import Derived.Test.YtahnaobdihhppaaGreatMgJ
import Derived.Test.YtahnaobdihhppaaGreatMpc
namespace Go.Proofs.YtahnaobdihhppaaGreat
open Go Go.Vm Go.Proofs.Tryz Go.ChangeShapes Go.WideShapes Go.RowKit
theorem disposalCuts_own : ownKnob Tryz.prog.godebug = none := by kernel_rfl
set_option maxRecDepth 100000 in
theorem disposalCuts_lifted (os : Os) (started : os.Started) (H : Type) (enc : TypeId × Value → H) :
    ReturnsInHanded {} Tryz.checked os 4 .any (Rows.disposalCutsSpec.pre6 enc Tryz.prog Tryz.f4 [] false) (Rows.disposalCutsSpec.post enc Tryz.prog Tryz.f4 false true false false) := by
  refine returnsInHanded_of_change (C := Tryz.checked) disposalCuts_own started (by kernel_rfl) Tryz.func4
    (ChangeSpec.witness6 (C := Tryz.checked) false ⟨#[], #[.agg #[.slice none 0 0, .slice none 0 0, .slice none 0 0, .slice none 0 0], .slice none 0 0, .slice none 0 0], []⟩ 8 (by kernel_rfl) (by kernel_rfl) (by kernel_rfl) (by kernel_rfl)) ?_
  intro W base args ds gs before hval hW _ _
  refine law_of_ev (P := Tryz.prog) tysOk (by kernel_rfl) 12 [(true, cYard), (false, [.sl true cBat]), (false, [.sl false [.int .i64]])] (by kernel_rfl) (by kernel_rfl) rfl (by kernel_rfl) (tb := 4) (by kernel_rfl) ?_ ?_ W base args ds gs before hval hW
  · intro ds hds
    match ds, hds with
    | [d0, d1, d2], _ => rfl
  · intro xs hx
    match xs, hx with
    | [a0, a1, a2], hx =>
      obtain ⟨y0, rfl⟩ := yard_of hx.1
      obtain ⟨l1, rfl⟩ := bats_of (one_of hx.2.1)
      obtain ⟨l2, rfl⟩ := ints_of9 (one_of hx.2.2.1)
      exact ev_DisposalCuts' y0 l1 l2
theorem DisposalCuts_holds : Rows.DisposalCutsSaid :=
  OpenClaim.holds_of_wide 4 Tryz.f4 rfl rfl rfl rfl rfl rfl rfl ⟨rfl, rfl, rfl, rfl, rfl⟩ rfl rfl rfl rfl rfl (by kernel_rfl) Tryz.func4 (by kernel_rfl)
    (of_decide_eq_true (by kernel_rfl)) (by unfold Func.isWrapper; first | (rw [if_pos (by decide +kernel)]; kernel_rfl) | (rw [if_neg (by decide +kernel)]; exact ⟨rfl, rfl⟩))
    (fun os started H enc _ => disposalCuts_lifted os started H enc)
end Go.Proofs.YtahnaobdihhppaaGreat
