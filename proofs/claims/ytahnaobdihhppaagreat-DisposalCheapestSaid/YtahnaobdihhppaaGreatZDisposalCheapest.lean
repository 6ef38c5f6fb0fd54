/- DisposalCheapest: for every input the law answers true, and its arguments read behind the call as before. No condition. -/
import Derived.Test.YtahnaobdihhppaaGreatRows
import Derived.Test.YtahnaobdihhppaaGreatMgA
import Derived.Test.YtahnaobdihhppaaGreatMgB
import Derived.Test.YtahnaobdihhppaaGreatMgC
import Derived.Test.YtahnaobdihhppaaGreatMgD
import Derived.Test.YtahnaobdihhppaaGreatMgE
import Derived.Test.YtahnaobdihhppaaGreatMgF
import Derived.Test.YtahnaobdihhppaaGreatMgG
import Derived.Test.YtahnaobdihhppaaGreatMgH
import Derived.Test.YtahnaobdihhppaaGreatMgI
import Derived.Test.YtahnaobdihhppaaGreatMgJ
import Derived.Test.YtahnaobdihhppaaGreatMpd
namespace Go.Proofs.YtahnaobdihhppaaGreat
open Go Go.Vm Go.Proofs.Tryz Go.ChangeShapes Go.WideShapes Go.RowKit
theorem disposalCheapest_own : ownKnob Tryz.prog.godebug = none := by kernel_rfl
set_option maxRecDepth 100000 in
theorem disposalCheapest_lifted (os : Os) (started : os.Started) (H : Type) (enc : TypeId × Value → H) :
    ReturnsInHanded {} Tryz.checked os 3 .any (Rows.disposalCheapestSpec.pre6 enc Tryz.prog Tryz.f3 [] false) (Rows.disposalCheapestSpec.post enc Tryz.prog Tryz.f3 false true false false) := by
  refine returnsInHanded_of_change (C := Tryz.checked) disposalCheapest_own started (by kernel_rfl) Tryz.func3
    (ChangeSpec.witness6 (C := Tryz.checked) false ⟨#[], #[.agg #[.slice none 0 0, .slice none 0 0, .slice none 0 0, .slice none 0 0], .slice none 0 0], []⟩ 8 (by kernel_rfl) (by kernel_rfl) (by kernel_rfl) (by kernel_rfl)) ?_
  intro W base args ds gs before hval hW _ _
  refine law_of_ev (P := Tryz.prog) tysOk (by kernel_rfl) 12 [(true, cYard), (false, [.sl true cBat])] (by kernel_rfl) (by kernel_rfl) rfl (by kernel_rfl) (tb := 4) (by kernel_rfl) ?_ ?_ W base args ds gs before hval hW
  · intro ds hds
    match ds, hds with
    | [d0, d1], _ => rfl
  · intro xs hx
    match xs, hx with
    | [a0, a1], hx =>
      obtain ⟨y0, rfl⟩ := yard_of hx.1
      obtain ⟨l1, rfl⟩ := bats_of (one_of hx.2.1)
      exact ev_DisposalCheapest' y0 l1
theorem DisposalCheapest_holds : Rows.DisposalCheapestSaid :=
  OpenClaim.holds_of_wide 3 Tryz.f3 rfl rfl rfl rfl rfl rfl rfl ⟨rfl, rfl, rfl, rfl, rfl⟩ rfl rfl rfl rfl rfl (by kernel_rfl) Tryz.func3 (by kernel_rfl)
    (of_decide_eq_true (by kernel_rfl)) (by unfold Func.isWrapper; first | (rw [if_pos (by decide +kernel)]; kernel_rfl) | (rw [if_neg (by decide +kernel)]; exact ⟨rfl, rfl⟩))
    (fun os started H enc _ => disposalCheapest_lifted os started H enc)
end Go.Proofs.YtahnaobdihhppaaGreat
