/- TopCheapestLoads: for every input the law answers true, and its arguments read behind the call as before. No condition. -/
import Derived.Test.YtocplkidmjejbaaRows
import Derived.Test.YtocplkidmjejbaaMgA
import Derived.Test.YtocplkidmjejbaaMgB
import Derived.Test.YtocplkidmjejbaaMgC
import Derived.Test.YtocplkidmjejbaaMgD
import Derived.Test.YtocplkidmjejbaaMgE
import Derived.Test.YtocplkidmjejbaaMgF
import Derived.Test.YtocplkidmjejbaaMgG
import Derived.Test.YtocplkidmjejbaaMgH
import Derived.Test.YtocplkidmjejbaaMgI
import Derived.Test.YtocplkidmjejbaaMgJ
import Derived.Test.YtocplkidmjejbaaMpc
namespace Go.Proofs.Ytocplkidmjejbaa
open Go Go.Vm Go.Proofs.Try Go.ChangeShapes Go.WideShapes Go.RowKit
theorem topCheapestLoads_own : ownKnob Try.prog.godebug = none := by kernel_rfl
set_option maxRecDepth 100000 in
theorem topCheapestLoads_lifted (os : Os) (started : os.Started) (H : Type) (enc : TypeId × Value → H) :
    ReturnsInHanded {} Try.checked os 4 .any (Rows.topCheapestLoadsSpec.pre6 enc Try.prog Try.f4 [] false) (Rows.topCheapestLoadsSpec.post enc Try.prog Try.f4 false true false false) := by
  refine returnsInHanded_of_change (C := Try.checked) topCheapestLoads_own started (by kernel_rfl) Try.func4
    (ChangeSpec.witness6 (C := Try.checked) false ⟨#[], #[.agg #[.slice none 0 0, .slice none 0 0, .slice none 0 0, .slice none 0 0], .slice none 0 0, .agg #[.slice none 0 0, .slice none 0 0, .int .u8 0, .int .u8 0]], []⟩ 8 (by kernel_rfl) (by kernel_rfl) (by kernel_rfl) (by kernel_rfl)) ?_
  intro W base args ds gs before hval hW _ _
  refine law_of_ev (P := Try.prog) tysOk (by kernel_rfl) 12 [(true, cYard), (false, [.sl true cBat]), (true, cAtt)] (by kernel_rfl) (by kernel_rfl) rfl (by kernel_rfl) (tb := 4) (by kernel_rfl) ?_ ?_ W base args ds gs before hval hW
  · intro ds hds
    match ds, hds with
    | [d0, d1, d2], _ => rfl
  · intro xs hx
    match xs, hx with
    | [a0, a1, a2], hx =>
      obtain ⟨y0, rfl⟩ := yard_of hx.1
      obtain ⟨l1, rfl, hl1⟩ := batsL_of (one_of hx.2.1)
      obtain ⟨x2, c2, p2, q2, rfl, hp2, hq2⟩ := att_of hx.2.2.1
      exact ev_TopCheapestLoads' y0 l1 hl1 x2 c2 p2 q2 hp2 hq2
theorem TopCheapestLoads_holds : Rows.TopCheapestLoadsSaid :=
  OpenClaim.holds_of_wide 4 Try.f4 rfl rfl rfl rfl rfl rfl rfl ⟨rfl, rfl, rfl, rfl, rfl⟩ rfl rfl rfl rfl rfl (by kernel_rfl) Try.func4 (by kernel_rfl)
    (of_decide_eq_true (by kernel_rfl)) (by unfold Func.isWrapper; first | (rw [if_pos (by decide +kernel)]; kernel_rfl) | (rw [if_neg (by decide +kernel)]; exact ⟨rfl, rfl⟩))
    (fun os started H enc _ => topCheapestLoads_lifted os started H enc)
end Go.Proofs.Ytocplkidmjejbaa
