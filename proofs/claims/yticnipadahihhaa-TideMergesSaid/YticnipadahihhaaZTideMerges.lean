/- TideMerges: for every input the law answers true, and its arguments read behind the call as before. No condition. -/
import Derived.Test.YticnipadahihhaaTvK
import Derived.Test.YticnipadahihhaaTwZ
import Derived.Test.YticnipadahihhaaRows
namespace Go.Proofs.Yticnipadahihhaa
open Go Go.Vm Go.Proofs.Try Go.ChangeShapes Go.WideShapes Go.RowKit
theorem tideMerges_own : ownKnob Try.prog.godebug = none := by kernel_rfl
set_option maxRecDepth 100000 in
theorem tideMerges_lifted (os : Os) (started : os.Started) (H : Type) (enc : TypeId × Value → H) :
    ReturnsInHanded {} Try.checked os 3 .any (Rows.tideMergesSpec.pre6 enc Try.prog Try.f3 [] false) (Rows.tideMergesSpec.post enc Try.prog Try.f3 false true false false) := by
  refine returnsInHanded_of_change (C := Try.checked) tideMerges_own started (by kernel_rfl) Try.func3
    (ChangeSpec.witness6 (C := Try.checked) false ⟨#[], #[.agg #[.string ⟨#[]⟩, .int .i64 0, .int .i64 0, .slice none 0 0], .agg #[.string ⟨#[]⟩, .int .i64 0, .int .i64 0, .slice none 0 0]], []⟩ 8 (by kernel_rfl) (by kernel_rfl) (by kernel_rfl) (by kernel_rfl)) ?_
  intro W base args ds gs before hval hW _ _
  refine law_of_ev (P := Try.prog) tysOk (by kernel_rfl) 12 [(true, cGauge), (true, cGauge)] (by kernel_rfl) (by kernel_rfl) rfl (by kernel_rfl) (tb := 4) (by kernel_rfl) ?_ ?_ W base args ds gs before hval hW
  · intro ds hds
    match ds, hds with
    | [d0, d1], _ => rfl
  · intro xs hx
    match xs, hx with
    | [a0, a1], hx =>
      obtain ⟨g0, rfl⟩ := gauge_of hx.1
      obtain ⟨g1, rfl⟩ := gauge_of hx.2.1
      exact ev_TideMerges g0 g1
theorem TideMerges_holds : Rows.TideMergesSaid :=
  OpenClaim.holds_of_wide 3 Try.f3 rfl rfl rfl rfl rfl rfl rfl ⟨rfl, rfl, rfl, rfl, rfl⟩ rfl rfl rfl rfl rfl (by kernel_rfl) Try.func3 (by kernel_rfl)
    (of_decide_eq_true (by kernel_rfl)) (by unfold Func.isWrapper; first | (rw [if_pos (by decide +kernel)]; kernel_rfl) | (rw [if_neg (by decide +kernel)]; exact ⟨rfl, rfl⟩))
    (fun os started H enc _ => tideMerges_lifted os started H enc)
end Go.Proofs.Yticnipadahihhaa
