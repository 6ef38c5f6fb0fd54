/- TideSeen: for every input the law answers true, and its arguments read behind the call as before. No condition. -/
import Derived.Test.YtcgfcbmlmfbknaaTwW
import Derived.Test.YtcgfcbmlmfbknaaTwZ
import Derived.Test.YtcgfcbmlmfbknaaRows
namespace Go.Proofs.Ytcgfcbmlmfbknaa
open Go Go.Vm Go.Proofs.Try Go.ChangeShapes Go.WideShapes Go.RowKit
theorem tideSeen_own : ownKnob Try.prog.godebug = none := by kernel_rfl
set_option maxRecDepth 100000 in
theorem tideSeen_lifted (os : Os) (started : os.Started) (H : Type) (enc : TypeId × Value → H) :
    ReturnsInHanded {} Try.checked os 7 .any (Rows.tideSeenSpec.pre6 enc Try.prog Try.f7 [] false) (Rows.tideSeenSpec.post enc Try.prog Try.f7 false true false false) := by
  refine returnsInHanded_of_change (C := Try.checked) tideSeen_own started (by kernel_rfl) Try.func7
    (ChangeSpec.witness6 (C := Try.checked) false ⟨#[], #[.agg #[.string ⟨#[]⟩, .int .i64 0, .int .i64 0, .slice none 0 0], .slice none 0 0], []⟩ 8 (by kernel_rfl) (by kernel_rfl) (by kernel_rfl) (by kernel_rfl)) ?_
  intro W base args ds gs before hval hW _ _
  refine law_of_ev (P := Try.prog) tysOk (by kernel_rfl) 12 [(true, cGauge), (false, [.sl true cMark])] (by kernel_rfl) (by kernel_rfl) rfl (by kernel_rfl) (tb := 4) (by kernel_rfl) ?_ ?_ W base args ds gs before hval hW
  · intro ds hds
    match ds, hds with
    | [d0, d1], _ => rfl
  · intro xs hx
    match xs, hx with
    | [a0, a1], hx =>
      obtain ⟨g0, rfl⟩ := gauge_of hx.1
      obtain ⟨l1, rfl⟩ := marks_of (one_of hx.2.1)
      exact ev_TideSeen g0 l1
theorem TideSeen_holds : Rows.TideSeenSaid :=
  OpenClaim.holds_of_wide 7 Try.f7 rfl rfl rfl rfl rfl rfl rfl ⟨rfl, rfl, rfl, rfl, rfl⟩ rfl rfl rfl rfl rfl (by kernel_rfl) Try.func7 (by kernel_rfl)
    (of_decide_eq_true (by kernel_rfl)) (by unfold Func.isWrapper; first | (rw [if_pos (by decide +kernel)]; kernel_rfl) | (rw [if_neg (by decide +kernel)]; exact ⟨rfl, rfl⟩))
    (fun os started H enc _ => tideSeen_lifted os started H enc)
end Go.Proofs.Ytcgfcbmlmfbknaa
