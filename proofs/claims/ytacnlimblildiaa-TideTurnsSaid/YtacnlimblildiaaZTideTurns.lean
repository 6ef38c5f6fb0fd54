/- TideTurns: for every input the law answers true, and its arguments read behind the call as before. No condition. -/
import Derived.Test.YtacnlimblildiaaMpd
import Derived.Test.YtacnlimblildiaaMpc
import Derived.Test.YtacnlimblildiaaRows
namespace Go.Proofs.Ytacnlimblildiaa
open Go Go.Vm Go.Proofs.Try Go.ChangeShapes Go.WideShapes Go.RowKit
theorem tideTurns_own : ownKnob Try.prog.godebug = none := by kernel_rfl
set_option maxRecDepth 100000 in
theorem tideTurns_lifted (os : Os) (started : os.Started) (H : Type) (enc : TypeId × Value → H) :
    ReturnsInHanded {} Try.checked os 4 .any (Rows.tideTurnsSpec.pre6 enc Try.prog Try.f4 [] false) (Rows.tideTurnsSpec.post enc Try.prog Try.f4 false true false false) := by
  refine returnsInHanded_of_change (C := Try.checked) tideTurns_own started (by kernel_rfl) Try.func4
    (ChangeSpec.witness6 (C := Try.checked) false ⟨#[], #[.agg #[.string ⟨#[]⟩, .int .i64 0, .int .i64 0, .slice none 0 0]], []⟩ 8 (by kernel_rfl) (by kernel_rfl) (by kernel_rfl) (by kernel_rfl)) ?_
  intro W base args ds gs before hval hW _ _
  refine law_of_ev (P := Try.prog) tysOk (by kernel_rfl) 12 [(true, cGauge)] (by kernel_rfl) (by kernel_rfl) rfl (by kernel_rfl) (tb := 4) (by kernel_rfl) ?_ ?_ W base args ds gs before hval hW
  · intro ds hds
    match ds, hds with
    | [d0], _ => rfl
  · intro xs hx
    match xs, hx with
    | [a0], hx =>
      obtain ⟨g0, rfl⟩ := gauge_of hx.1
      exact ev_TideTurns g0
theorem TideTurns_holds : Rows.TideTurnsSaid :=
  OpenClaim.holds_of_wide 4 Try.f4 rfl rfl rfl rfl rfl rfl rfl ⟨rfl, rfl, rfl, rfl, rfl⟩ rfl rfl rfl rfl rfl (by kernel_rfl) Try.func4 (by kernel_rfl)
    (of_decide_eq_true (by kernel_rfl)) (by unfold Func.isWrapper; first | (rw [if_pos (by decide +kernel)]; kernel_rfl) | (rw [if_neg (by decide +kernel)]; exact ⟨rfl, rfl⟩))
    (fun os started H enc _ => tideTurns_lifted os started H enc)
end Go.Proofs.Ytacnlimblildiaa
