/- TripHoppers: for every input the law answers true, and its arguments read behind the call as before. No condition. -/
import Derived.Test.YtgfaonnajdoeoaaTrF
import Derived.Test.YtgfaonnajdoeoaaTwZ
import Derived.Test.YtgfaonnajdoeoaaRows
namespace Go.Proofs.Ytgfaonnajdoeoaa
open Go Go.Vm Go.Proofs.Try Go.ChangeShapes Go.WideShapes Go.RowKit
theorem tripHoppers_own : ownKnob Try.prog.godebug = none := by kernel_rfl
set_option maxRecDepth 100000 in
theorem tripHoppers_lifted (os : Os) (started : os.Started) (H : Type) (enc : TypeId × Value → H) :
    ReturnsInHanded {} Try.checked os 3 .any (Rows.tripHoppersSpec.pre6 enc Try.prog Try.f3 [] false) (Rows.tripHoppersSpec.post enc Try.prog Try.f3 false true false false) := by
  refine returnsInHanded_of_change (C := Try.checked) tripHoppers_own started (by kernel_rfl) Try.func3
    (ChangeSpec.witness6 (C := Try.checked) false ⟨#[], #[.agg #[.string ⟨#[]⟩, .int .i64 0, .slice none 0 0], .int .i64 0, .int .i64 0], []⟩ 8 (by kernel_rfl) (by kernel_rfl) (by kernel_rfl) (by kernel_rfl)) ?_
  intro W base args ds gs before hval hW _ _
  refine law_of_ev (P := Try.prog) tysOk (by kernel_rfl) 12 [(true, cHop), (false, [.int .i64]), (false, [.int .i64])] (by kernel_rfl) (by kernel_rfl) rfl (by kernel_rfl) (tb := 4) (by kernel_rfl) ?_ ?_ W base args ds gs before hval hW
  · intro ds hds
    match ds, hds with
    | [d0, d1, d2], _ => rfl
  · intro xs hx
    match xs, hx with
    | [a0, a1, a2], hx =>
      obtain ⟨h0, rfl⟩ := hop_of hx.1
      obtain ⟨n1, rfl, hn1⟩ := int_of (one_of hx.2.1)
      obtain ⟨n2, rfl, hn2⟩ := int_of (one_of hx.2.2.1)
      exact ev_TripHoppers h0 n1 n2
theorem TripHoppers_holds : Rows.TripHoppersSaid :=
  OpenClaim.holds_of_wide 3 Try.f3 rfl rfl rfl rfl rfl rfl rfl ⟨rfl, rfl, rfl, rfl, rfl⟩ rfl rfl rfl rfl rfl (by kernel_rfl) Try.func3 (by kernel_rfl)
    (of_decide_eq_true (by kernel_rfl)) (by unfold Func.isWrapper; first | (rw [if_pos (by decide +kernel)]; kernel_rfl) | (rw [if_neg (by decide +kernel)]; exact ⟨rfl, rfl⟩))
    (fun os started H enc _ => tripHoppers_lifted os started H enc)
end Go.Proofs.Ytgfaonnajdoeoaa
