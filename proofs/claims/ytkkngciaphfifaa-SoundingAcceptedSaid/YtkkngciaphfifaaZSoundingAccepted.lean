/- SoundingAccepted: for every input the law answers true, and its arguments read behind the call as before. No condition. -/
import Derived.Test.YtkkngciaphfifaaMpf
import Derived.Test.YtkkngciaphfifaaMpd
import Derived.Test.YtkkngciaphfifaaRows
namespace Go.Proofs.Ytkkngciaphfifaa
open Go Go.Vm Go.Proofs.Try Go.ChangeShapes Go.WideShapes Go.RowKit
theorem soundingAccepted_own : ownKnob Try.prog.godebug = none := by kernel_rfl
set_option maxRecDepth 100000 in
theorem soundingAccepted_lifted (os : Os) (started : os.Started) (H : Type) (enc : TypeId × Value → H) :
    ReturnsInHanded {} Try.checked os 3 .any (Rows.soundingAcceptedSpec.pre6 enc Try.prog Try.f3 [] false) (Rows.soundingAcceptedSpec.post enc Try.prog Try.f3 false true false false) := by
  refine returnsInHanded_of_change (C := Try.checked) soundingAccepted_own started (by kernel_rfl) Try.func3
    (ChangeSpec.witness6 (C := Try.checked) false ⟨#[], #[.slice none 0 0, .int .i64 0, .agg #[.slice none 0 0, .slice none 0 0]], []⟩ 8 (by kernel_rfl) (by kernel_rfl) (by kernel_rfl) (by kernel_rfl)) ?_
  intro W base args ds gs before hval hW _ _
  refine law_of_ev (P := Try.prog) tysOk (by kernel_rfl) 12 [(false, [.sl true cSg]), (false, [.int .i64]), (true, cThin)] (by kernel_rfl) (by kernel_rfl) rfl (by kernel_rfl) (tb := 4) (by kernel_rfl) ?_ ?_ W base args ds gs before hval hW
  · intro ds hds
    match ds, hds with
    | [d0, d1, d2], _ => rfl
  · intro xs hx
    match xs, hx with
    | [a0, a1, a2], hx =>
      obtain ⟨l0, rfl⟩ := sgs_of (one_of hx.1)
      obtain ⟨n1, rfl, hn1⟩ := int_of (one_of hx.2.1)
      obtain ⟨k2, g2, rfl⟩ := thinned_of hx.2.2.1
      exact ev_SoundingAccepted l0 n1 k2 g2
theorem SoundingAccepted_holds : Rows.SoundingAcceptedSaid :=
  OpenClaim.holds_of_wide 3 Try.f3 rfl rfl rfl rfl rfl rfl rfl ⟨rfl, rfl, rfl, rfl, rfl⟩ rfl rfl rfl rfl rfl (by kernel_rfl) Try.func3 (by kernel_rfl)
    (of_decide_eq_true (by kernel_rfl)) (by unfold Func.isWrapper; first | (rw [if_pos (by decide +kernel)]; kernel_rfl) | (rw [if_neg (by decide +kernel)]; exact ⟨rfl, rfl⟩))
    (fun os started H enc _ => soundingAccepted_lifted os started H enc)
end Go.Proofs.Ytkkngciaphfifaa
