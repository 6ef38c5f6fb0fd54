/- SoundingParts: for every input the law answers true, and its arguments read behind the call as before. No condition. -/
import Derived.Test.YtomfefffkodgdaaGreatRows
import Derived.Test.YtomfefffkodgdaaGreatMgA
import Derived.Test.YtomfefffkodgdaaGreatMgB
import Derived.Test.YtomfefffkodgdaaGreatMgC
import Derived.Test.YtomfefffkodgdaaGreatMgD
import Derived.Test.YtomfefffkodgdaaGreatMgE
import Derived.Test.YtomfefffkodgdaaGreatMgF
import Derived.Test.YtomfefffkodgdaaGreatMgG
import Derived.Test.YtomfefffkodgdaaGreatMgH
import Derived.Test.YtomfefffkodgdaaGreatMgI
import Derived.Test.YtomfefffkodgdaaGreatMgJ
import Derived.Test.YtomfefffkodgdaaGreatMpb
namespace Go.Proofs.YtomfefffkodgdaaGreat
open Go Go.Vm Go.Proofs.Tryz Go.ChangeShapes Go.WideShapes Go.RowKit
theorem soundingParts_own : ownKnob Tryz.prog.godebug = none := by kernel_rfl
set_option maxRecDepth 100000 in
theorem soundingParts_lifted (os : Os) (started : os.Started) (H : Type) (enc : TypeId × Value → H) :
    ReturnsInHanded {} Tryz.checked os 4 .any (Rows.soundingPartsSpec.pre6 enc Tryz.prog Tryz.f4 [] false) (Rows.soundingPartsSpec.post enc Tryz.prog Tryz.f4 false true false false) := by
  refine returnsInHanded_of_change (C := Tryz.checked) soundingParts_own started (by kernel_rfl) Tryz.func4
    (ChangeSpec.witness6 (C := Tryz.checked) false ⟨#[], #[.slice none 0 0, .slice none 0 0, .int .i64 0], []⟩ 8 (by kernel_rfl) (by kernel_rfl) (by kernel_rfl) (by kernel_rfl)) ?_
  intro W base args ds gs before hval hW _ _
  refine law_of_ev (P := Tryz.prog) tysOk (by kernel_rfl) 12 [(false, [.sl true cSg]), (false, [.sl false [.int .i64]]), (false, [.int .i64])] (by kernel_rfl) (by kernel_rfl) rfl (by kernel_rfl) (tb := 4) (by kernel_rfl) ?_ ?_ W base args ds gs before hval hW
  · intro ds hds
    match ds, hds with
    | [d0, d1, d2], _ => rfl
  · intro xs hx
    match xs, hx with
    | [a0, a1, a2], hx =>
      obtain ⟨l0, rfl⟩ := sgs_of (one_of hx.1)
      obtain ⟨l1, rfl⟩ := ints_of (one_of hx.2.1)
      obtain ⟨n2, rfl, hn2⟩ := int_of (one_of hx.2.2.1)
      exact ev_SoundingParts l0 l1 n2
theorem SoundingParts_holds : Rows.SoundingPartsSaid :=
  OpenClaim.holds_of_wide 4 Tryz.f4 rfl rfl rfl rfl rfl rfl rfl ⟨rfl, rfl, rfl, rfl, rfl⟩ rfl rfl rfl rfl rfl (by kernel_rfl) Tryz.func4 (by kernel_rfl)
    (of_decide_eq_true (by kernel_rfl)) (by unfold Func.isWrapper; first | (rw [if_pos (by decide +kernel)]; kernel_rfl) | (rw [if_neg (by decide +kernel)]; exact ⟨rfl, rfl⟩))
    (fun os started H enc _ => soundingParts_lifted os started H enc)
end Go.Proofs.YtomfefffkodgdaaGreat
