/- DisposalMemory: for every input the law answers true, and its arguments read behind the call as before. No condition. -/
import Derived.Test.YtnnknecjjfjolaaRows
import Derived.Test.YtnnknecjjfjolaaMgA
import Derived.Test.YtnnknecjjfjolaaMgB
import Derived.Test.YtnnknecjjfjolaaMgC
import Derived.Test.YtnnknecjjfjolaaMgD
import Derived.Test.YtnnknecjjfjolaaMgE
import Derived.Test.YtnnknecjjfjolaaMgF
import Derived.Test.YtnnknecjjfjolaaMgG
import Derived.Test.YtnnknecjjfjolaaMgH
import Derived.Test.YtnnknecjjfjolaaMgI
import Derived.Test.YtnnknecjjfjolaaMgJ
import Derived.Test.YtnnknecjjfjolaaMpb
namespace Go.Proofs.Ytnnknecjjfjolaa
open Go Go.Vm Go.Proofs.Try Go.ChangeShapes Go.WideShapes Go.RowKit
theorem disposalMemory_own : ownKnob Try.prog.godebug = none := by kernel_rfl
set_option maxRecDepth 100000 in
theorem disposalMemory_lifted (os : Os) (started : os.Started) (H : Type) (enc : TypeId × Value → H) :
    ReturnsInHanded {} Try.checked os 3 .any (Rows.disposalMemorySpec.pre6 enc Try.prog Try.f3 [] false) (Rows.disposalMemorySpec.post enc Try.prog Try.f3 false true false false) := by
  refine returnsInHanded_of_change (C := Try.checked) disposalMemory_own started (by kernel_rfl) Try.func3
    (ChangeSpec.witness6 (C := Try.checked) false ⟨#[], #[.agg #[.slice none 0 0, .slice none 0 0, .slice none 0 0, .slice none 0 0], .agg #[.int .i64 0, .int .i64 0, .int .i64 0, .string ⟨#[]⟩, .int .i64 0]], []⟩ 8 (by kernel_rfl) (by kernel_rfl) (by kernel_rfl) (by kernel_rfl)) ?_
  intro W base args ds gs before hval hW _ _
  refine law_of_ev (P := Try.prog) tysOk (by kernel_rfl) 12 [(true, cYard), (true, cBat)] (by kernel_rfl) (by kernel_rfl) rfl (by kernel_rfl) (tb := 4) (by kernel_rfl) ?_ ?_ W base args ds gs before hval hW
  · intro ds hds
    match ds, hds with
    | [d0, d1], _ => rfl
  · intro xs hx
    match xs, hx with
    | [a0, a1], hx =>
      obtain ⟨y0, rfl⟩ := yard_of hx.1
      obtain ⟨b1, rfl⟩ := bat_of hx.2.1
      exact ev_DisposalMemory' y0 b1
theorem DisposalMemory_holds : Rows.DisposalMemorySaid :=
  OpenClaim.holds_of_wide 3 Try.f3 rfl rfl rfl rfl rfl rfl rfl ⟨rfl, rfl, rfl, rfl, rfl⟩ rfl rfl rfl rfl rfl (by kernel_rfl) Try.func3 (by kernel_rfl)
    (of_decide_eq_true (by kernel_rfl)) (by unfold Func.isWrapper; first | (rw [if_pos (by decide +kernel)]; kernel_rfl) | (rw [if_neg (by decide +kernel)]; exact ⟨rfl, rfl⟩))
    (fun os started H enc _ => disposalMemory_lifted os started H enc)
end Go.Proofs.Ytnnknecjjfjolaa
