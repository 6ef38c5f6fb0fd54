/- Openings of views. -/
import Derived.Test.YtcgfcbmlmfbknaaTwO
import Derived.Test.YtcgfcbmlmfbknaaTwZ
namespace Go.Proofs.Try
open Go Go.Vm
def cView : List Cs := [.sl true cGauge, .int .i64, .int .i64, .int .i64]
theorem i64_of {n : Int} (h : (Lit.int .i64 n).wf = true) : -9223372036854775808 ≤ n ∧ n ≤ 9223372036854775807 := by
  simp [Lit.wf, IntKind.min, IntKind.max, IntKind.signed, IntKind.bits] at h
  omega
theorem u8_of {n : Int} (h : (Lit.int .u8 n).wf = true) : 0 ≤ n ∧ n ≤ 255 := by
  simp [Lit.wf, IntKind.min, IntKind.max, IntKind.signed, IntKind.bits] at h
  omega
theorem view_of {d : D} (h : TyV (true, cView) d) : ∃ v, d = vD v := by
  obtain ⟨ds, rfl, hl, hc⟩ := agg_of h
  match ds, hl with
  | [a, b, c, e], _ =>
    obtain ⟨l, rfl⟩ := gauges_of (hc 0 _ a rfl rfl)
    obtain ⟨x, rfl, -⟩ := int_of (hc 1 _ b rfl rfl)
    obtain ⟨y, rfl, -⟩ := int_of (hc 2 _ c rfl rfl)
    obtain ⟨z, rfl, -⟩ := int_of (hc 3 _ e rfl rfl)
    exact ⟨⟨l, x, (y, z)⟩, rfl⟩
end Go.Proofs.Try
