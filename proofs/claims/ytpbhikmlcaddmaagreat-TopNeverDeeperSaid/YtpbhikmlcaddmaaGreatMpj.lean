/- Texts TpCz, joined; what is not needed is left out. -/
import Derived.Test.YtpbhikmlcaddmaaGreatMpi
import Derived.Test.YtpbhikmlcaddmaaGreatMpg
section
namespace Go.Proofs.Tryz
open Go Go.Vm Go.Sort
/-! A survey as an argument. -/
def cSurvey : List Cs := [.sl true cGauge, .sl true cRaw, .int .i64, .int .i64, .int .i64, .int .i64, .int .i64, .sl false [.int .i64], .int .i64]
theorem sv_of {d : D} (h : TyV (true, cSurvey) d) : ∃ v, d = svD v := by
  obtain ⟨ds, rfl, hl, hc⟩ := agg_of h
  match ds, hl with
  | [a, b, c, e, f, i, j, k, m], _ =>
    obtain ⟨g, rfl⟩ := gauges_of (hc 0 _ a rfl rfl)
    obtain ⟨r, rfl⟩ := raws_of (hc 1 _ b rfl rfl)
    obtain ⟨x0, rfl, -⟩ := int_of (hc 2 _ c rfl rfl)
    obtain ⟨x1, rfl, -⟩ := int_of (hc 3 _ e rfl rfl)
    obtain ⟨x2, rfl, -⟩ := int_of (hc 4 _ f rfl rfl)
    obtain ⟨x3, rfl, -⟩ := int_of (hc 5 _ i rfl rfl)
    obtain ⟨x4, rfl, -⟩ := int_of (hc 6 _ j rfl rfl)
    obtain ⟨l, rfl⟩ := ints_of (hc 7 _ k rfl rfl)
    obtain ⟨x5, rfl, -⟩ := int_of (hc 8 _ m rfl rfl)
    exact ⟨⟨g, r, ⟨x0, x1, x2, x3, x4, l⟩, x5⟩, rfl⟩
end Go.Proofs.Tryz
end
