/- TideSimple: its contract. -/
import Derived.Test.YtcgfcbmlmfbknaaTwG
namespace Go.Proofs.Try
open Go Go.Vm
set_option maxRecDepth 20000
set_option maxHeartbeats 2000000
theorem gz_len : gzG.marks.length < 1000000 := by decide
theorem ev_SimplifyE (g : Ga) (h : gErr g ≠ 0) : Ev Try.prog 21 [gD g] (.tup [gD gzG, .int .i64 (gErr g)]) := by
  refine ev_of_awp tysOk mixed (fn := Try.f21) Try.func21 rfl rfl rfl ?_
  conv => whnf
  repeat' (first
    | ((with_reducible refine Split.of_true ?_); conv => whnf)
    | ((with_reducible refine Split.of_false ?_); conv => whnf)
    | ((with_reducible refine Split.neg ?_))
    | ((with_reducible refine Split.is_true ?_ ?_); decide; conv => whnf)
    | ((with_reducible refine Split.is_false ?_ ?_); decide; conv => whnf)
    | ((with_reducible refine Split.nez (fun _ => ?_) (fun _ => ?_)) <;> conv => whnf)
    | ((with_reducible refine Split.eqz (fun _ => ?_) (fun _ => ?_)) <;> conv => whnf)
    | ((with_reducible refine Split.and ?_))
    | ((with_reducible refine Split.or ?_))
    | ((with_reducible refine Split.streq (fun _ => ?_) (fun _ => ?_)) <;> conv => whnf)
    | ((with_reducible refine Split.dec (fun _ => ?_) (fun _ => ?_)) <;> conv => whnf)
    | ((with_reducible refine Split.mk (fun _ => ?_) (fun _ => ?_)) <;> conv => whnf)
    | ((with_reducible refine Need.mk ?_ ?_); (first | omega | rfl | decide | (refine ⟨?_, ?_⟩ <;> simp <;> omega) | (simp; omega)); conv => whnf)
    | ((with_reducible refine Wr.inr ?_ ?_); (first | omega | (simp; omega)); conv => whnf)
    | ((with_reducible refine Wr.inu ?_ ?_); omega; conv => whnf)
    | (refine CallK.mk _ (ev_CheckGauge g) ?_; conv => whnf)
    | (exfalso; first | omega | contradiction))
  rfl
theorem ev_TideSimple (g : Ga) (t : Int) : Ev Try.prog 4 [gD g, .int .i64 t] (.bool true) := by
  by_cases h : gErr g = 0
  · have hS := ev_Simplify g h
    have hR := ev_SimplifyR g (good_of h)
    have hA := ev_At g t
    have hB := ev_At (simpG g) t
    rw [simpG_At h t] at hB
    have hG := good_of (simpG_ok h)
    have hE := ev_same (simpG g) (simpG g) (by have := hG.len; omega)
    rw [eqB_self] at hE
    change Ev Try.prog 21 [gD g] (.tup [gD (simpG g), .int .i64 0]) at hS
    change Ev Try.prog 24 [gD g] (gD (simpG g)) at hR
    unfold At3D at hA hB
    generalize AtS g t = x at hA hB
    obtain ⟨lo, hi, e⟩ := x
    refine ev_of_awp tysOk mixed (fn := Try.f4) Try.func4 rfl rfl rfl ?_
    conv => whnf
    repeat' (first
      | ((with_reducible refine Split.of_true ?_); conv => whnf)
      | ((with_reducible refine Split.of_false ?_); conv => whnf)
      | ((with_reducible refine Split.neg ?_))
      | ((with_reducible refine Split.is_true ?_ ?_); decide; conv => whnf)
      | ((with_reducible refine Split.is_false ?_ ?_); decide; conv => whnf)
      | ((with_reducible refine Split.nez (fun _ => ?_) (fun _ => ?_)) <;> conv => whnf)
      | ((with_reducible refine Split.eqz (fun _ => ?_) (fun _ => ?_)) <;> conv => whnf)
      | ((with_reducible refine Split.and ?_))
      | ((with_reducible refine Split.or ?_))
      | ((with_reducible refine Split.streq (fun _ => ?_) (fun _ => ?_)) <;> conv => whnf)
      | ((with_reducible refine Split.dec (fun _ => ?_) (fun _ => ?_)) <;> conv => whnf)
      | ((with_reducible refine Split.mk (fun _ => ?_) (fun _ => ?_)) <;> conv => whnf)
      | ((with_reducible refine Need.mk ?_ ?_); (first | omega | rfl | decide | (refine ⟨?_, ?_⟩ <;> simp <;> omega) | (simp; omega)); conv => whnf)
      | ((with_reducible refine Wr.inr ?_ ?_); (first | omega | (simp; omega)); conv => whnf)
      | ((with_reducible refine Wr.inu ?_ ?_); omega; conv => whnf)
      | (refine CallK.mk _ (ev_awake) ?_; conv => whnf)
      | (refine CallK.mk _ (ev_Short g) ?_; conv => whnf)
      | (refine CallK.mk _ (hS) ?_; conv => whnf)
      | (refine CallK.mk _ (ev_CheckGaugeR g) ?_; conv => whnf)
      | (refine CallK.mk _ (hR) ?_; conv => whnf)
      | (refine CallK.mk _ (hE) ?_; conv => whnf)
      | (refine CallK.mk _ (hA) ?_; conv => whnf)
      | (refine CallK.mk _ (hB) ?_; conv => whnf)
      | (exfalso; first | omega | contradiction))
    all_goals first | rfl | simp [retOf]
  · have hS := ev_SimplifyE g h
    have hE := ev_none gzG gz_len
    rw [eqB_self] at hE
    refine ev_of_awp tysOk mixed (fn := Try.f4) Try.func4 rfl rfl rfl ?_
    conv => whnf
    repeat' (first
      | ((with_reducible refine Split.of_true ?_); conv => whnf)
      | ((with_reducible refine Split.of_false ?_); conv => whnf)
      | ((with_reducible refine Split.neg ?_))
      | ((with_reducible refine Split.is_true ?_ ?_); decide; conv => whnf)
      | ((with_reducible refine Split.is_false ?_ ?_); decide; conv => whnf)
      | ((with_reducible refine Split.nez (fun _ => ?_) (fun _ => ?_)) <;> conv => whnf)
      | ((with_reducible refine Split.eqz (fun _ => ?_) (fun _ => ?_)) <;> conv => whnf)
      | ((with_reducible refine Split.and ?_))
      | ((with_reducible refine Split.or ?_))
      | ((with_reducible refine Split.streq (fun _ => ?_) (fun _ => ?_)) <;> conv => whnf)
      | ((with_reducible refine Split.dec (fun _ => ?_) (fun _ => ?_)) <;> conv => whnf)
      | ((with_reducible refine Split.mk (fun _ => ?_) (fun _ => ?_)) <;> conv => whnf)
      | ((with_reducible refine Need.mk ?_ ?_); (first | omega | rfl | decide | (refine ⟨?_, ?_⟩ <;> simp <;> omega) | (simp; omega)); conv => whnf)
      | ((with_reducible refine Wr.inr ?_ ?_); (first | omega | (simp; omega)); conv => whnf)
      | ((with_reducible refine Wr.inu ?_ ?_); omega; conv => whnf)
      | (refine CallK.mk _ (ev_awake) ?_; conv => whnf)
      | (refine CallK.mk _ (ev_Short g) ?_; conv => whnf)
      | (refine CallK.mk _ (hS) ?_; conv => whnf)
      | (refine CallK.mk _ (ev_CheckGaugeR g) ?_; conv => whnf)
      | (refine CallK.mk _ (hE) ?_; conv => whnf)
      | (exfalso; first | omega | contradiction))
    all_goals first | rfl | simp [retOf]
end Go.Proofs.Try
