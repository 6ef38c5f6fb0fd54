import Derived.Test.YtgfaonnajdoeoaaTrE
import Derived.Test.YtgfaonnajdoeoaaTwZ
namespace Go.Proofs.Try
open Go Go.Vm
set_option maxRecDepth 20000
set_option maxHeartbeats 2000000
def cHop : List Cs := [.str, .int .i64, .sl true cMark]
theorem line_of {d : D} (h : TyV (true, cMark) d) : ∃ m, d = lnD m := by
  obtain ⟨m, rfl⟩ := mark_of h
  exact ⟨⟨m.m, m.l⟩, rfl⟩
theorem hop_of {d : D} (h : TyV (true, cHop) d) : ∃ g, d = hpD g := by
  obtain ⟨ds, rfl, hl, hc⟩ := agg_of h
  match ds, hl with
  | [a, b, e], _ =>
    obtain ⟨s, rfl, -⟩ := str_of (hc 0 _ a rfl rfl)
    obtain ⟨x, rfl, -⟩ := int_of (hc 1 _ b rfl rfl)
    obtain ⟨es, rfl, he, -⟩ := sl_of (hc 2 _ e rfl rfl)
    obtain ⟨l, rfl⟩ := map_of (fun d hd => line_of hd) he
    exact ⟨⟨s, x, l⟩, rfl⟩
def bargeH : Hp := ⟨⟨#[104]⟩, 1000, [⟨0, 200⟩, ⟨1000, 300⟩]⟩
theorem ev_barge : Ev Try.prog 19 [] (hpD bargeH) := by
  refine ev_of_awp tysOk mixed (fn := Try.f19) Try.func19 rfl rfl rfl ?_
  conv => whnf
  repeat' (first
    | ((with_reducible refine Split.of_true ?_); conv => whnf)
    | ((with_reducible refine Split.of_false ?_); conv => whnf)
    | ((with_reducible refine Split.neg ?_))
    | ((with_reducible refine Split.is_true ?_ ?_); decide; conv => whnf)
    | ((with_reducible refine Split.is_false ?_ ?_); decide; conv => whnf)
    | ((with_reducible refine Split.nez (fun _ => ?_) (fun _ => ?_)) <;> conv => whnf)
    | ((with_reducible refine Split.eqz (fun _ => ?_) (fun _ => ?_)) <;> conv => whnf)
    | ((with_reducible refine Split.and ?_))
    | ((with_reducible refine Split.or ?_))
    | ((with_reducible refine Split.streq (fun _ => ?_) (fun _ => ?_)) <;> conv => whnf)
    | ((with_reducible refine Split.dec (fun _ => ?_) (fun _ => ?_)) <;> conv => whnf)
    | ((with_reducible refine Split.mk (fun _ => ?_) (fun _ => ?_)) <;> conv => whnf)
    | ((with_reducible refine Need.mk ?_ ?_); (first | omega | rfl | decide | (refine ⟨?_, ?_⟩ <;> simp <;> omega) | (simp; omega)); conv => whnf)
    | ((with_reducible refine Wr.quo ?_ ?_ ?_ ?_); omega; omega; omega; conv => whnf)
    | ((with_reducible refine Wr.inr ?_ ?_); (first | omega | (simp; omega)); conv => whnf)
    | ((with_reducible refine Wr.inu ?_ ?_); omega; conv => whnf)
    | (exfalso; first | omega | contradiction))
  rfl
theorem barge_at : draE bargeH 501 = 0 ∧ draV bargeH 501 = 251 := by decide
theorem ev_awake08 : Ev Try.prog 5 [] (.bool true) := by
  have h := ev_Draught bargeH 501
  rw [barge_at.1, barge_at.2] at h
  refine ev_of_awp tysOk mixed (fn := Try.f5) Try.func5 rfl rfl rfl ?_
  conv => whnf
  repeat' (first
    | ((with_reducible refine Split.of_true ?_); conv => whnf)
    | ((with_reducible refine Split.of_false ?_); conv => whnf)
    | ((with_reducible refine Split.neg ?_))
    | ((with_reducible refine Split.is_true ?_ ?_); decide; conv => whnf)
    | ((with_reducible refine Split.is_false ?_ ?_); decide; conv => whnf)
    | ((with_reducible refine Split.nez (fun _ => ?_) (fun _ => ?_)) <;> conv => whnf)
    | ((with_reducible refine Split.eqz (fun _ => ?_) (fun _ => ?_)) <;> conv => whnf)
    | ((with_reducible refine Split.and ?_))
    | ((with_reducible refine Split.or ?_))
    | ((with_reducible refine Split.streq (fun _ => ?_) (fun _ => ?_)) <;> conv => whnf)
    | ((with_reducible refine Split.dec (fun _ => ?_) (fun _ => ?_)) <;> conv => whnf)
    | ((with_reducible refine Split.mk (fun _ => ?_) (fun _ => ?_)) <;> conv => whnf)
    | ((with_reducible refine Need.mk ?_ ?_); (first | omega | rfl | decide | (refine ⟨?_, ?_⟩ <;> simp <;> omega) | (simp; omega)); conv => whnf)
    | ((with_reducible refine Wr.quo ?_ ?_ ?_ ?_); omega; omega; omega; conv => whnf)
    | ((with_reducible refine Wr.inr ?_ ?_); (first | omega | (simp; omega)); conv => whnf)
    | ((with_reducible refine Wr.inu ?_ ?_); omega; conv => whnf)
    | (refine CallK.mk _ (ev_barge) ?_; conv => whnf)
    | (refine CallK.mk _ (h) ?_; conv => whnf)
    | (exfalso; first | omega | contradiction))
  rfl
theorem ev_TripHoppers (h : Hp) (t d : Int) : Ev Try.prog 3 [hpD h, iD t, iD d] (.bool true) := by
  have hlen : (h.lines.map lnD).length = h.lines.length := List.length_map _
  have hD := ev_Draught h t
  have hDR := ev_DraughtR h t
  have hM := ev_MassAt h d
  have hMR := ev_MassAtR h d
  by_cases h0 : masE h d = 0
  · have hh : hopErr h = 0 ∧ outsideB d 0 5000 = false ∧ ¬ d < h.lines[0]?.elim 0 Ln.d := by
      unfold masE at h0
      split at h0
      · contradiction
      · rename_i h1
        split at h0
        · cases h0
        · rename_i h2
          split at h0
          · cases h0
          · rename_i h3
            exact ⟨by simpa using h1, by simpa using h2, h3⟩
    obtain ⟨hG, -⟩ := hop_good hh.1
    obtain ⟨y, z, hy, hz, hyz⟩ := hop_ends hG
    have ky := hG.ok y (List.mem_of_getElem? hy)
    have kz := hG.ok z (List.mem_of_getElem? hz)
    have hyd : y.d ≤ d := by have := hh.2.2; rw [hy] at this; simp at this; omega
    have em : masV h d = bs (fun n => decide (ladeS h.lines n ≤ d)) y.m z.m := by rw [masV, if_pos h0, hy, hz]; rfl
    obtain ⟨b1, b2, b3, b4⟩ := bs_spec (fun n => decide (ladeS h.lines n ≤ d)) z.m y.m z.m (by omega) (by simp only [lade_first hy]; simpa using hyd) (.inl rfl)
    rw [← em] at b1 b2 b3 b4
    have hA := ev_Draught h (masV h d)
    have hB := ev_Draught h (masV h d + 1)
    have e1 : ∀ n, draE h n = if outsideB n y.m z.m then 2 else 0 := fun n => by rw [draE, if_neg (by simp [hh.1]), hy, hz]; rfl
    have o1 : outsideB (masV h d) y.m z.m = false := by simp [outsideB]; omega
    have e2 : draE h (masV h d) = 0 := by rw [e1, if_neg (by simp [o1])]
    have e3 : draV h (masV h d) = ladeS h.lines (masV h d) := by rw [draV, if_pos e2]
    rw [e2, e3] at hA
    have b3 : ladeS h.lines (masV h d) ≤ d := by simpa using b3
    have hk : draE h (masV h d + 1) = 2 ∨ (draE h (masV h d + 1) = 0 ∧ d < draV h (masV h d + 1)) := by
      rcases b4 with b4 | b4
      · left
        have : outsideB (masV h d + 1) y.m z.m = true := by simp [outsideB]; omega
        rw [e1, if_pos this]
      · by_cases hz' : masV h d = z.m
        · left
          have : outsideB (masV h d + 1) y.m z.m = true := by simp [outsideB]; omega
          rw [e1, if_pos this]
        · right
          have : outsideB (masV h d + 1) y.m z.m = false := by simp [outsideB]; omega
          have e4 : draE h (masV h d + 1) = 0 := by rw [e1, if_neg (by simp [this])]
          refine ⟨e4, ?_⟩
          rw [draV, if_pos e4]
          simp at b4; omega
    rw [h0] at hM hMR
    generalize ladeS h.lines (masV h d) = at' at *
    generalize draE h (masV h d + 1) = k at *
    generalize draV h (masV h d + 1) = mo at *
    generalize masV h d = m at *
    refine ev_of_awp tysOk mixed (fn := Try.f3) Try.func3 rfl rfl rfl ?_
    conv => whnf
    repeat' (first
      | ((with_reducible refine Split.of_true ?_); conv => whnf)
      | ((with_reducible refine Split.of_false ?_); conv => whnf)
      | ((with_reducible refine Split.neg ?_))
      | ((with_reducible refine Split.is_true ?_ ?_); decide; conv => whnf)
      | ((with_reducible refine Split.is_false ?_ ?_); decide; conv => whnf)
      | ((with_reducible refine Split.nez (fun _ => ?_) (fun _ => ?_)) <;> conv => whnf)
      | ((with_reducible refine Split.eqz (fun _ => ?_) (fun _ => ?_)) <;> conv => whnf)
      | ((with_reducible refine Split.and ?_))
      | ((with_reducible refine Split.or ?_))
      | ((with_reducible refine Split.streq (fun _ => ?_) (fun _ => ?_)) <;> conv => whnf)
      | ((with_reducible refine Split.dec (fun _ => ?_) (fun _ => ?_)) <;> conv => whnf)
      | ((with_reducible refine Split.mk (fun _ => ?_) (fun _ => ?_)) <;> conv => whnf)
      | ((with_reducible refine Need.mk ?_ ?_); (first | omega | rfl | decide | (refine ⟨?_, ?_⟩ <;> simp <;> omega) | (simp; omega)); conv => whnf)
      | ((with_reducible refine Wr.quo ?_ ?_ ?_ ?_); omega; omega; omega; conv => whnf)
      | ((with_reducible refine Wr.inr ?_ ?_); (first | omega | (simp; omega)); conv => whnf)
      | ((with_reducible refine Wr.inu ?_ ?_); omega; conv => whnf)
      | (refine CallK.mk _ (ev_awake08) ?_; conv => whnf)
      | (refine CallK.mk _ (hD) ?_; conv => whnf)
      | (refine CallK.mk _ (hM) ?_; conv => whnf)
      | (refine CallK.mk _ (hDR) ?_; conv => whnf)
      | (refine CallK.mk _ (hMR) ?_; conv => whnf)
      | (refine CallK.mk _ (ev_CheckHopper h) ?_; conv => whnf)
      | (refine CallK.mk _ (ev_CheckHopperR h) ?_; conv => whnf)
      | (refine CallK.mk _ (hA) ?_; conv => whnf)
      | (refine CallK.mk _ (hB) ?_; conv => whnf)
      | (exfalso; first | omega | contradiction))
    all_goals first
      | rfl
      | exact congrArg D.bool (decide_eq_true (by omega))
  · refine ev_of_awp tysOk mixed (fn := Try.f3) Try.func3 rfl rfl rfl ?_
    conv => whnf
    repeat' (first
      | ((with_reducible refine Split.of_true ?_); conv => whnf)
      | ((with_reducible refine Split.of_false ?_); conv => whnf)
      | ((with_reducible refine Split.neg ?_))
      | ((with_reducible refine Split.is_true ?_ ?_); decide; conv => whnf)
      | ((with_reducible refine Split.is_false ?_ ?_); decide; conv => whnf)
      | ((with_reducible refine Split.nez (fun _ => ?_) (fun _ => ?_)) <;> conv => whnf)
      | ((with_reducible refine Split.eqz (fun _ => ?_) (fun _ => ?_)) <;> conv => whnf)
      | ((with_reducible refine Split.and ?_))
      | ((with_reducible refine Split.or ?_))
      | ((with_reducible refine Split.streq (fun _ => ?_) (fun _ => ?_)) <;> conv => whnf)
      | ((with_reducible refine Split.dec (fun _ => ?_) (fun _ => ?_)) <;> conv => whnf)
      | ((with_reducible refine Split.mk (fun _ => ?_) (fun _ => ?_)) <;> conv => whnf)
      | ((with_reducible refine Need.mk ?_ ?_); (first | omega | rfl | decide | (refine ⟨?_, ?_⟩ <;> simp <;> omega) | (simp; omega)); conv => whnf)
      | ((with_reducible refine Wr.quo ?_ ?_ ?_ ?_); omega; omega; omega; conv => whnf)
      | ((with_reducible refine Wr.inr ?_ ?_); (first | omega | (simp; omega)); conv => whnf)
      | ((with_reducible refine Wr.inu ?_ ?_); omega; conv => whnf)
      | (refine CallK.mk _ (ev_awake08) ?_; conv => whnf)
      | (refine CallK.mk _ (hD) ?_; conv => whnf)
      | (refine CallK.mk _ (hM) ?_; conv => whnf)
      | (refine CallK.mk _ (hDR) ?_; conv => whnf)
      | (refine CallK.mk _ (hMR) ?_; conv => whnf)
      | (refine CallK.mk _ (ev_CheckHopper h) ?_; conv => whnf)
      | (refine CallK.mk _ (ev_CheckHopperR h) ?_; conv => whnf)
      | (exfalso; first | omega | contradiction))
    all_goals rfl
end Go.Proofs.Try
