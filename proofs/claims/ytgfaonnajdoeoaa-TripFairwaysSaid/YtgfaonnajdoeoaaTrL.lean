import Derived.Test.YtgfaonnajdoeoaaTrK
import Derived.Test.YtgfaonnajdoeoaaTwZ
namespace Go.Proofs.Try
open Go Go.Vm
set_option maxRecDepth 20000
set_option maxHeartbeats 2000000
structure Pl where
  reach : ByteArray
  d : Int
  t : Int
def plD (p : Pl) : D := .agg [.str p.reach, .int .i64 p.d, .int .i64 p.t]
def cReach : List Cs := [.str, .int .i64, .int .i64, .int .i64, .int .i64, .bool, .bool]
def cTaken : List Cs := [.str, .int .i64, .int .i64]
def cFair : List Cs := [.sl true cGauge, .sl true cReach, .sl true cTaken]
theorem reach_of {d : D} (h : TyV (true, cReach) d) : ∃ r, d = reD r := by
  obtain ⟨ds, rfl, hl, hc⟩ := agg_of h
  match ds, hl with
  | [a, b, c, e, g, u, v], _ =>
    obtain ⟨s, rfl, -⟩ := str_of (hc 0 _ a rfl rfl)
    obtain ⟨x, rfl, -⟩ := int_of (hc 1 _ b rfl rfl)
    obtain ⟨y, rfl, -⟩ := int_of (hc 2 _ c rfl rfl)
    obtain ⟨z, rfl, -⟩ := int_of (hc 3 _ e rfl rfl)
    obtain ⟨w, rfl, -⟩ := int_of (hc 4 _ g rfl rfl)
    obtain ⟨o, rfl⟩ := bool_of (hc 5 _ u rfl rfl)
    obtain ⟨q, rfl⟩ := bool_of (hc 6 _ v rfl rfl)
    exact ⟨⟨s, x, y, z, w, o, q⟩, rfl⟩
theorem taken_of {d : D} (h : TyV (true, cTaken) d) : ∃ r, d = tkD r := by
  obtain ⟨ds, rfl, hl, hc⟩ := agg_of h
  match ds, hl with
  | [a, b, c], _ =>
    obtain ⟨s, rfl, -⟩ := str_of (hc 0 _ a rfl rfl)
    obtain ⟨x, rfl, -⟩ := int_of (hc 1 _ b rfl rfl)
    obtain ⟨y, rfl, -⟩ := int_of (hc 2 _ c rfl rfl)
    exact ⟨⟨s, x, y⟩, rfl⟩
theorem place_of {d : D} (h : TyV (true, cTaken) d) : ∃ r, d = plD r := by
  obtain ⟨r, rfl⟩ := taken_of h
  exact ⟨⟨r.reach, r.lo, r.hi⟩, rfl⟩
theorem fair_of {d : D} (h : TyV (true, cFair) d) : ∃ f, d = fwD f := by
  obtain ⟨ds, rfl, hl, hc⟩ := agg_of h
  match ds, hl with
  | [a, b, c], _ =>
    obtain ⟨g, rfl⟩ := gauges_of (hc 0 _ a rfl rfl)
    obtain ⟨es, rfl, he, -⟩ := sl_of (hc 1 _ b rfl rfl)
    obtain ⟨l, rfl⟩ := map_of (fun d hd => reach_of hd) he
    obtain ⟨es2, rfl, he2, -⟩ := sl_of (hc 2 _ c rfl rfl)
    obtain ⟨l2, rfl⟩ := map_of (fun d hd => taken_of hd) he2
    exact ⟨⟨g, l, l2⟩, rfl⟩
theorem ev_TripFairways (f : Fw) (p : Pl) : Ev Try.prog 4 [fwD f, plD p] (.bool true) := by
  have hlen : (f.reaches.map reD).length = f.reaches.length := List.length_map _
  have hP := ev_Plain f
  have hC := ev_Clearance f p.reach p.d p.t
  cases hb : plainB f with
  | false =>
    rw [hb] at hP
    refine ev_of_awp tysOk mixed (fn := Try.f4) Try.func4 rfl rfl rfl ?_
    conv => whnf
    repeat' (first
      | ((with_reducible refine Split.of_true ?_); conv => whnf)
      | ((with_reducible refine Split.of_false ?_); conv => whnf)
      | ((with_reducible refine Split.neg ?_))
      | ((with_reducible refine Split.is_true ?_ ?_); decide; conv => whnf)
      | ((with_reducible refine Split.is_false ?_ ?_); decide; conv => whnf)
      | ((with_reducible refine Split.nez (fun _ => ?_) (fun _ => ?_)) <;> conv => whnf)
      | ((with_reducible refine Split.eqz (fun _ => ?_) (fun _ => ?_)) <;> conv => whnf)
      | ((with_reducible refine Split.and ?_))
      | ((with_reducible refine Split.or ?_))
      | ((with_reducible refine Split.streq (fun _ => ?_) (fun _ => ?_)) <;> conv => whnf)
      | ((with_reducible refine Split.dec (fun _ => ?_) (fun _ => ?_)) <;> conv => whnf)
      | ((with_reducible refine Split.mk (fun _ => ?_) (fun _ => ?_)) <;> conv => whnf)
      | ((with_reducible refine Need.mk ?_ ?_); (first | omega | rfl | decide | (refine ⟨?_, ?_⟩ <;> simp <;> omega) | (simp; omega)); conv => whnf)
      | ((with_reducible refine Wr.quo ?_ ?_ ?_ ?_); omega; omega; omega; conv => whnf)
      | ((with_reducible refine Wr.inr ?_ ?_); (first | omega | (simp; omega)); conv => whnf)
      | ((with_reducible refine Wr.inu ?_ ?_); omega; conv => whnf)
      | (refine CallK.mk _ (ev_awake08) ?_; conv => whnf)
      | (refine CallK.mk _ (hP) ?_; conv => whnf)
      | (exfalso; first | omega | contradiction))
    rfl
  | true =>
    rw [hb] at hP
    have hl : f.reaches.length ≤ 10 := by
      simp only [plainB, plainA, Bool.and_eq_true, decide_eq_true_eq] at hb
      exact hb.1.1.1.2
    have hR := ev_ReachOf f p.reach (by omega)
    by_cases h0 : fwErr f = 0
    · obtain ⟨hg, -, hrb⟩ := fw_ok h0
      by_cases hr : reachI f.reaches p.reach < 0
      · have e : claE f p.reach p.d p.t = 6 := by rw [claE, if_neg (by simp [h0]), if_pos hr]
        have ev : claV f p.reach p.d p.t = 0 := by rw [claV, e]; rfl
        rw [e, ev] at hC
        refine ev_of_awp tysOk mixed (fn := Try.f4) Try.func4 rfl rfl rfl ?_
        conv => whnf
        repeat' (first
          | ((with_reducible refine Split.of_true ?_); conv => whnf)
          | ((with_reducible refine Split.of_false ?_); conv => whnf)
          | ((with_reducible refine Split.neg ?_))
          | ((with_reducible refine Split.is_true ?_ ?_); decide; conv => whnf)
          | ((with_reducible refine Split.is_false ?_ ?_); decide; conv => whnf)
          | ((with_reducible refine Split.nez (fun _ => ?_) (fun _ => ?_)) <;> conv => whnf)
          | ((with_reducible refine Split.eqz (fun _ => ?_) (fun _ => ?_)) <;> conv => whnf)
          | ((with_reducible refine Split.and ?_))
          | ((with_reducible refine Split.or ?_))
          | ((with_reducible refine Split.streq (fun _ => ?_) (fun _ => ?_)) <;> conv => whnf)
          | ((with_reducible refine Split.dec (fun _ => ?_) (fun _ => ?_)) <;> conv => whnf)
          | ((with_reducible refine Split.mk (fun _ => ?_) (fun _ => ?_)) <;> conv => whnf)
          | ((with_reducible refine Need.mk ?_ ?_); (first | omega | rfl | decide | (refine ⟨?_, ?_⟩ <;> simp <;> omega) | (simp; omega)); conv => whnf)
          | ((with_reducible refine Wr.quo ?_ ?_ ?_ ?_); omega; omega; omega; conv => whnf)
          | ((with_reducible refine Wr.inr ?_ ?_); (first | omega | (simp; omega)); conv => whnf)
          | ((with_reducible refine Wr.inu ?_ ?_); omega; conv => whnf)
          | (refine CallK.mk _ (ev_awake08) ?_; conv => whnf)
          | (refine CallK.mk _ (hP) ?_; conv => whnf)
          | (refine CallK.mk _ (hC) ?_; conv => whnf)
          | (refine CallK.mk _ (ev_CheckFairwayR f) ?_; conv => whnf)
          | (refine CallK.mk _ (ev_CheckFairway f) ?_; conv => whnf)
          | (refine CallK.mk _ (hR) ?_; conv => whnf)
          | (exfalso; first | omega | contradiction))
        all_goals first
          | rfl
          | (exfalso; omega)
      · obtain ⟨i, r, hi, hri⟩ := reach_at hr
        have hx := re_bd (hrb r (List.mem_of_getElem? hri))
        have e : claE f p.reach p.d p.t = if outsideB p.d 0 5000 || outsideB p.t 0 1000000 then 2 else if (lvS f.gauges r.x p.t).2.2 then 0 else 11 := by
          rw [claE, if_neg (by simp [h0]), if_neg hr, hi]; simp [hri]
        have ev : claV f p.reach p.d p.t = if claE f p.reach p.d p.t = 0 then (lvS f.gauges r.x p.t).1 - r.level - p.d else 0 := by
          rw [claV, hi]; simp [hri]
        rw [ev, e] at hC
        rw [hi] at hR
        by_cases ho : (outsideB p.d 0 5000 || outsideB p.t 0 1000000) = true
        · simp only [ho, if_true] at hC
          refine ev_of_awp tysOk mixed (fn := Try.f4) Try.func4 rfl rfl rfl ?_
          conv => whnf
          repeat' (first
            | ((with_reducible refine Split.of_true ?_); conv => whnf)
            | ((with_reducible refine Split.of_false ?_); conv => whnf)
            | ((with_reducible refine Split.neg ?_))
            | ((with_reducible refine Split.is_true ?_ ?_); decide; conv => whnf)
            | ((with_reducible refine Split.is_false ?_ ?_); decide; conv => whnf)
            | ((with_reducible refine Split.nez (fun _ => ?_) (fun _ => ?_)) <;> conv => whnf)
            | ((with_reducible refine Split.eqz (fun _ => ?_) (fun _ => ?_)) <;> conv => whnf)
            | ((with_reducible refine Split.and ?_))
            | ((with_reducible refine Split.or ?_))
            | ((with_reducible refine Split.streq (fun _ => ?_) (fun _ => ?_)) <;> conv => whnf)
            | ((with_reducible refine Split.dec (fun _ => ?_) (fun _ => ?_)) <;> conv => whnf)
            | ((with_reducible refine Split.mk (fun _ => ?_) (fun _ => ?_)) <;> conv => whnf)
            | ((with_reducible refine Need.mk ?_ ?_); (first | omega | rfl | decide | (refine ⟨?_, ?_⟩ <;> simp <;> omega) | (simp; omega)); conv => whnf)
            | ((with_reducible refine Wr.quo ?_ ?_ ?_ ?_); omega; omega; omega; conv => whnf)
            | ((with_reducible refine Wr.inr ?_ ?_); (first | omega | (simp; omega)); conv => whnf)
            | ((with_reducible refine Wr.inu ?_ ?_); omega; conv => whnf)
            | (refine CallK.mk _ (ev_awake08) ?_; conv => whnf)
            | (refine CallK.mk _ (hP) ?_; conv => whnf)
            | (refine CallK.mk _ (hC) ?_; conv => whnf)
            | (refine CallK.mk _ (ev_CheckFairwayR f) ?_; conv => whnf)
            | (refine CallK.mk _ (ev_CheckFairway f) ?_; conv => whnf)
            | (refine CallK.mk _ (hR) ?_; conv => whnf)
            | (refine CallK.mk _ (ev_Within _ _ _) ?_; conv => whnf)
            | (exfalso; first | omega | contradiction))
          all_goals first
            | rfl
            | (exfalso; omega)
            | (exfalso; simp_all; done)
        · have ho' : outsideB p.d 0 5000 = false ∧ outsideB p.t 0 1000000 = false := by simpa using ho
          have ht : 0 ≤ p.t ∧ p.t ≤ 1000000 := by have := ho'.2; simp [outsideB] at this; omega
          have hd : 0 ≤ p.d ∧ p.d ≤ 5000 := by have := ho'.1; simp [outsideB] at this; omega
          have hL := ev_LevelR (x := r.x) (goodAll hg) hx.1 ht
          have hlb := lv_bd (x := r.x) (t := p.t) (goodAll hg) hx.1
          simp only [ho'.1, ho'.2, Bool.or_self, Bool.false_eq_true, if_false] at hC
          generalize lvS f.gauges r.x p.t = q at *
          obtain ⟨lo, hi', ok⟩ := q
          dsimp only at hlb
          cases ok with
          | true =>
            simp only [if_true] at hC
            refine ev_of_awp tysOk mixed (fn := Try.f4) Try.func4 rfl rfl rfl ?_
            conv => whnf
            repeat' (first
              | ((refine PickE.map i hri (by omega) ?_); conv => whnf)
              | ((with_reducible refine Split.of_true ?_); conv => whnf)
              | ((with_reducible refine Split.of_false ?_); conv => whnf)
              | ((with_reducible refine Split.neg ?_))
              | ((with_reducible refine Split.is_true ?_ ?_); decide; conv => whnf)
              | ((with_reducible refine Split.is_false ?_ ?_); decide; conv => whnf)
              | ((with_reducible refine Split.nez (fun _ => ?_) (fun _ => ?_)) <;> conv => whnf)
              | ((with_reducible refine Split.eqz (fun _ => ?_) (fun _ => ?_)) <;> conv => whnf)
              | ((with_reducible refine Split.and ?_))
              | ((with_reducible refine Split.or ?_))
              | ((with_reducible refine Split.streq (fun _ => ?_) (fun _ => ?_)) <;> conv => whnf)
              | ((with_reducible refine Split.dec (fun _ => ?_) (fun _ => ?_)) <;> conv => whnf)
              | ((with_reducible refine Split.mk (fun _ => ?_) (fun _ => ?_)) <;> conv => whnf)
              | ((with_reducible refine Need.mk ?_ ?_); (first | omega | rfl | decide | (refine ⟨?_, ?_⟩ <;> simp <;> omega) | (simp; omega)); conv => whnf)
              | ((with_reducible refine Wr.quo ?_ ?_ ?_ ?_); omega; omega; omega; conv => whnf)
              | ((with_reducible refine Wr.inr ?_ ?_); (first | omega | (simp; omega)); conv => whnf)
              | ((with_reducible refine Wr.inu ?_ ?_); omega; conv => whnf)
              | (refine CallK.mk _ (ev_awake08) ?_; conv => whnf)
              | (refine CallK.mk _ (hP) ?_; conv => whnf)
              | (refine CallK.mk _ (hC) ?_; conv => whnf)
              | (refine CallK.mk _ (ev_CheckFairwayR f) ?_; conv => whnf)
              | (refine CallK.mk _ (ev_CheckFairway f) ?_; conv => whnf)
              | (refine CallK.mk _ (hR) ?_; conv => whnf)
              | (refine CallK.mk _ (ev_Within _ _ _) ?_; conv => whnf)
              | (refine CallK.mk _ (hL) ?_; conv => whnf)
              | (exfalso; first | omega | contradiction))
            all_goals first
              | rfl
              | (simp [retOf]; done)
              | (exfalso; omega)
              | (exfalso; simp_all; done)
          | false =>
            simp only [Bool.false_eq_true, if_false] at hC
            refine ev_of_awp tysOk mixed (fn := Try.f4) Try.func4 rfl rfl rfl ?_
            conv => whnf
            repeat' (first
              | ((refine PickE.map i hri (by omega) ?_); conv => whnf)
              | ((with_reducible refine Split.of_true ?_); conv => whnf)
              | ((with_reducible refine Split.of_false ?_); conv => whnf)
              | ((with_reducible refine Split.neg ?_))
              | ((with_reducible refine Split.is_true ?_ ?_); decide; conv => whnf)
              | ((with_reducible refine Split.is_false ?_ ?_); decide; conv => whnf)
              | ((with_reducible refine Split.nez (fun _ => ?_) (fun _ => ?_)) <;> conv => whnf)
              | ((with_reducible refine Split.eqz (fun _ => ?_) (fun _ => ?_)) <;> conv => whnf)
              | ((with_reducible refine Split.and ?_))
              | ((with_reducible refine Split.or ?_))
              | ((with_reducible refine Split.streq (fun _ => ?_) (fun _ => ?_)) <;> conv => whnf)
              | ((with_reducible refine Split.dec (fun _ => ?_) (fun _ => ?_)) <;> conv => whnf)
              | ((with_reducible refine Split.mk (fun _ => ?_) (fun _ => ?_)) <;> conv => whnf)
              | ((with_reducible refine Need.mk ?_ ?_); (first | omega | rfl | decide | (refine ⟨?_, ?_⟩ <;> simp <;> omega) | (simp; omega)); conv => whnf)
              | ((with_reducible refine Wr.quo ?_ ?_ ?_ ?_); omega; omega; omega; conv => whnf)
              | ((with_reducible refine Wr.inr ?_ ?_); (first | omega | (simp; omega)); conv => whnf)
              | ((with_reducible refine Wr.inu ?_ ?_); omega; conv => whnf)
              | (refine CallK.mk _ (ev_awake08) ?_; conv => whnf)
              | (refine CallK.mk _ (hP) ?_; conv => whnf)
              | (refine CallK.mk _ (hC) ?_; conv => whnf)
              | (refine CallK.mk _ (ev_CheckFairwayR f) ?_; conv => whnf)
              | (refine CallK.mk _ (ev_CheckFairway f) ?_; conv => whnf)
              | (refine CallK.mk _ (hR) ?_; conv => whnf)
              | (refine CallK.mk _ (ev_Within _ _ _) ?_; conv => whnf)
              | (refine CallK.mk _ (hL) ?_; conv => whnf)
              | (exfalso; first | omega | contradiction))
            all_goals first
              | rfl
              | (simp [retOf]; done)
              | (exfalso; omega)
              | (exfalso; simp_all; done)
    · have e : claE f p.reach p.d p.t = fwErr f := by rw [claE, if_pos h0]
      have ev : claV f p.reach p.d p.t = 0 := by rw [claV, e, if_neg h0]
      rw [e, ev] at hC
      refine ev_of_awp tysOk mixed (fn := Try.f4) Try.func4 rfl rfl rfl ?_
      conv => whnf
      repeat' (first
        | ((with_reducible refine Split.of_true ?_); conv => whnf)
        | ((with_reducible refine Split.of_false ?_); conv => whnf)
        | ((with_reducible refine Split.neg ?_))
        | ((with_reducible refine Split.is_true ?_ ?_); decide; conv => whnf)
        | ((with_reducible refine Split.is_false ?_ ?_); decide; conv => whnf)
        | ((with_reducible refine Split.nez (fun _ => ?_) (fun _ => ?_)) <;> conv => whnf)
        | ((with_reducible refine Split.eqz (fun _ => ?_) (fun _ => ?_)) <;> conv => whnf)
        | ((with_reducible refine Split.and ?_))
        | ((with_reducible refine Split.or ?_))
        | ((with_reducible refine Split.streq (fun _ => ?_) (fun _ => ?_)) <;> conv => whnf)
        | ((with_reducible refine Split.dec (fun _ => ?_) (fun _ => ?_)) <;> conv => whnf)
        | ((with_reducible refine Split.mk (fun _ => ?_) (fun _ => ?_)) <;> conv => whnf)
        | ((with_reducible refine Need.mk ?_ ?_); (first | omega | rfl | decide | (refine ⟨?_, ?_⟩ <;> simp <;> omega) | (simp; omega)); conv => whnf)
        | ((with_reducible refine Wr.quo ?_ ?_ ?_ ?_); omega; omega; omega; conv => whnf)
        | ((with_reducible refine Wr.inr ?_ ?_); (first | omega | (simp; omega)); conv => whnf)
        | ((with_reducible refine Wr.inu ?_ ?_); omega; conv => whnf)
        | (refine CallK.mk _ (ev_awake08) ?_; conv => whnf)
        | (refine CallK.mk _ (hP) ?_; conv => whnf)
        | (refine CallK.mk _ (hC) ?_; conv => whnf)
        | (refine CallK.mk _ (ev_CheckFairwayR f) ?_; conv => whnf)
        | (refine CallK.mk _ (ev_CheckFairway f) ?_; conv => whnf)
        | (refine CallK.mk _ (hR) ?_; conv => whnf)
        | (exfalso; first | omega | contradiction))
      all_goals first
        | rfl
        | (exfalso; omega)
end Go.Proofs.Try
