import Derived.Test.YtgfaonnajdoeoaaTrI
import Derived.Test.YtgfaonnajdoeoaaTrF
namespace Go.Proofs.Try
open Go Go.Vm
set_option maxRecDepth 20000
set_option maxHeartbeats 2000000
theorem re_ok {l : List Re} : ∀ {t : List Re} {i : Nat}, reErr l i t = 0 → ∀ r ∈ t, badRe r = false
  | r :: t, i, h, x, hx => by
    simp only [reErr] at h
    split at h
    · cases h
    split at h
    · cases h
    split at h
    · cases h
    rename_i hb
    rcases List.mem_cons.1 hx with rfl | hx
    · simpa using hb
    · exact re_ok h x hx
theorem fw_ok {f : Fw} (h : fwErr f = 0) : gsErr f.gauges = 0 ∧ f.reaches.length ≤ 8 ∧ ∀ r ∈ f.reaches, badRe r = false := by
  unfold fwErr at h
  split at h
  · contradiction
  rename_i h1
  split at h
  · cases h
  split at h
  · cases h
  split at h
  · contradiction
  rename_i h2
  exact ⟨by simpa using h1, by omega, re_ok (by simpa using h2)⟩
theorem reach_at {l : List Re} {s : ByteArray} (h : ¬ reachI l s < 0) : ∃ (i : Nat) (r : Re), reachI l s = i ∧ l[i]? = some r := by
  unfold reachI at h ⊢
  split
  · rename_i i hi
    obtain ⟨h1, -⟩ := List.findIdx?_eq_some_iff_getElem.1 hi
    exact ⟨i, l[i], rfl, List.getElem?_eq_getElem h1⟩
  · rename_i hi
    rw [hi] at h
    exact absurd (by decide) h
theorem re_bd {r : Re} (h : badRe r = false) : (-1000000 ≤ r.x ∧ r.x ≤ 1000000) ∧ -20000 ≤ r.level ∧ r.level ≤ 20000 := by
  simp [badRe, outsideB] at h; omega
def claE (f : Fw) (s : ByteArray) (d t : Int) : Int := if fwErr f ≠ 0 then fwErr f else if reachI f.reaches s < 0 then 6 else if outsideB d 0 5000 || outsideB t 0 1000000 then 2 else
  if (lvS f.gauges (f.reaches[(reachI f.reaches s).toNat]?.elim 0 Re.x) t).2.2 then 0 else 11
def claV (f : Fw) (s : ByteArray) (d t : Int) : Int := if claE f s d t = 0 then (lvS f.gauges (f.reaches[(reachI f.reaches s).toNat]?.elim 0 Re.x) t).1 - (f.reaches[(reachI f.reaches s).toNat]?.elim 0 Re.level) - d else 0
theorem lv_bd {l : List Ga} {x t : Int} (h : GoodAll l) (hx : -1000000 ≤ x ∧ x ≤ 1000000) : -1000000000000000000 ≤ (lvS l x t).1 ∧ (lvS l x t).1 ≤ 1000000000000000000 := by
  have hp := posX_spec (x := x) h.asc
  unfold lvS
  generalize posX l x = p at *
  unfold lvF
  split
  · split
    · simp only; omega
    · split
      · rename_i a ha
        have := at_bd (t := t) (ga_good h ha); omega
      · simp only; omega
  · rename_i b hb
    have b2 := at_bd (t := t) (ga_good h hb)
    split
    · omega
    · split
      · omega
      · rename_i q
        split
        · rename_i a ha
          have hga := ga_good h ha
          have hgb := ga_good h hb
          have hax := (hp q a ha).1 (by omega)
          have hbx' := (hp (q + 1) b hb).2 (by omega)
          have b1 := at_bd (t := t) hga
          have x1 := hga.x
          have x2 := hgb.x
          unfold mixS
          split
          · have m1 := mul_bd (x := (atS a t).1) (y := b.x - x) (X := 60000001000) (Y := 2000000) (by omega) (by omega)
            have m2 := mul_bd (x := (atS b t).1) (y := x - a.x) (X := 60000001000) (Y := 2000000) (by omega) (by omega)
            have := ediv_bd (a := (atS a t).1 * (b.x - x) + (atS b t).1 * (x - a.x)) (b := b.x - a.x) (M := 1000000000000000000) (by omega) (by omega)
            simp only
            omega
          · simp only; omega
        · simp only; omega
theorem ev_Clearance (f : Fw) (s : ByteArray) (d t : Int) : Ev Try.prog 13 [fwD f, .str s, iD d, iD t] (.tup [iD (claV f s d t), iD (claE f s d t)]) := by
  have hlen : (f.reaches.map reD).length = f.reaches.length := List.length_map _
  by_cases h0 : fwErr f = 0
  · obtain ⟨hg, hl, hb⟩ := fw_ok h0
    have hR := ev_reachOf f s (by omega)
    by_cases hr : reachI f.reaches s < 0
    · have e : claE f s d t = 6 := by rw [claE, if_neg (by simp [h0]), if_pos hr]
      rw [claV, e]
      refine ev_of_awp tysOk mixed (fn := Try.f13) Try.func13 rfl rfl rfl ?_
      conv => whnf
      repeat' (first
        | ((with_reducible refine Split.of_true ?_); conv => whnf)
        | ((with_reducible refine Split.of_false ?_); conv => whnf)
        | ((with_reducible refine Split.neg ?_))
        | ((with_reducible refine Split.is_true ?_ ?_); decide; conv => whnf)
        | ((with_reducible refine Split.is_false ?_ ?_); decide; conv => whnf)
        | ((with_reducible refine Split.nez (fun _ => ?_) (fun _ => ?_)) <;> conv => whnf)
        | ((with_reducible refine Split.eqz (fun _ => ?_) (fun _ => ?_)) <;> conv => whnf)
        | ((with_reducible refine Split.and ?_))
        | ((with_reducible refine Split.or ?_))
        | ((with_reducible refine Split.streq (fun _ => ?_) (fun _ => ?_)) <;> conv => whnf)
        | ((with_reducible refine Split.dec (fun _ => ?_) (fun _ => ?_)) <;> conv => whnf)
        | ((with_reducible refine Split.mk (fun _ => ?_) (fun _ => ?_)) <;> conv => whnf)
        | ((with_reducible refine Need.mk ?_ ?_); (first | omega | rfl | decide | (refine ⟨?_, ?_⟩ <;> simp <;> omega) | (simp; omega)); conv => whnf)
        | ((with_reducible refine Wr.quo ?_ ?_ ?_ ?_); omega; omega; omega; conv => whnf)
        | ((with_reducible refine Wr.inr ?_ ?_); (first | omega | (simp; omega)); conv => whnf)
        | ((with_reducible refine Wr.inu ?_ ?_); omega; conv => whnf)
        | (refine CallK.mk _ (ev_CheckFairway f) ?_; conv => whnf)
        | (refine CallK.mk _ (hR) ?_; conv => whnf)
        | (exfalso; first | omega | contradiction))
      all_goals first
        | rfl
        | (exfalso; omega)
        | (exfalso; simp_all; done)
    · obtain ⟨i, r, hi, hri⟩ := reach_at hr
      have hrb := re_bd (hb r (List.mem_of_getElem? hri))
      have e : claE f s d t = if outsideB d 0 5000 || outsideB t 0 1000000 then 2 else if (lvS f.gauges r.x t).2.2 then 0 else 11 := by
        rw [claE, if_neg (by simp [h0]), if_neg hr, hi]; simp [hri]
      have ev : claV f s d t = if claE f s d t = 0 then (lvS f.gauges r.x t).1 - r.level - d else 0 := by
        rw [claV, hi]; simp [hri]
      rw [ev, e]
      have hL := ev_Level f.gauges r.x t
      rw [hi] at hR
      by_cases ho : (outsideB d 0 5000 || outsideB t 0 1000000) = true
      · rw [if_pos ho]
        refine ev_of_awp tysOk mixed (fn := Try.f13) Try.func13 rfl rfl rfl ?_
        conv => whnf
        repeat' (first
          | ((with_reducible refine Split.of_true ?_); conv => whnf)
          | ((with_reducible refine Split.of_false ?_); conv => whnf)
          | ((with_reducible refine Split.neg ?_))
          | ((with_reducible refine Split.is_true ?_ ?_); decide; conv => whnf)
          | ((with_reducible refine Split.is_false ?_ ?_); decide; conv => whnf)
          | ((with_reducible refine Split.nez (fun _ => ?_) (fun _ => ?_)) <;> conv => whnf)
          | ((with_reducible refine Split.eqz (fun _ => ?_) (fun _ => ?_)) <;> conv => whnf)
          | ((with_reducible refine Split.and ?_))
          | ((with_reducible refine Split.or ?_))
          | ((with_reducible refine Split.streq (fun _ => ?_) (fun _ => ?_)) <;> conv => whnf)
          | ((with_reducible refine Split.dec (fun _ => ?_) (fun _ => ?_)) <;> conv => whnf)
          | ((with_reducible refine Split.mk (fun _ => ?_) (fun _ => ?_)) <;> conv => whnf)
          | ((with_reducible refine Need.mk ?_ ?_); (first | omega | rfl | decide | (refine ⟨?_, ?_⟩ <;> simp <;> omega) | (simp; omega)); conv => whnf)
          | ((with_reducible refine Wr.quo ?_ ?_ ?_ ?_); omega; omega; omega; conv => whnf)
          | ((with_reducible refine Wr.inr ?_ ?_); (first | omega | (simp; omega)); conv => whnf)
          | ((with_reducible refine Wr.inu ?_ ?_); omega; conv => whnf)
          | (refine CallK.mk _ (ev_CheckFairway f) ?_; conv => whnf)
          | (refine CallK.mk _ (hR) ?_; conv => whnf)
          | (refine CallK.mk _ (ev_bet _ _ _) ?_; conv => whnf)
          | (exfalso; first | omega | contradiction))
        all_goals first
          | rfl
          | (exfalso; simp_all; done)
      · have ho : outsideB d 0 5000 = false ∧ outsideB t 0 1000000 = false := by simpa using ho
        have hd : 0 ≤ d ∧ d ≤ 5000 := by have := ho.1; simp [outsideB] at this; omega
        have ht : 0 ≤ t ∧ t ≤ 1000000 := by have := ho.2; simp [outsideB] at this; omega
        have hx : outsideB r.x (-1000000) 1000000 = false := by simp [outsideB]; omega
        have eL : LvS f.gauges r.x t = if (lvS f.gauges r.x t).2.2 then ((lvS f.gauges r.x t).1, (lvS f.gauges r.x t).2.1, 0) else (0, 0, 11) := by
          rw [LvS, if_neg (by simp [hg]), if_neg (by simp [hx, ho.2])]
        rw [eL] at hL
        have hlb := lv_bd (x := r.x) (t := t) (goodAll hg) hrb.1
        simp only [ho.1, ho.2, Bool.or_self, Bool.false_eq_true, if_false]
        generalize lvS f.gauges r.x t = q at *
        obtain ⟨lo, hi', ok⟩ := q
        dsimp only at hlb
        cases ok with
        | true =>
          simp only [if_true, At3D] at hL ⊢
          refine ev_of_awp tysOk mixed (fn := Try.f13) Try.func13 rfl rfl rfl ?_
          conv => whnf
          repeat' (first
            | ((refine PickE.map i hri (by omega) ?_); conv => whnf)
            | ((with_reducible refine Split.of_true ?_); conv => whnf)
            | ((with_reducible refine Split.of_false ?_); conv => whnf)
            | ((with_reducible refine Split.neg ?_))
            | ((with_reducible refine Split.is_true ?_ ?_); decide; conv => whnf)
            | ((with_reducible refine Split.is_false ?_ ?_); decide; conv => whnf)
            | ((with_reducible refine Split.nez (fun _ => ?_) (fun _ => ?_)) <;> conv => whnf)
            | ((with_reducible refine Split.eqz (fun _ => ?_) (fun _ => ?_)) <;> conv => whnf)
            | ((with_reducible refine Split.and ?_))
            | ((with_reducible refine Split.or ?_))
            | ((with_reducible refine Split.streq (fun _ => ?_) (fun _ => ?_)) <;> conv => whnf)
            | ((with_reducible refine Split.dec (fun _ => ?_) (fun _ => ?_)) <;> conv => whnf)
            | ((with_reducible refine Split.mk (fun _ => ?_) (fun _ => ?_)) <;> conv => whnf)
            | ((with_reducible refine Need.mk ?_ ?_); (first | omega | rfl | decide | (refine ⟨?_, ?_⟩ <;> simp <;> omega) | (simp; omega)); conv => whnf)
            | ((with_reducible refine Wr.quo ?_ ?_ ?_ ?_); omega; omega; omega; conv => whnf)
            | ((with_reducible refine Wr.inr ?_ ?_); (first | omega | (simp; omega)); conv => whnf)
            | ((with_reducible refine Wr.inu ?_ ?_); omega; conv => whnf)
            | (refine CallK.mk _ (ev_CheckFairway f) ?_; conv => whnf)
            | (refine CallK.mk _ (hR) ?_; conv => whnf)
            | (refine CallK.mk _ (ev_bet _ _ _) ?_; conv => whnf)
            | (refine CallK.mk _ (hL) ?_; conv => whnf)
            | (exfalso; first | omega | contradiction))
          all_goals first
            | rfl
            | (exfalso; omega)
            | (exfalso; simp_all; done)
        | false =>
          simp only [Bool.false_eq_true, if_false, At3D] at hL ⊢
          refine ev_of_awp tysOk mixed (fn := Try.f13) Try.func13 rfl rfl rfl ?_
          conv => whnf
          repeat' (first
            | ((refine PickE.map i hri (by omega) ?_); conv => whnf)
            | ((with_reducible refine Split.of_true ?_); conv => whnf)
            | ((with_reducible refine Split.of_false ?_); conv => whnf)
            | ((with_reducible refine Split.neg ?_))
            | ((with_reducible refine Split.is_true ?_ ?_); decide; conv => whnf)
            | ((with_reducible refine Split.is_false ?_ ?_); decide; conv => whnf)
            | ((with_reducible refine Split.nez (fun _ => ?_) (fun _ => ?_)) <;> conv => whnf)
            | ((with_reducible refine Split.eqz (fun _ => ?_) (fun _ => ?_)) <;> conv => whnf)
            | ((with_reducible refine Split.and ?_))
            | ((with_reducible refine Split.or ?_))
            | ((with_reducible refine Split.streq (fun _ => ?_) (fun _ => ?_)) <;> conv => whnf)
            | ((with_reducible refine Split.dec (fun _ => ?_) (fun _ => ?_)) <;> conv => whnf)
            | ((with_reducible refine Split.mk (fun _ => ?_) (fun _ => ?_)) <;> conv => whnf)
            | ((with_reducible refine Need.mk ?_ ?_); (first | omega | rfl | decide | (refine ⟨?_, ?_⟩ <;> simp <;> omega) | (simp; omega)); conv => whnf)
            | ((with_reducible refine Wr.quo ?_ ?_ ?_ ?_); omega; omega; omega; conv => whnf)
            | ((with_reducible refine Wr.inr ?_ ?_); (first | omega | (simp; omega)); conv => whnf)
            | ((with_reducible refine Wr.inu ?_ ?_); omega; conv => whnf)
            | (refine CallK.mk _ (ev_CheckFairway f) ?_; conv => whnf)
            | (refine CallK.mk _ (hR) ?_; conv => whnf)
            | (refine CallK.mk _ (ev_bet _ _ _) ?_; conv => whnf)
            | (refine CallK.mk _ (hL) ?_; conv => whnf)
            | (exfalso; first | omega | contradiction))
          all_goals first
            | rfl
            | (exfalso; omega)
            | (exfalso; simp_all; done)
  · have e : claE f s d t = fwErr f := by rw [claE, if_pos h0]
    rw [claV, e, if_neg h0]
    refine ev_of_awp tysOk mixed (fn := Try.f13) Try.func13 rfl rfl rfl ?_
    conv => whnf
    repeat' (first
      | ((with_reducible refine Split.of_true ?_); conv => whnf)
      | ((with_reducible refine Split.of_false ?_); conv => whnf)
      | ((with_reducible refine Split.neg ?_))
      | ((with_reducible refine Split.is_true ?_ ?_); decide; conv => whnf)
      | ((with_reducible refine Split.is_false ?_ ?_); decide; conv => whnf)
      | ((with_reducible refine Split.nez (fun _ => ?_) (fun _ => ?_)) <;> conv => whnf)
      | ((with_reducible refine Split.eqz (fun _ => ?_) (fun _ => ?_)) <;> conv => whnf)
      | ((with_reducible refine Split.and ?_))
      | ((with_reducible refine Split.or ?_))
      | ((with_reducible refine Split.streq (fun _ => ?_) (fun _ => ?_)) <;> conv => whnf)
      | ((with_reducible refine Split.dec (fun _ => ?_) (fun _ => ?_)) <;> conv => whnf)
      | ((with_reducible refine Split.mk (fun _ => ?_) (fun _ => ?_)) <;> conv => whnf)
      | ((with_reducible refine Need.mk ?_ ?_); (first | omega | rfl | decide | (refine ⟨?_, ?_⟩ <;> simp <;> omega) | (simp; omega)); conv => whnf)
      | ((with_reducible refine Wr.quo ?_ ?_ ?_ ?_); omega; omega; omega; conv => whnf)
      | ((with_reducible refine Wr.inr ?_ ?_); (first | omega | (simp; omega)); conv => whnf)
      | ((with_reducible refine Wr.inu ?_ ?_); omega; conv => whnf)
      | (refine CallK.mk _ (ev_CheckFairway f) ?_; conv => whnf)
      | (exfalso; first | omega | contradiction))
    rfl
end Go.Proofs.Try
