import Derived.Test.YtcgfcbmlmfbknaaTwM
namespace Go.Proofs.Try
open Go Go.Vm
set_option maxRecDepth 20000
set_option maxHeartbeats 2000000
theorem le_up {n d : Int} (hd : 0 < d) : n / d ≤ upZ n d := by
  obtain ⟨h1, h2, -⟩ := floor_facts (n := n) hd
  exact Int.le_of_mul_le_mul_right (Int.le_trans h1 h2) hd
theorem ediv_ge {n d m : Int} (hd : 0 < d) (h : m * d ≤ n) : m ≤ n / d := (Int.le_ediv_iff_mul_le hd).2 h
theorem up_le {n d m : Int} (hd : 0 < d) (h : n ≤ m * d) : upZ n d ≤ m := by
  have := ediv_ge (n := -n) (m := -m) hd (by rw [Int.neg_mul]; omega)
  unfold upZ; omega
theorem up_mono {n n' d : Int} (hd : 0 < d) (h : n ≤ n') : upZ n d ≤ upZ n' d := by
  have := Int.ediv_le_ediv hd (a := -n') (b := -n) (by omega)
  unfold upZ; omega
theorem at_le {g : Ga} {t : Int} (h : Good g) : (atS g t).1 ≤ (atS g t).2.1 := by
  have hb := mean_bd (t := t) h
  have he := h.err
  have := le_up (n := (meanS g t).1) hb.1
  unfold atS
  split <;> dsimp only <;> omega
theorem mix_facts {lo lo' hi hi' p q : Int} (hp : 0 ≤ p) (hq : 0 ≤ q) (hd : 0 < p + q) (h1 : lo ≤ hi) (h2 : lo' ≤ hi') :
    min lo lo' ≤ (lo * p + lo' * q) / (p + q) ∧ upZ (hi * p + hi' * q) (p + q) ≤ max hi hi' ∧ (lo * p + lo' * q) / (p + q) ≤ upZ (hi * p + hi' * q) (p + q) := by
  have m1 : min lo lo' * p ≤ lo * p := Int.mul_le_mul_of_nonneg_right (by omega) hp
  have m2 : min lo lo' * q ≤ lo' * q := Int.mul_le_mul_of_nonneg_right (by omega) hq
  have m3 : hi * p ≤ max hi hi' * p := Int.mul_le_mul_of_nonneg_right (by omega) hp
  have m4 : hi' * q ≤ max hi hi' * q := Int.mul_le_mul_of_nonneg_right (by omega) hq
  have m5 : lo * p ≤ hi * p := Int.mul_le_mul_of_nonneg_right h1 hp
  have m6 : lo' * q ≤ hi' * q := Int.mul_le_mul_of_nonneg_right h2 hq
  refine ⟨ediv_ge hd (by rw [Int.mul_add]; omega), up_le hd (by rw [Int.mul_add]; omega), ?_⟩
  exact Int.le_trans (Int.ediv_le_ediv hd (by omega)) (le_up hd)
theorem lv_two {a b : Ga} {x t : Int} (h : GoodAll [a, b]) (h1 : a.x ≤ x) (h2 : x ≤ b.x) :
    (x = a.x ∧ lvS [a, b] x t = atS a t) ∨ (x = b.x ∧ lvS [a, b] x t = atS b t) ∨ (a.x < x ∧ x < b.x ∧ lvS [a, b] x t = mixS a b x t) := by
  have hab := ga_lt h (i := 0) (a := a) (b := b) rfl rfl
  unfold lvS
  rcases Int.lt_trichotomy a.x x with hc | hc | hc
  · have ep : posX [a, b] x = 1 := by
      refine posX_eq h.asc (by simp) (fun k m hk hm => ?_) (fun m hm => by cases hm; exact h2)
      obtain rfl : k = 0 := by omega
      cases hm; exact hc
    rw [ep]
    by_cases e : b.x = x
    · right; left; exact ⟨e.symm, by simp [lvF, e]⟩
    · right; right; exact ⟨hc, by omega, by simp [lvF, e]⟩
  · have ep : posX [a, b] x = 0 := posX_eq h.asc (by simp) (fun k m hk hm => by omega) (fun m hm => by cases hm; omega)
    rw [ep]
    left; exact ⟨hc.symm, by simp [lvF, hc]⟩
  · omega
theorem ev_TideBetween (a b : Ga) (x t : Int) : Ev Try.prog 9 [gD a, gD b, .agg [.int .i64 x, .int .i64 t]] (.bool true) := by
  have hS := ev_ShortAll [a, b]
  have hC := ev_CheckGauges [a, b]
  by_cases hin : gsErr [a, b] = 0 ∧ a.x ≤ x ∧ x ≤ b.x ∧ 0 ≤ t ∧ t ≤ 1000000
  · obtain ⟨h0, hx1, hx2, ht⟩ := hin
    have hG := goodAll h0
    rw [h0] at hC
    have ha := hG.each a (by simp)
    have hb := hG.each b (by simp)
    have ga := good_of ha
    have gb := good_of hb
    have xa := ga.x
    have xb := gb.x
    have hto : outsideB t 0 1000000 = false := by simp [outsideB]; omega
    have hxo : outsideB x (-1000000) 1000000 = false := by simp [outsideB]; omega
    have hA := ev_At a t
    have hB := ev_At b t
    have hL := ev_Level [a, b] x t
    rw [show AtS a t = if (atS a t).2.2 then ((atS a t).1, (atS a t).2.1, 0) else (0, 0, 11) by simp [AtS, ha, hto]] at hA
    rw [show AtS b t = if (atS b t).2.2 then ((atS b t).1, (atS b t).2.1, 0) else (0, 0, 11) by simp [AtS, hb, hto]] at hB
    rw [show LvS [a, b] x t = if (lvS [a, b] x t).2.2 then ((lvS [a, b] x t).1, (lvS [a, b] x t).2.1, 0) else (0, 0, 11) by simp [LvS, h0, hto, hxo]] at hL
    have la := at_le (t := t) ga
    have lb := at_le (t := t) gb
    have hxab := lv_two (t := t) hG hx1 hx2
    unfold mixS at hxab
    have hz : ∀ {t : Int} {g : Ga}, (atS g t).2.2 = false → (atS g t).1 = 0 ∧ (atS g t).2.1 = 0 := fun {t g} h => by
      unfold atS at h ⊢
      split at h
      · cases h
      · rename_i h'; simp [h']
    have za := hz (t := t) (g := a)
    have zb := hz (t := t) (g := b)
    generalize lvS [a, b] x t = u at *
    generalize atS a t = r at *
    generalize atS b t = s at *
    obtain ⟨lo, hi, ok⟩ := r
    obtain ⟨lo', hi', ok'⟩ := s
    dsimp only at la lb hxab za zb
    have hmn : min lo lo' = minI lo lo' := by unfold minI; split <;> omega
    have hmx : max hi hi' = maxI hi hi' := by unfold maxI; split <;> omega
    rcases hxab with ⟨e, rfl⟩ | ⟨e, rfl⟩ | ⟨e1, e2, rfl⟩
    · have k1 : minI lo lo' ≤ lo := by omega
      have k2 : hi ≤ maxI hi hi' := by omega
      cases ok <;> cases ok'
      · simp at hA hB hL
        refine ev_of_awp tysOk mixed (fn := Try.f9) Try.func9 rfl rfl rfl ?_
        conv => whnf
        repeat' (first
          | ((with_reducible refine Split.of_true ?_); conv => whnf)
          | ((with_reducible refine Split.of_false ?_); conv => whnf)
          | ((with_reducible refine Split.neg ?_))
          | ((with_reducible refine Split.is_true ?_ ?_); decide; conv => whnf)
          | ((with_reducible refine Split.is_false ?_ ?_); decide; conv => whnf)
          | ((with_reducible refine Split.nez (fun _ => ?_) (fun _ => ?_)) <;> conv => whnf)
          | ((with_reducible refine Split.eqz (fun _ => ?_) (fun _ => ?_)) <;> conv => whnf)
          | ((with_reducible refine Split.and ?_))
          | ((with_reducible refine Split.or ?_))
          | ((with_reducible refine Split.streq (fun _ => ?_) (fun _ => ?_)) <;> conv => whnf)
          | ((with_reducible refine Split.dec (fun _ => ?_) (fun _ => ?_)) <;> conv => whnf)
          | ((with_reducible refine Split.mk (fun _ => ?_) (fun _ => ?_)) <;> conv => whnf)
          | ((with_reducible refine Need.mk ?_ ?_); (first | omega | rfl | decide | (refine ⟨?_, ?_⟩ <;> simp <;> omega) | (simp; omega)); conv => whnf)
          | ((with_reducible refine Wr.quo ?_ ?_ ?_ ?_); omega; omega; omega; conv => whnf)
          | ((with_reducible refine Wr.inr ?_ ?_); (first | omega | (simp; omega)); conv => whnf)
          | ((with_reducible refine Wr.inu ?_ ?_); omega; conv => whnf)
          | (refine CallK.mk _ (hS) ?_; conv => whnf)
          | (refine CallK.mk _ (hC) ?_; conv => whnf)
          | (refine CallK.mk _ (hA) ?_; conv => whnf)
          | (refine CallK.mk _ (hB) ?_; conv => whnf)
          | (refine CallK.mk _ (hL) ?_; conv => whnf)
          | (refine CallK.mk _ (ev_awake) ?_; conv => whnf)
          | (exfalso; first | omega | contradiction))
        all_goals first | rfl | (refine congrArg D.bool (decide_eq_true ?_); omega) | (simp [retOf]; done)
      · simp at hA hB hL
        refine ev_of_awp tysOk mixed (fn := Try.f9) Try.func9 rfl rfl rfl ?_
        conv => whnf
        repeat' (first
          | ((with_reducible refine Split.of_true ?_); conv => whnf)
          | ((with_reducible refine Split.of_false ?_); conv => whnf)
          | ((with_reducible refine Split.neg ?_))
          | ((with_reducible refine Split.is_true ?_ ?_); decide; conv => whnf)
          | ((with_reducible refine Split.is_false ?_ ?_); decide; conv => whnf)
          | ((with_reducible refine Split.nez (fun _ => ?_) (fun _ => ?_)) <;> conv => whnf)
          | ((with_reducible refine Split.eqz (fun _ => ?_) (fun _ => ?_)) <;> conv => whnf)
          | ((with_reducible refine Split.and ?_))
          | ((with_reducible refine Split.or ?_))
          | ((with_reducible refine Split.streq (fun _ => ?_) (fun _ => ?_)) <;> conv => whnf)
          | ((with_reducible refine Split.dec (fun _ => ?_) (fun _ => ?_)) <;> conv => whnf)
          | ((with_reducible refine Split.mk (fun _ => ?_) (fun _ => ?_)) <;> conv => whnf)
          | ((with_reducible refine Need.mk ?_ ?_); (first | omega | rfl | decide | (refine ⟨?_, ?_⟩ <;> simp <;> omega) | (simp; omega)); conv => whnf)
          | ((with_reducible refine Wr.quo ?_ ?_ ?_ ?_); omega; omega; omega; conv => whnf)
          | ((with_reducible refine Wr.inr ?_ ?_); (first | omega | (simp; omega)); conv => whnf)
          | ((with_reducible refine Wr.inu ?_ ?_); omega; conv => whnf)
          | (refine CallK.mk _ (hS) ?_; conv => whnf)
          | (refine CallK.mk _ (hC) ?_; conv => whnf)
          | (refine CallK.mk _ (hA) ?_; conv => whnf)
          | (refine CallK.mk _ (hB) ?_; conv => whnf)
          | (refine CallK.mk _ (hL) ?_; conv => whnf)
          | (refine CallK.mk _ (ev_awake) ?_; conv => whnf)
          | (exfalso; first | omega | contradiction))
        all_goals first | rfl | (refine congrArg D.bool (decide_eq_true ?_); omega) | (simp [retOf]; done)
      · simp at hA hB hL
        refine ev_of_awp tysOk mixed (fn := Try.f9) Try.func9 rfl rfl rfl ?_
        conv => whnf
        repeat' (first
          | ((with_reducible refine Split.of_true ?_); conv => whnf)
          | ((with_reducible refine Split.of_false ?_); conv => whnf)
          | ((with_reducible refine Split.neg ?_))
          | ((with_reducible refine Split.is_true ?_ ?_); decide; conv => whnf)
          | ((with_reducible refine Split.is_false ?_ ?_); decide; conv => whnf)
          | ((with_reducible refine Split.nez (fun _ => ?_) (fun _ => ?_)) <;> conv => whnf)
          | ((with_reducible refine Split.eqz (fun _ => ?_) (fun _ => ?_)) <;> conv => whnf)
          | ((with_reducible refine Split.and ?_))
          | ((with_reducible refine Split.or ?_))
          | ((with_reducible refine Split.streq (fun _ => ?_) (fun _ => ?_)) <;> conv => whnf)
          | ((with_reducible refine Split.dec (fun _ => ?_) (fun _ => ?_)) <;> conv => whnf)
          | ((with_reducible refine Split.mk (fun _ => ?_) (fun _ => ?_)) <;> conv => whnf)
          | ((with_reducible refine Need.mk ?_ ?_); (first | omega | rfl | decide | (refine ⟨?_, ?_⟩ <;> simp <;> omega) | (simp; omega)); conv => whnf)
          | ((with_reducible refine Wr.quo ?_ ?_ ?_ ?_); omega; omega; omega; conv => whnf)
          | ((with_reducible refine Wr.inr ?_ ?_); (first | omega | (simp; omega)); conv => whnf)
          | ((with_reducible refine Wr.inu ?_ ?_); omega; conv => whnf)
          | (refine CallK.mk _ (hS) ?_; conv => whnf)
          | (refine CallK.mk _ (hC) ?_; conv => whnf)
          | (refine CallK.mk _ (hA) ?_; conv => whnf)
          | (refine CallK.mk _ (hB) ?_; conv => whnf)
          | (refine CallK.mk _ (hL) ?_; conv => whnf)
          | (refine CallK.mk _ (ev_awake) ?_; conv => whnf)
          | (exfalso; first | omega | contradiction))
        all_goals first | rfl | (refine congrArg D.bool (decide_eq_true ?_); omega) | (simp [retOf]; done)
      · simp at hA hB hL
        refine ev_of_awp tysOk mixed (fn := Try.f9) Try.func9 rfl rfl rfl ?_
        conv => whnf
        repeat' (first
          | ((with_reducible refine Split.of_true ?_); conv => whnf)
          | ((with_reducible refine Split.of_false ?_); conv => whnf)
          | ((with_reducible refine Split.neg ?_))
          | ((with_reducible refine Split.is_true ?_ ?_); decide; conv => whnf)
          | ((with_reducible refine Split.is_false ?_ ?_); decide; conv => whnf)
          | ((with_reducible refine Split.nez (fun _ => ?_) (fun _ => ?_)) <;> conv => whnf)
          | ((with_reducible refine Split.eqz (fun _ => ?_) (fun _ => ?_)) <;> conv => whnf)
          | ((with_reducible refine Split.and ?_))
          | ((with_reducible refine Split.or ?_))
          | ((with_reducible refine Split.streq (fun _ => ?_) (fun _ => ?_)) <;> conv => whnf)
          | ((with_reducible refine Split.dec (fun _ => ?_) (fun _ => ?_)) <;> conv => whnf)
          | ((with_reducible refine Split.mk (fun _ => ?_) (fun _ => ?_)) <;> conv => whnf)
          | ((with_reducible refine Need.mk ?_ ?_); (first | omega | rfl | decide | (refine ⟨?_, ?_⟩ <;> simp <;> omega) | (simp; omega)); conv => whnf)
          | ((with_reducible refine Wr.quo ?_ ?_ ?_ ?_); omega; omega; omega; conv => whnf)
          | ((with_reducible refine Wr.inr ?_ ?_); (first | omega | (simp; omega)); conv => whnf)
          | ((with_reducible refine Wr.inu ?_ ?_); omega; conv => whnf)
          | (refine CallK.mk _ (hS) ?_; conv => whnf)
          | (refine CallK.mk _ (hC) ?_; conv => whnf)
          | (refine CallK.mk _ (hA) ?_; conv => whnf)
          | (refine CallK.mk _ (hB) ?_; conv => whnf)
          | (refine CallK.mk _ (hL) ?_; conv => whnf)
          | (refine CallK.mk _ (ev_awake) ?_; conv => whnf)
          | (exfalso; first | omega | contradiction))
        all_goals first | rfl | (refine congrArg D.bool (decide_eq_true ?_); omega) | (simp [retOf]; done)
    · have k1 : minI lo lo' ≤ lo' := by omega
      have k2 : hi' ≤ maxI hi hi' := by omega
      cases ok <;> cases ok'
      · simp at hA hB hL
        refine ev_of_awp tysOk mixed (fn := Try.f9) Try.func9 rfl rfl rfl ?_
        conv => whnf
        repeat' (first
          | ((with_reducible refine Split.of_true ?_); conv => whnf)
          | ((with_reducible refine Split.of_false ?_); conv => whnf)
          | ((with_reducible refine Split.neg ?_))
          | ((with_reducible refine Split.is_true ?_ ?_); decide; conv => whnf)
          | ((with_reducible refine Split.is_false ?_ ?_); decide; conv => whnf)
          | ((with_reducible refine Split.nez (fun _ => ?_) (fun _ => ?_)) <;> conv => whnf)
          | ((with_reducible refine Split.eqz (fun _ => ?_) (fun _ => ?_)) <;> conv => whnf)
          | ((with_reducible refine Split.and ?_))
          | ((with_reducible refine Split.or ?_))
          | ((with_reducible refine Split.streq (fun _ => ?_) (fun _ => ?_)) <;> conv => whnf)
          | ((with_reducible refine Split.dec (fun _ => ?_) (fun _ => ?_)) <;> conv => whnf)
          | ((with_reducible refine Split.mk (fun _ => ?_) (fun _ => ?_)) <;> conv => whnf)
          | ((with_reducible refine Need.mk ?_ ?_); (first | omega | rfl | decide | (refine ⟨?_, ?_⟩ <;> simp <;> omega) | (simp; omega)); conv => whnf)
          | ((with_reducible refine Wr.quo ?_ ?_ ?_ ?_); omega; omega; omega; conv => whnf)
          | ((with_reducible refine Wr.inr ?_ ?_); (first | omega | (simp; omega)); conv => whnf)
          | ((with_reducible refine Wr.inu ?_ ?_); omega; conv => whnf)
          | (refine CallK.mk _ (hS) ?_; conv => whnf)
          | (refine CallK.mk _ (hC) ?_; conv => whnf)
          | (refine CallK.mk _ (hA) ?_; conv => whnf)
          | (refine CallK.mk _ (hB) ?_; conv => whnf)
          | (refine CallK.mk _ (hL) ?_; conv => whnf)
          | (refine CallK.mk _ (ev_awake) ?_; conv => whnf)
          | (exfalso; first | omega | contradiction))
        all_goals first | rfl | (refine congrArg D.bool (decide_eq_true ?_); omega) | (simp [retOf]; done)
      · simp at hA hB hL
        refine ev_of_awp tysOk mixed (fn := Try.f9) Try.func9 rfl rfl rfl ?_
        conv => whnf
        repeat' (first
          | ((with_reducible refine Split.of_true ?_); conv => whnf)
          | ((with_reducible refine Split.of_false ?_); conv => whnf)
          | ((with_reducible refine Split.neg ?_))
          | ((with_reducible refine Split.is_true ?_ ?_); decide; conv => whnf)
          | ((with_reducible refine Split.is_false ?_ ?_); decide; conv => whnf)
          | ((with_reducible refine Split.nez (fun _ => ?_) (fun _ => ?_)) <;> conv => whnf)
          | ((with_reducible refine Split.eqz (fun _ => ?_) (fun _ => ?_)) <;> conv => whnf)
          | ((with_reducible refine Split.and ?_))
          | ((with_reducible refine Split.or ?_))
          | ((with_reducible refine Split.streq (fun _ => ?_) (fun _ => ?_)) <;> conv => whnf)
          | ((with_reducible refine Split.dec (fun _ => ?_) (fun _ => ?_)) <;> conv => whnf)
          | ((with_reducible refine Split.mk (fun _ => ?_) (fun _ => ?_)) <;> conv => whnf)
          | ((with_reducible refine Need.mk ?_ ?_); (first | omega | rfl | decide | (refine ⟨?_, ?_⟩ <;> simp <;> omega) | (simp; omega)); conv => whnf)
          | ((with_reducible refine Wr.quo ?_ ?_ ?_ ?_); omega; omega; omega; conv => whnf)
          | ((with_reducible refine Wr.inr ?_ ?_); (first | omega | (simp; omega)); conv => whnf)
          | ((with_reducible refine Wr.inu ?_ ?_); omega; conv => whnf)
          | (refine CallK.mk _ (hS) ?_; conv => whnf)
          | (refine CallK.mk _ (hC) ?_; conv => whnf)
          | (refine CallK.mk _ (hA) ?_; conv => whnf)
          | (refine CallK.mk _ (hB) ?_; conv => whnf)
          | (refine CallK.mk _ (hL) ?_; conv => whnf)
          | (refine CallK.mk _ (ev_awake) ?_; conv => whnf)
          | (exfalso; first | omega | contradiction))
        all_goals first | rfl | (refine congrArg D.bool (decide_eq_true ?_); omega) | (simp [retOf]; done)
      · simp at hA hB hL
        refine ev_of_awp tysOk mixed (fn := Try.f9) Try.func9 rfl rfl rfl ?_
        conv => whnf
        repeat' (first
          | ((with_reducible refine Split.of_true ?_); conv => whnf)
          | ((with_reducible refine Split.of_false ?_); conv => whnf)
          | ((with_reducible refine Split.neg ?_))
          | ((with_reducible refine Split.is_true ?_ ?_); decide; conv => whnf)
          | ((with_reducible refine Split.is_false ?_ ?_); decide; conv => whnf)
          | ((with_reducible refine Split.nez (fun _ => ?_) (fun _ => ?_)) <;> conv => whnf)
          | ((with_reducible refine Split.eqz (fun _ => ?_) (fun _ => ?_)) <;> conv => whnf)
          | ((with_reducible refine Split.and ?_))
          | ((with_reducible refine Split.or ?_))
          | ((with_reducible refine Split.streq (fun _ => ?_) (fun _ => ?_)) <;> conv => whnf)
          | ((with_reducible refine Split.dec (fun _ => ?_) (fun _ => ?_)) <;> conv => whnf)
          | ((with_reducible refine Split.mk (fun _ => ?_) (fun _ => ?_)) <;> conv => whnf)
          | ((with_reducible refine Need.mk ?_ ?_); (first | omega | rfl | decide | (refine ⟨?_, ?_⟩ <;> simp <;> omega) | (simp; omega)); conv => whnf)
          | ((with_reducible refine Wr.quo ?_ ?_ ?_ ?_); omega; omega; omega; conv => whnf)
          | ((with_reducible refine Wr.inr ?_ ?_); (first | omega | (simp; omega)); conv => whnf)
          | ((with_reducible refine Wr.inu ?_ ?_); omega; conv => whnf)
          | (refine CallK.mk _ (hS) ?_; conv => whnf)
          | (refine CallK.mk _ (hC) ?_; conv => whnf)
          | (refine CallK.mk _ (hA) ?_; conv => whnf)
          | (refine CallK.mk _ (hB) ?_; conv => whnf)
          | (refine CallK.mk _ (hL) ?_; conv => whnf)
          | (refine CallK.mk _ (ev_awake) ?_; conv => whnf)
          | (exfalso; first | omega | contradiction))
        all_goals first | rfl | (refine congrArg D.bool (decide_eq_true ?_); omega) | (simp [retOf]; done)
      · simp at hA hB hL
        refine ev_of_awp tysOk mixed (fn := Try.f9) Try.func9 rfl rfl rfl ?_
        conv => whnf
        repeat' (first
          | ((with_reducible refine Split.of_true ?_); conv => whnf)
          | ((with_reducible refine Split.of_false ?_); conv => whnf)
          | ((with_reducible refine Split.neg ?_))
          | ((with_reducible refine Split.is_true ?_ ?_); decide; conv => whnf)
          | ((with_reducible refine Split.is_false ?_ ?_); decide; conv => whnf)
          | ((with_reducible refine Split.nez (fun _ => ?_) (fun _ => ?_)) <;> conv => whnf)
          | ((with_reducible refine Split.eqz (fun _ => ?_) (fun _ => ?_)) <;> conv => whnf)
          | ((with_reducible refine Split.and ?_))
          | ((with_reducible refine Split.or ?_))
          | ((with_reducible refine Split.streq (fun _ => ?_) (fun _ => ?_)) <;> conv => whnf)
          | ((with_reducible refine Split.dec (fun _ => ?_) (fun _ => ?_)) <;> conv => whnf)
          | ((with_reducible refine Split.mk (fun _ => ?_) (fun _ => ?_)) <;> conv => whnf)
          | ((with_reducible refine Need.mk ?_ ?_); (first | omega | rfl | decide | (refine ⟨?_, ?_⟩ <;> simp <;> omega) | (simp; omega)); conv => whnf)
          | ((with_reducible refine Wr.quo ?_ ?_ ?_ ?_); omega; omega; omega; conv => whnf)
          | ((with_reducible refine Wr.inr ?_ ?_); (first | omega | (simp; omega)); conv => whnf)
          | ((with_reducible refine Wr.inu ?_ ?_); omega; conv => whnf)
          | (refine CallK.mk _ (hS) ?_; conv => whnf)
          | (refine CallK.mk _ (hC) ?_; conv => whnf)
          | (refine CallK.mk _ (hA) ?_; conv => whnf)
          | (refine CallK.mk _ (hB) ?_; conv => whnf)
          | (refine CallK.mk _ (hL) ?_; conv => whnf)
          | (refine CallK.mk _ (ev_awake) ?_; conv => whnf)
          | (exfalso; first | omega | contradiction))
        all_goals first | rfl | (refine congrArg D.bool (decide_eq_true ?_); omega) | (simp [retOf]; done)
    · obtain ⟨f1, f2, f3⟩ := mix_facts (p := b.x - x) (q := x - a.x) (by omega) (by omega) (by omega) la lb
      rw [show b.x - x + (x - a.x) = b.x - a.x by omega, hmn] at f1
      rw [show b.x - x + (x - a.x) = b.x - a.x by omega, hmx] at f2
      rw [show b.x - x + (x - a.x) = b.x - a.x by omega] at f3
      generalize (lo * (b.x - x) + lo' * (x - a.x)) / (b.x - a.x) = u1 at *
      generalize upZ (hi * (b.x - x) + hi' * (x - a.x)) (b.x - a.x) = u2 at *
      cases ok <;> cases ok'
      · simp at hA hB hL
        refine ev_of_awp tysOk mixed (fn := Try.f9) Try.func9 rfl rfl rfl ?_
        conv => whnf
        repeat' (first
          | ((with_reducible refine Split.of_true ?_); conv => whnf)
          | ((with_reducible refine Split.of_false ?_); conv => whnf)
          | ((with_reducible refine Split.neg ?_))
          | ((with_reducible refine Split.is_true ?_ ?_); decide; conv => whnf)
          | ((with_reducible refine Split.is_false ?_ ?_); decide; conv => whnf)
          | ((with_reducible refine Split.nez (fun _ => ?_) (fun _ => ?_)) <;> conv => whnf)
          | ((with_reducible refine Split.eqz (fun _ => ?_) (fun _ => ?_)) <;> conv => whnf)
          | ((with_reducible refine Split.and ?_))
          | ((with_reducible refine Split.or ?_))
          | ((with_reducible refine Split.streq (fun _ => ?_) (fun _ => ?_)) <;> conv => whnf)
          | ((with_reducible refine Split.dec (fun _ => ?_) (fun _ => ?_)) <;> conv => whnf)
          | ((with_reducible refine Split.mk (fun _ => ?_) (fun _ => ?_)) <;> conv => whnf)
          | ((with_reducible refine Need.mk ?_ ?_); (first | omega | rfl | decide | (refine ⟨?_, ?_⟩ <;> simp <;> omega) | (simp; omega)); conv => whnf)
          | ((with_reducible refine Wr.quo ?_ ?_ ?_ ?_); omega; omega; omega; conv => whnf)
          | ((with_reducible refine Wr.inr ?_ ?_); (first | omega | (simp; omega)); conv => whnf)
          | ((with_reducible refine Wr.inu ?_ ?_); omega; conv => whnf)
          | (refine CallK.mk _ (hS) ?_; conv => whnf)
          | (refine CallK.mk _ (hC) ?_; conv => whnf)
          | (refine CallK.mk _ (hA) ?_; conv => whnf)
          | (refine CallK.mk _ (hB) ?_; conv => whnf)
          | (refine CallK.mk _ (hL) ?_; conv => whnf)
          | (refine CallK.mk _ (ev_awake) ?_; conv => whnf)
          | (exfalso; first | omega | contradiction))
        all_goals first | rfl | (refine congrArg D.bool (decide_eq_true ?_); omega) | (simp [retOf]; done)
      · simp at hA hB hL
        refine ev_of_awp tysOk mixed (fn := Try.f9) Try.func9 rfl rfl rfl ?_
        conv => whnf
        repeat' (first
          | ((with_reducible refine Split.of_true ?_); conv => whnf)
          | ((with_reducible refine Split.of_false ?_); conv => whnf)
          | ((with_reducible refine Split.neg ?_))
          | ((with_reducible refine Split.is_true ?_ ?_); decide; conv => whnf)
          | ((with_reducible refine Split.is_false ?_ ?_); decide; conv => whnf)
          | ((with_reducible refine Split.nez (fun _ => ?_) (fun _ => ?_)) <;> conv => whnf)
          | ((with_reducible refine Split.eqz (fun _ => ?_) (fun _ => ?_)) <;> conv => whnf)
          | ((with_reducible refine Split.and ?_))
          | ((with_reducible refine Split.or ?_))
          | ((with_reducible refine Split.streq (fun _ => ?_) (fun _ => ?_)) <;> conv => whnf)
          | ((with_reducible refine Split.dec (fun _ => ?_) (fun _ => ?_)) <;> conv => whnf)
          | ((with_reducible refine Split.mk (fun _ => ?_) (fun _ => ?_)) <;> conv => whnf)
          | ((with_reducible refine Need.mk ?_ ?_); (first | omega | rfl | decide | (refine ⟨?_, ?_⟩ <;> simp <;> omega) | (simp; omega)); conv => whnf)
          | ((with_reducible refine Wr.quo ?_ ?_ ?_ ?_); omega; omega; omega; conv => whnf)
          | ((with_reducible refine Wr.inr ?_ ?_); (first | omega | (simp; omega)); conv => whnf)
          | ((with_reducible refine Wr.inu ?_ ?_); omega; conv => whnf)
          | (refine CallK.mk _ (hS) ?_; conv => whnf)
          | (refine CallK.mk _ (hC) ?_; conv => whnf)
          | (refine CallK.mk _ (hA) ?_; conv => whnf)
          | (refine CallK.mk _ (hB) ?_; conv => whnf)
          | (refine CallK.mk _ (hL) ?_; conv => whnf)
          | (refine CallK.mk _ (ev_awake) ?_; conv => whnf)
          | (exfalso; first | omega | contradiction))
        all_goals first | rfl | (refine congrArg D.bool (decide_eq_true ?_); omega) | (simp [retOf]; done)
      · simp at hA hB hL
        refine ev_of_awp tysOk mixed (fn := Try.f9) Try.func9 rfl rfl rfl ?_
        conv => whnf
        repeat' (first
          | ((with_reducible refine Split.of_true ?_); conv => whnf)
          | ((with_reducible refine Split.of_false ?_); conv => whnf)
          | ((with_reducible refine Split.neg ?_))
          | ((with_reducible refine Split.is_true ?_ ?_); decide; conv => whnf)
          | ((with_reducible refine Split.is_false ?_ ?_); decide; conv => whnf)
          | ((with_reducible refine Split.nez (fun _ => ?_) (fun _ => ?_)) <;> conv => whnf)
          | ((with_reducible refine Split.eqz (fun _ => ?_) (fun _ => ?_)) <;> conv => whnf)
          | ((with_reducible refine Split.and ?_))
          | ((with_reducible refine Split.or ?_))
          | ((with_reducible refine Split.streq (fun _ => ?_) (fun _ => ?_)) <;> conv => whnf)
          | ((with_reducible refine Split.dec (fun _ => ?_) (fun _ => ?_)) <;> conv => whnf)
          | ((with_reducible refine Split.mk (fun _ => ?_) (fun _ => ?_)) <;> conv => whnf)
          | ((with_reducible refine Need.mk ?_ ?_); (first | omega | rfl | decide | (refine ⟨?_, ?_⟩ <;> simp <;> omega) | (simp; omega)); conv => whnf)
          | ((with_reducible refine Wr.quo ?_ ?_ ?_ ?_); omega; omega; omega; conv => whnf)
          | ((with_reducible refine Wr.inr ?_ ?_); (first | omega | (simp; omega)); conv => whnf)
          | ((with_reducible refine Wr.inu ?_ ?_); omega; conv => whnf)
          | (refine CallK.mk _ (hS) ?_; conv => whnf)
          | (refine CallK.mk _ (hC) ?_; conv => whnf)
          | (refine CallK.mk _ (hA) ?_; conv => whnf)
          | (refine CallK.mk _ (hB) ?_; conv => whnf)
          | (refine CallK.mk _ (hL) ?_; conv => whnf)
          | (refine CallK.mk _ (ev_awake) ?_; conv => whnf)
          | (exfalso; first | omega | contradiction))
        all_goals first | rfl | (refine congrArg D.bool (decide_eq_true ?_); omega) | (simp [retOf]; done)
      · simp at hA hB hL
        refine ev_of_awp tysOk mixed (fn := Try.f9) Try.func9 rfl rfl rfl ?_
        conv => whnf
        repeat' (first
          | ((with_reducible refine Split.of_true ?_); conv => whnf)
          | ((with_reducible refine Split.of_false ?_); conv => whnf)
          | ((with_reducible refine Split.neg ?_))
          | ((with_reducible refine Split.is_true ?_ ?_); decide; conv => whnf)
          | ((with_reducible refine Split.is_false ?_ ?_); decide; conv => whnf)
          | ((with_reducible refine Split.nez (fun _ => ?_) (fun _ => ?_)) <;> conv => whnf)
          | ((with_reducible refine Split.eqz (fun _ => ?_) (fun _ => ?_)) <;> conv => whnf)
          | ((with_reducible refine Split.and ?_))
          | ((with_reducible refine Split.or ?_))
          | ((with_reducible refine Split.streq (fun _ => ?_) (fun _ => ?_)) <;> conv => whnf)
          | ((with_reducible refine Split.dec (fun _ => ?_) (fun _ => ?_)) <;> conv => whnf)
          | ((with_reducible refine Split.mk (fun _ => ?_) (fun _ => ?_)) <;> conv => whnf)
          | ((with_reducible refine Need.mk ?_ ?_); (first | omega | rfl | decide | (refine ⟨?_, ?_⟩ <;> simp <;> omega) | (simp; omega)); conv => whnf)
          | ((with_reducible refine Wr.quo ?_ ?_ ?_ ?_); omega; omega; omega; conv => whnf)
          | ((with_reducible refine Wr.inr ?_ ?_); (first | omega | (simp; omega)); conv => whnf)
          | ((with_reducible refine Wr.inu ?_ ?_); omega; conv => whnf)
          | (refine CallK.mk _ (hS) ?_; conv => whnf)
          | (refine CallK.mk _ (hC) ?_; conv => whnf)
          | (refine CallK.mk _ (hA) ?_; conv => whnf)
          | (refine CallK.mk _ (hB) ?_; conv => whnf)
          | (refine CallK.mk _ (hL) ?_; conv => whnf)
          | (refine CallK.mk _ (ev_awake) ?_; conv => whnf)
          | (exfalso; first | omega | contradiction))
        all_goals first | rfl | (refine congrArg D.bool (decide_eq_true ?_); omega) | (simp [retOf]; done)
  · refine ev_of_awp tysOk mixed (fn := Try.f9) Try.func9 rfl rfl rfl ?_
    conv => whnf
    repeat' (first
      | ((with_reducible refine Split.of_true ?_); conv => whnf)
      | ((with_reducible refine Split.of_false ?_); conv => whnf)
      | ((with_reducible refine Split.neg ?_))
      | ((with_reducible refine Split.is_true ?_ ?_); decide; conv => whnf)
      | ((with_reducible refine Split.is_false ?_ ?_); decide; conv => whnf)
      | ((with_reducible refine Split.nez (fun _ => ?_) (fun _ => ?_)) <;> conv => whnf)
      | ((with_reducible refine Split.eqz (fun _ => ?_) (fun _ => ?_)) <;> conv => whnf)
      | ((with_reducible refine Split.and ?_))
      | ((with_reducible refine Split.or ?_))
      | ((with_reducible refine Split.streq (fun _ => ?_) (fun _ => ?_)) <;> conv => whnf)
      | ((with_reducible refine Split.dec (fun _ => ?_) (fun _ => ?_)) <;> conv => whnf)
      | ((with_reducible refine Split.mk (fun _ => ?_) (fun _ => ?_)) <;> conv => whnf)
      | ((with_reducible refine Need.mk ?_ ?_); (first | omega | rfl | decide | (refine ⟨?_, ?_⟩ <;> simp <;> omega) | (simp; omega)); conv => whnf)
      | ((with_reducible refine Wr.quo ?_ ?_ ?_ ?_); omega; omega; omega; conv => whnf)
      | ((with_reducible refine Wr.inr ?_ ?_); (first | omega | (simp; omega)); conv => whnf)
      | ((with_reducible refine Wr.inu ?_ ?_); omega; conv => whnf)
      | (refine CallK.mk _ (hS) ?_; conv => whnf)
      | (refine CallK.mk _ (hC) ?_; conv => whnf)
      | (refine CallK.mk _ (ev_awake) ?_; conv => whnf)
      | (exfalso; first | omega | contradiction))
    all_goals first | rfl | (exfalso; omega)
end Go.Proofs.Try
