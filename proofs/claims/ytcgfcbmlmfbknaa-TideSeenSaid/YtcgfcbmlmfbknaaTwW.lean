import Derived.Test.YtcgfcbmlmfbknaaTwU
open Go Go.Vm Go.Shelf
namespace Go.Proofs.Try
set_option maxRecDepth 20000
set_option maxHeartbeats 2000000
theorem cal_good {g : Ga} {l : List Mk} (h : seenErr g l = 0) (hn : needT g l l.length ≤ 1000) : gErr { g with err := needT g l l.length } = 0 := by
  obtain ⟨hG, h1, -⟩ := seen_ok h
  have hN := need_facts g l l.length (Nat.le_refl _)
  obtain ⟨n1, n2⟩ := gErr_parts.1 h1
  have := n2.err
  refine gErr_parts.2 ⟨n1, ?_, n2.x, n2.len, n2.ok, n2.asc⟩
  show 0 ≤ needT g l l.length ∧ needT g l l.length ≤ 1000
  omega
theorem ev_TideSeen (g : Ga) (l : List Mk) : Ev Try.prog 7 [gD g, .sl 2 (l.map mD)] (.bool true) := by
  have hlen : (l.map mD).length = l.length := List.length_map _
  have hR := ev_Residuals g l
  have hC := ev_Calibrate g l
  by_cases h0 : seenErr g l = 0
  · obtain ⟨hG, h1, hl, hl0, hm⟩ := seen_ok h0
    have hRR := ev_ResidualsR g l h0
    have hN := ev_Need g l h0
    rw [h0] at hR
    generalize resS g l = r at hR hRR
    obtain ⟨lo, hi⟩ := r
    have nf := need_facts g l l.length (Nat.le_refl _)
    by_cases hn : 1000 < needT g l l.length
    · have e : calE g l = 2 := by rw [calE, if_neg (by simp [h0]), if_pos hn]
      have eG : calG g l = gzG := by rw [calG, e, if_neg (by decide)]
      rw [e, eG] at hC
      have hz := ev_none gzG (by decide)
      rw [eqB_self] at hz
      refine ev_of_awp tysOk mixed (fn := Try.f7) Try.func7 rfl rfl rfl ?_
      conv => whnf
      repeat' (first
        | ((with_reducible refine Split.of_true ?_); conv => whnf)
        | ((with_reducible refine Split.of_false ?_); conv => whnf)
        | ((with_reducible refine Split.neg ?_))
        | ((with_reducible refine Split.is_true ?_ ?_); decide; conv => whnf)
        | ((with_reducible refine Split.is_false ?_ ?_); decide; conv => whnf)
        | ((with_reducible refine Split.nez (fun _ => ?_) (fun _ => ?_)) <;> conv => whnf)
        | ((with_reducible refine Split.eqz (fun _ => ?_) (fun _ => ?_)) <;> conv => whnf)
        | ((with_reducible refine Split.and ?_))
        | ((with_reducible refine Split.or ?_))
        | ((with_reducible refine Split.streq (fun _ => ?_) (fun _ => ?_)) <;> conv => whnf)
        | ((with_reducible refine Split.dec (fun _ => ?_) (fun _ => ?_)) <;> conv => whnf)
        | ((with_reducible refine Split.mk (fun _ => ?_) (fun _ => ?_)) <;> conv => whnf)
        | ((with_reducible refine Need.mk ?_ ?_); (first | omega | rfl | decide | (refine ⟨?_, ?_⟩ <;> simp <;> omega) | (simp; omega)); conv => whnf)
        | ((with_reducible refine Wr.quo ?_ ?_ ?_ ?_); omega; omega; omega; conv => whnf)
        | ((with_reducible refine Wr.inr ?_ ?_); (first | omega | (simp; omega)); conv => whnf)
        | ((with_reducible refine Wr.inu ?_ ?_); omega; conv => whnf)
        | (refine CallK.mk _ (ev_awake) ?_; conv => whnf)
        | (refine CallK.mk _ (ev_Short g) ?_; conv => whnf)
        | (refine CallK.mk _ (hR) ?_; conv => whnf)
        | (refine CallK.mk _ (hC) ?_; conv => whnf)
        | (refine CallK.mk _ (ev_CheckSeenR g l) ?_; conv => whnf)
        | (refine CallK.mk _ (hRR) ?_; conv => whnf)
        | (refine CallK.mk _ (hN) ?_; conv => whnf)
        | (refine CallK.mk _ (hz) ?_; conv => whnf)
        | (exfalso; first | omega | contradiction))
      all_goals rfl
    · have e : calE g l = 0 := by rw [calE, if_neg (by simp [h0]), if_neg hn]
      have eG : calG g l = { g with err := needT g l l.length } := by rw [calG, if_pos e]
      rw [e, eG] at hC
      have hcg := cal_good h0 (by omega)
      have hs := ev_same { g with err := needT g l l.length } { g with err := needT g l l.length } (by have := hG.len; show g.marks.length < 1000000; omega)
      rw [eqB_self] at hs
      refine ev_of_awp tysOk mixed (fn := Try.f7) Try.func7 rfl rfl rfl ?_
      conv => whnf
      repeat' (first
        | ((with_reducible refine Split.of_true ?_); conv => whnf)
        | ((with_reducible refine Split.of_false ?_); conv => whnf)
        | ((with_reducible refine Split.neg ?_))
        | ((with_reducible refine Split.is_true ?_ ?_); decide; conv => whnf)
        | ((with_reducible refine Split.is_false ?_ ?_); decide; conv => whnf)
        | ((with_reducible refine Split.nez (fun _ => ?_) (fun _ => ?_)) <;> conv => whnf)
        | ((with_reducible refine Split.eqz (fun _ => ?_) (fun _ => ?_)) <;> conv => whnf)
        | ((with_reducible refine Split.and ?_))
        | ((with_reducible refine Split.or ?_))
        | ((with_reducible refine Split.streq (fun _ => ?_) (fun _ => ?_)) <;> conv => whnf)
        | ((with_reducible refine Split.dec (fun _ => ?_) (fun _ => ?_)) <;> conv => whnf)
        | ((with_reducible refine Split.mk (fun _ => ?_) (fun _ => ?_)) <;> conv => whnf)
        | ((with_reducible refine Need.mk ?_ ?_); (first | omega | rfl | decide | (refine ⟨?_, ?_⟩ <;> simp <;> omega) | (simp; omega)); conv => whnf)
        | ((with_reducible refine Wr.quo ?_ ?_ ?_ ?_); omega; omega; omega; conv => whnf)
        | ((with_reducible refine Wr.inr ?_ ?_); (first | omega | (simp; omega)); conv => whnf)
        | ((with_reducible refine Wr.inu ?_ ?_); omega; conv => whnf)
        | (refine CallK.mk _ (ev_awake) ?_; conv => whnf)
        | (refine CallK.mk _ (ev_Short g) ?_; conv => whnf)
        | (refine CallK.mk _ (hR) ?_; conv => whnf)
        | (refine CallK.mk _ (hC) ?_; conv => whnf)
        | (refine CallK.mk _ (ev_CheckSeenR g l) ?_; conv => whnf)
        | (refine CallK.mk _ (hRR) ?_; conv => whnf)
        | (refine CallK.mk _ (hN) ?_; conv => whnf)
        | (refine CallK.mk _ (hs) ?_; conv => whnf)
        | (exfalso; first | omega | contradiction))
      · rfl
      · refine LoopK.ov (fun x : Nat × Bool => x.1 ≤ l.length ∧ (x.2 = false → needT g l l.length ≠ g.err ∧ ∀ (j : Nat) m, j < x.1 → l[j]? = some m → needT g l l.length ≠ fl g m - m.l ∧ needT g l l.length ≠ m.l - cl g m))
          (fun x => [(12, .d (.bool x.2)), (13, .d (.int .i64 x.1))]) [] (fun _ => [])
          (fun x => l.length - x.1) (0, needT g l l.length == g.err) ⟨by simp, fun h => ⟨by simpa using h, fun j m h => absurd h (by simp)⟩⟩ ⟨by (repeat' (first | exact True.intro | exact rfl | refine ⟨?_, ?_⟩ | (intro h; cases h; done) | (intro h; exact h) | exact map_snoc | (refine own_congr ?_; simp; done) | (refine int_congr ?_; (first | omega | (simp; omega))) | (simp; done))), by (repeat' (first | exact True.intro | exact rfl | refine ⟨?_, ?_⟩ | (intro h; cases h; done) | (intro h; exact h) | exact map_snoc | (refine own_congr ?_; simp; done) | (refine int_congr ?_; (first | omega | (simp; omega))) | (simp; done))), rfl⟩ ?_
        rintro ⟨i, b⟩ ⟨hi, hI⟩
        dsimp only at hi hI ⊢
        have hn' : (i : Int) < l.length → ∃ m, l[i]? = some m := fun h => some_of_lt (by omega)
        by_cases hlt : i < l.length
        · obtain ⟨m, hmi⟩ := hn' (by omega)
          obtain ⟨hw, hok⟩ := hm m (List.mem_of_getElem? hmi)
          have hw := wrongB_false hw
          have hA := ev_At { g with err := needT g l l.length } m.m
          have eA : AtS { g with err := needT g l l.length } m.m = (fl g m - needT g l l.length, cl g m + needT g l l.length, 0) := by
            have h2 : outsideB m.m 0 1000000 = false := by simp [outsideB]; omega
            have h3 : meanS { g with err := needT g l l.length } m.m = meanS g m.m := rfl
            simp [AtS, hcg, h2, atS, h3, hok, fl, cl]
          rw [eA] at hA
          have nm := nf.2.1 i m hlt hmi
          have hb := mean_bd (t := m.m) hG
          have q1 := ediv_bd (a := (meanS g m.m).1) (M := 60000000000) hb.1 (by omega)
          have q2 := ediv_bd (a := -(meanS g m.m).1) (M := 60000000000) hb.1 (by omega)
          have hF : fl g m = (meanS g m.m).1 / (meanS g m.m).2.1 := rfl
          have hI' : ∀ b' : Bool, (b' = false → b = false ∧ needT g l l.length ≠ fl g m - m.l ∧ needT g l l.length ≠ m.l - cl g m) → b' = false → needT g l l.length ≠ g.err ∧ ∀ (j : Nat) x, j < i + 1 → l[j]? = some x → needT g l l.length ≠ fl g x - x.l ∧ needT g l l.length ≠ x.l - cl g x := by
            intro b' h h'
            obtain ⟨k1, k2⟩ := h h'
            obtain ⟨k3, k4⟩ := hI k1
            refine ⟨k3, fun j x hj hx => ?_⟩
            by_cases ej : j = i
            · subst ej; rw [hmi] at hx; cases hx; exact k2
            · exact k4 j x (by omega) hx
          simp only [At3D] at hA
          conv => whnf
          repeat' (first
            | ((refine PickE.map i hmi (by omega) ?_); conv => whnf)
            | ((with_reducible refine Split.of_true ?_); conv => whnf)
            | ((with_reducible refine Split.of_false ?_); conv => whnf)
            | ((with_reducible refine Split.neg ?_))
            | ((with_reducible refine Split.is_true ?_ ?_); decide; conv => whnf)
            | ((with_reducible refine Split.is_false ?_ ?_); decide; conv => whnf)
            | ((with_reducible refine Split.nez (fun _ => ?_) (fun _ => ?_)) <;> conv => whnf)
            | ((with_reducible refine Split.eqz (fun _ => ?_) (fun _ => ?_)) <;> conv => whnf)
            | ((with_reducible refine Split.and ?_))
            | ((with_reducible refine Split.or ?_))
            | ((with_reducible refine Split.streq (fun _ => ?_) (fun _ => ?_)) <;> conv => whnf)
            | ((with_reducible refine Split.dec (fun _ => ?_) (fun _ => ?_)) <;> conv => whnf)
            | ((with_reducible refine Split.mk (fun _ => ?_) (fun _ => ?_)) <;> conv => whnf)
            | ((with_reducible refine Need.mk ?_ ?_); (first | omega | rfl | decide | (refine ⟨?_, ?_⟩ <;> simp <;> omega) | (simp; omega)); conv => whnf)
            | ((with_reducible refine Wr.quo ?_ ?_ ?_ ?_); omega; omega; omega; conv => whnf)
            | ((with_reducible refine Wr.inr ?_ ?_); (first | omega | (simp; omega)); conv => whnf)
            | ((with_reducible refine Wr.inu ?_ ?_); omega; conv => whnf)
            | (refine CallK.mk _ (hA) ?_; conv => whnf)
            | (exfalso; first | omega | contradiction))
          · exact Again.au (i + 1, true) ⟨by simp only; omega, fun h => (by cases h)⟩ (by simp only; omega) ⟨by (repeat' (first | exact True.intro | exact rfl | refine ⟨?_, ?_⟩ | (intro h; cases h; done) | (intro h; exact h) | exact map_snoc | (refine own_congr ?_; simp; done) | (refine int_congr ?_; (first | omega | (simp; omega))) | (simp; done))), by (repeat' (first | exact True.intro | exact rfl | refine ⟨?_, ?_⟩ | (intro h; cases h; done) | (intro h; exact h) | exact map_snoc | (refine own_congr ?_; simp; done) | (refine int_congr ?_; (first | omega | (simp; omega))) | (simp; done))), rfl⟩
          · exact Again.au (i + 1, true) ⟨by simp only; omega, fun h => (by cases h)⟩ (by simp only; omega) ⟨by (repeat' (first | exact True.intro | exact rfl | refine ⟨?_, ?_⟩ | (intro h; cases h; done) | (intro h; exact h) | exact map_snoc | (refine own_congr ?_; simp; done) | (refine int_congr ?_; (first | omega | (simp; omega))) | (simp; done))), by (repeat' (first | exact True.intro | exact rfl | refine ⟨?_, ?_⟩ | (intro h; cases h; done) | (intro h; exact h) | exact map_snoc | (refine own_congr ?_; simp; done) | (refine int_congr ?_; (first | omega | (simp; omega))) | (simp; done))), rfl⟩
          · have hb0 : b = false := by assumption
            have hne : m.l ≠ fl g m - needT g l l.length := by assumption
            refine Again.au (i + 1, m.l == cl g m + needT g l l.length) ⟨by simp only; omega, hI' _ fun h => ⟨hb0, ?_⟩⟩ (by simp only; omega) ⟨by (repeat' (first | exact True.intro | exact rfl | refine ⟨?_, ?_⟩ | (intro h; cases h; done) | (intro h; exact h) | exact map_snoc | (refine own_congr ?_; simp; done) | (refine int_congr ?_; (first | omega | (simp; omega))) | (simp; done))), by (repeat' (first | exact True.intro | exact rfl | refine ⟨?_, ?_⟩ | (intro h; cases h; done) | (intro h; exact h) | exact map_snoc | (refine own_congr ?_; simp; done) | (refine int_congr ?_; (first | omega | (simp; omega))) | (simp; done))), rfl⟩
            have h : m.l ≠ cl g m + needT g l l.length := by simpa using h
            omega
        · have e : i = l.length := by omega
          subst e
          have hb : b = true := by
            cases b with
            | true => rfl
            | false =>
              obtain ⟨k1, k2⟩ := hI rfl
              rcases nf.2.2 with h | ⟨j, m, hj, hm', h⟩
              · exact absurd h k1
              · have := k2 j m hj hm'
                omega
          subst hb
          conv => whnf
          repeat' (first
            | ((with_reducible refine Split.of_true ?_); conv => whnf)
            | ((with_reducible refine Split.of_false ?_); conv => whnf)
            | ((with_reducible refine Split.neg ?_))
            | ((with_reducible refine Split.is_true ?_ ?_); decide; conv => whnf)
            | ((with_reducible refine Split.is_false ?_ ?_); decide; conv => whnf)
            | ((with_reducible refine Split.nez (fun _ => ?_) (fun _ => ?_)) <;> conv => whnf)
            | ((with_reducible refine Split.eqz (fun _ => ?_) (fun _ => ?_)) <;> conv => whnf)
            | ((with_reducible refine Split.and ?_))
            | ((with_reducible refine Split.or ?_))
            | ((with_reducible refine Split.streq (fun _ => ?_) (fun _ => ?_)) <;> conv => whnf)
            | ((with_reducible refine Split.dec (fun _ => ?_) (fun _ => ?_)) <;> conv => whnf)
            | ((with_reducible refine Split.mk (fun _ => ?_) (fun _ => ?_)) <;> conv => whnf)
            | ((with_reducible refine Need.mk ?_ ?_); (first | omega | rfl | decide | (refine ⟨?_, ?_⟩ <;> simp <;> omega) | (simp; omega)); conv => whnf)
            | ((with_reducible refine Wr.quo ?_ ?_ ?_ ?_); omega; omega; omega; conv => whnf)
            | ((with_reducible refine Wr.inr ?_ ?_); (first | omega | (simp; omega)); conv => whnf)
            | ((with_reducible refine Wr.inu ?_ ?_); omega; conv => whnf)
            | (exfalso; first | omega | contradiction))
          rfl
      · rfl
  · have e : calE g l = seenErr g l := by rw [calE, if_pos h0]
    have eG : calG g l = gzG := by rw [calG, e, if_neg h0]
    have eR : resS g l = (0, 0) := by rw [resS, if_neg h0]
    rw [e, eG] at hC
    rw [eR] at hR
    have hz := ev_none gzG (by decide)
    rw [eqB_self] at hz
    refine ev_of_awp tysOk mixed (fn := Try.f7) Try.func7 rfl rfl rfl ?_
    conv => whnf
    repeat' (first
      | ((with_reducible refine Split.of_true ?_); conv => whnf)
      | ((with_reducible refine Split.of_false ?_); conv => whnf)
      | ((with_reducible refine Split.neg ?_))
      | ((with_reducible refine Split.is_true ?_ ?_); decide; conv => whnf)
      | ((with_reducible refine Split.is_false ?_ ?_); decide; conv => whnf)
      | ((with_reducible refine Split.nez (fun _ => ?_) (fun _ => ?_)) <;> conv => whnf)
      | ((with_reducible refine Split.eqz (fun _ => ?_) (fun _ => ?_)) <;> conv => whnf)
      | ((with_reducible refine Split.and ?_))
      | ((with_reducible refine Split.or ?_))
      | ((with_reducible refine Split.streq (fun _ => ?_) (fun _ => ?_)) <;> conv => whnf)
      | ((with_reducible refine Split.dec (fun _ => ?_) (fun _ => ?_)) <;> conv => whnf)
      | ((with_reducible refine Split.mk (fun _ => ?_) (fun _ => ?_)) <;> conv => whnf)
      | ((with_reducible refine Need.mk ?_ ?_); (first | omega | rfl | decide | (refine ⟨?_, ?_⟩ <;> simp <;> omega) | (simp; omega)); conv => whnf)
      | ((with_reducible refine Wr.quo ?_ ?_ ?_ ?_); omega; omega; omega; conv => whnf)
      | ((with_reducible refine Wr.inr ?_ ?_); (first | omega | (simp; omega)); conv => whnf)
      | ((with_reducible refine Wr.inu ?_ ?_); omega; conv => whnf)
      | (refine CallK.mk _ (ev_awake) ?_; conv => whnf)
      | (refine CallK.mk _ (ev_Short g) ?_; conv => whnf)
      | (refine CallK.mk _ (hR) ?_; conv => whnf)
      | (refine CallK.mk _ (hC) ?_; conv => whnf)
      | (refine CallK.mk _ (ev_CheckSeenR g l) ?_; conv => whnf)
      | (refine CallK.mk _ (hz) ?_; conv => whnf)
      | (exfalso; first | omega | contradiction))
    all_goals rfl
end Go.Proofs.Try
