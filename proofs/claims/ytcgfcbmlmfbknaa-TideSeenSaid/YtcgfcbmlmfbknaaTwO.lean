import Derived.Test.YtcgfcbmlmfbknaaTwN
namespace Go.Proofs.Try
open Go Go.Vm
set_option maxRecDepth 20000
set_option maxHeartbeats 2000000
def wD (w : Int × Int) : D := .agg [.int .i64 w.1, .int .i64 w.2]
structure Vw where
  gs : List Ga
  x : Int
  w : Int × Int
def vD (v : Vw) : D := .agg [.sl 4 (v.gs.map gD), .int .i64 v.x, .int .i64 v.w.1, .int .i64 v.w.2]
def badW (w : Int × Int) : Bool := decide (w.1 < 0) || (decide (w.2 < w.1) || (decide (w.2 > 1000000) || decide (w.2 - w.1 > 3000)))
def viewErr (l : List Ga) (x : Int) (w : Int × Int) : Int := if gsErr l ≠ 0 then gsErr l else if outsideB x (-1000000) 1000000 || badW w then 2 else 0
theorem ev_CheckWindow (w : Int × Int) : Ev Try.prog 88 [wD w] (.int .i64 (if badW w then 2 else 0)) := by
  obtain ⟨a, b⟩ := w
  refine ev_of_awp tysOk mixed (fn := Try.f88) Try.func88 rfl rfl rfl ?_
  conv => whnf
  repeat' (first
    | ((with_reducible refine Split.of_true ?_); conv => whnf)
    | ((with_reducible refine Split.of_false ?_); conv => whnf)
    | ((with_reducible refine Split.neg ?_))
    | ((with_reducible refine Split.is_true ?_ ?_); decide; conv => whnf)
    | ((with_reducible refine Split.is_false ?_ ?_); decide; conv => whnf)
    | ((with_reducible refine Split.nez (fun _ => ?_) (fun _ => ?_)) <;> conv => whnf)
    | ((with_reducible refine Split.eqz (fun _ => ?_) (fun _ => ?_)) <;> conv => whnf)
    | ((with_reducible refine Split.and ?_))
    | ((with_reducible refine Split.or ?_))
    | ((with_reducible refine Split.streq (fun _ => ?_) (fun _ => ?_)) <;> conv => whnf)
    | ((with_reducible refine Split.dec (fun _ => ?_) (fun _ => ?_)) <;> conv => whnf)
    | ((with_reducible refine Split.mk (fun _ => ?_) (fun _ => ?_)) <;> conv => whnf)
    | ((with_reducible refine Need.mk ?_ ?_); (first | omega | rfl | decide | (refine ⟨?_, ?_⟩ <;> simp <;> omega) | (simp; omega)); conv => whnf)
    | ((with_reducible refine Wr.quo ?_ ?_ ?_ ?_); omega; omega; omega; conv => whnf)
    | ((with_reducible refine Wr.inr ?_ ?_); (first | omega | (simp; omega)); conv => whnf)
    | ((with_reducible refine Wr.inu ?_ ?_); omega; conv => whnf)
    | (exfalso; first | omega | contradiction))
  all_goals simp_all [retOf, badW]
theorem ev_CheckView (l : List Ga) (x : Int) (w : Int × Int) : Ev Try.prog 42 [.sl 4 (l.map gD), .int .i64 x, wD w] (.int .i64 (viewErr l x w)) := by
  have h1 := ev_CheckWindow w
  have h2 := ev_CheckGaugesR l
  refine ev_of_awp tysOk mixed (fn := Try.f42) Try.func42 rfl rfl rfl ?_
  conv => whnf
  repeat' (first
    | ((with_reducible refine Split.of_true ?_); conv => whnf)
    | ((with_reducible refine Split.of_false ?_); conv => whnf)
    | ((with_reducible refine Split.neg ?_))
    | ((with_reducible refine Split.is_true ?_ ?_); decide; conv => whnf)
    | ((with_reducible refine Split.is_false ?_ ?_); decide; conv => whnf)
    | ((with_reducible refine Split.nez (fun _ => ?_) (fun _ => ?_)) <;> conv => whnf)
    | ((with_reducible refine Split.eqz (fun _ => ?_) (fun _ => ?_)) <;> conv => whnf)
    | ((with_reducible refine Split.and ?_))
    | ((with_reducible refine Split.or ?_))
    | ((with_reducible refine Split.streq (fun _ => ?_) (fun _ => ?_)) <;> conv => whnf)
    | ((with_reducible refine Split.dec (fun _ => ?_) (fun _ => ?_)) <;> conv => whnf)
    | ((with_reducible refine Split.mk (fun _ => ?_) (fun _ => ?_)) <;> conv => whnf)
    | ((with_reducible refine Need.mk ?_ ?_); (first | omega | rfl | decide | (refine ⟨?_, ?_⟩ <;> simp <;> omega) | (simp; omega)); conv => whnf)
    | ((with_reducible refine Wr.quo ?_ ?_ ?_ ?_); omega; omega; omega; conv => whnf)
    | ((with_reducible refine Wr.inr ?_ ?_); (first | omega | (simp; omega)); conv => whnf)
    | ((with_reducible refine Wr.inu ?_ ?_); omega; conv => whnf)
    | (refine CallK.mk _ (h1) ?_; conv => whnf)
    | (refine CallK.mk _ (h2) ?_; conv => whnf)
    | (refine CallK.mk _ (ev_inside _ _ _) ?_; conv => whnf)
    | (exfalso; first | omega | contradiction))
  all_goals simp_all [retOf, viewErr]
theorem ev_view (l : List Ga) (x : Int) (w : Int × Int) : Ev Try.prog 87 [.sl 4 (l.map gD), .int .i64 x, wD w] (.int .i64 (viewErr l x w)) := by
  have h2 := ev_CheckGauges l
  obtain ⟨a, b⟩ := w
  refine ev_of_awp tysOk mixed (fn := Try.f87) Try.func87 rfl rfl rfl ?_
  conv => whnf
  repeat' (first
    | ((with_reducible refine Split.of_true ?_); conv => whnf)
    | ((with_reducible refine Split.of_false ?_); conv => whnf)
    | ((with_reducible refine Split.neg ?_))
    | ((with_reducible refine Split.is_true ?_ ?_); decide; conv => whnf)
    | ((with_reducible refine Split.is_false ?_ ?_); decide; conv => whnf)
    | ((with_reducible refine Split.nez (fun _ => ?_) (fun _ => ?_)) <;> conv => whnf)
    | ((with_reducible refine Split.eqz (fun _ => ?_) (fun _ => ?_)) <;> conv => whnf)
    | ((with_reducible refine Split.and ?_))
    | ((with_reducible refine Split.or ?_))
    | ((with_reducible refine Split.streq (fun _ => ?_) (fun _ => ?_)) <;> conv => whnf)
    | ((with_reducible refine Split.dec (fun _ => ?_) (fun _ => ?_)) <;> conv => whnf)
    | ((with_reducible refine Split.mk (fun _ => ?_) (fun _ => ?_)) <;> conv => whnf)
    | ((with_reducible refine Need.mk ?_ ?_); (first | omega | rfl | decide | (refine ⟨?_, ?_⟩ <;> simp <;> omega) | (simp; omega)); conv => whnf)
    | ((with_reducible refine Wr.quo ?_ ?_ ?_ ?_); omega; omega; omega; conv => whnf)
    | ((with_reducible refine Wr.inr ?_ ?_); (first | omega | (simp; omega)); conv => whnf)
    | ((with_reducible refine Wr.inu ?_ ?_); omega; conv => whnf)
    | (refine CallK.mk _ (h2) ?_; conv => whnf)
    | (refine CallK.mk _ (ev_outside _ _ _) ?_; conv => whnf)
    | (exfalso; first | omega | contradiction))
  all_goals simp_all [retOf, viewErr, badW]
theorem view_ok {l : List Ga} {x : Int} {w : Int × Int} (h : viewErr l x w = 0) : GoodAll l ∧ (-1000000 ≤ x ∧ x ≤ 1000000) ∧ 0 ≤ w.1 ∧ w.1 ≤ w.2 ∧ w.2 ≤ 1000000 ∧ w.2 - w.1 ≤ 3000 := by
  unfold viewErr at h
  split at h
  · contradiction
  · rename_i h0
    split at h
    · cases h
    · rename_i h1
      simp [outsideB, badW] at h1
      exact ⟨goodAll (by simpa using h0), by omega, by omega, by omega, by omega, by omega⟩
/-- The least and the greatest of the first k minutes. -/
def spO (l : List Ga) (x a : Int) : Nat → Int × Int
  | 0 => (0, 0)
  | k + 1 => if k = 0 then ((lvS l x (a + k)).1, (lvS l x (a + k)).2.1) else (minI (spO l x a k).1 (lvS l x (a + k)).1, maxI (spO l x a k).2 (lvS l x (a + k)).2.1)
def mins (w : Int × Int) : Nat := (w.2 - w.1 + 1).toNat
def allOk (l : List Ga) (x : Int) (w : Int × Int) : Prop := ∀ j, j < mins w → (lvS l x (w.1 + j)).2.2 = true
open Classical in
noncomputable def spanS (l : List Ga) (x : Int) (w : Int × Int) : Int × Int × Bool := if allOk l x w then ((spO l x w.1 (mins w)).1, (spO l x w.1 (mins w)).2, true) else (0, 0, false)
theorem span_bad {l : List Ga} {x : Int} {w : Int × Int} {k : Nat} (hk : k < mins w) (h : (lvS l x (w.1 + k)).2.2 = false) : spanS l x w = (0, 0, false) := by
  unfold spanS
  rw [if_neg]
  intro hall
  rw [hall k hk] at h; cases h
theorem minI_self (a : Int) : minI a a = a := by unfold minI; split <;> omega
theorem maxI_self (a : Int) : maxI a a = a := by unfold maxI; split <;> omega
theorem ev_Span (l : List Ga) (x : Int) (w : Int × Int) (h : viewErr l x w = 0) : Ev Try.prog 41 [.sl 4 (l.map gD), .int .i64 x, wD w] (.tup [ivD (spanS l x w).1 (spanS l x w).2.1, .int .i64 (if (spanS l x w).2.2 then 0 else 11)]) := by
  have hv := ev_view l x w
  rw [h] at hv
  obtain ⟨hG, hx, hw1, hw2, hw3, hw4⟩ := view_ok h
  refine ev_of_awp tysOk mixed (fn := Try.f41) Try.func41 rfl rfl rfl ?_
  conv => whnf
  repeat' (first
    | ((with_reducible refine Split.of_true ?_); conv => whnf)
    | ((with_reducible refine Split.of_false ?_); conv => whnf)
    | ((with_reducible refine Split.neg ?_))
    | ((with_reducible refine Split.is_true ?_ ?_); decide; conv => whnf)
    | ((with_reducible refine Split.is_false ?_ ?_); decide; conv => whnf)
    | ((with_reducible refine Split.nez (fun _ => ?_) (fun _ => ?_)) <;> conv => whnf)
    | ((with_reducible refine Split.eqz (fun _ => ?_) (fun _ => ?_)) <;> conv => whnf)
    | ((with_reducible refine Split.and ?_))
    | ((with_reducible refine Split.or ?_))
    | ((with_reducible refine Split.streq (fun _ => ?_) (fun _ => ?_)) <;> conv => whnf)
    | ((with_reducible refine Split.dec (fun _ => ?_) (fun _ => ?_)) <;> conv => whnf)
    | ((with_reducible refine Split.mk (fun _ => ?_) (fun _ => ?_)) <;> conv => whnf)
    | ((with_reducible refine Need.mk ?_ ?_); (first | omega | rfl | decide | (refine ⟨?_, ?_⟩ <;> simp <;> omega) | (simp; omega)); conv => whnf)
    | ((with_reducible refine Wr.quo ?_ ?_ ?_ ?_); omega; omega; omega; conv => whnf)
    | ((with_reducible refine Wr.inr ?_ ?_); (first | omega | (simp; omega)); conv => whnf)
    | ((with_reducible refine Wr.inu ?_ ?_); omega; conv => whnf)
    | (refine CallK.mk _ (hv) ?_; conv => whnf)
    | (exfalso; first | omega | contradiction))
  refine LoopK.o2 (fun k : Nat => k ≤ mins w ∧ ∀ j, j < k → (lvS l x (w.1 + j)).2.2 = true) (fun k => [(10, .d (.int .i64 (w.1 + k)))])
    (fun k => [(9, .var [.d (.int .i64 (spO l x w.1 k).1), .d (.int .i64 (spO l x w.1 k).2)] false)]) (fun k => mins w - k) 0 (by simp) ⟨by (repeat' (first | exact True.intro | exact rfl | refine ⟨?_, ?_⟩ | (intro h; cases h; done) | (intro h; exact h) | exact map_snoc | (refine own_congr ?_; simp; done) | (refine int_congr ?_; (first | omega | (simp; omega))) | (simp; done) | (refine own_congr ?_; simp [spO]; done) | (refine int_congr ?_; simp [spO]; done) | (simp [spO]; done) | (simp [D.cells, spO]; done))), by (repeat' (first | exact True.intro | exact rfl | refine ⟨?_, ?_⟩ | (intro h; cases h; done) | (intro h; exact h) | exact map_snoc | (refine own_congr ?_; simp; done) | (refine int_congr ?_; (first | omega | (simp; omega))) | (simp; done) | (refine own_congr ?_; simp [spO]; done) | (refine int_congr ?_; simp [spO]; done) | (simp [spO]; done) | (simp [D.cells, spO]; done))), rfl⟩ ?_
  rintro k ⟨hk, hok⟩
  have hmk : (mins w : Int) = w.2 - w.1 + 1 := by unfold mins; omega
  have hL : w.1 + (k : Int) ≤ w.2 → _ := fun hle => ev_level hG hx (t := w.1 + k) (by omega)
  conv => whnf
  repeat' (first
    | ((with_reducible refine Split.of_true ?_); conv => whnf)
    | ((with_reducible refine Split.of_false ?_); conv => whnf)
    | ((with_reducible refine Split.neg ?_))
    | ((with_reducible refine Split.is_true ?_ ?_); decide; conv => whnf)
    | ((with_reducible refine Split.is_false ?_ ?_); decide; conv => whnf)
    | ((with_reducible refine Split.nez (fun _ => ?_) (fun _ => ?_)) <;> conv => whnf)
    | ((with_reducible refine Split.eqz (fun _ => ?_) (fun _ => ?_)) <;> conv => whnf)
    | ((with_reducible refine Split.and ?_))
    | ((with_reducible refine Split.or ?_))
    | ((with_reducible refine Split.streq (fun _ => ?_) (fun _ => ?_)) <;> conv => whnf)
    | ((with_reducible refine Split.dec (fun _ => ?_) (fun _ => ?_)) <;> conv => whnf)
    | ((with_reducible refine Split.mk (fun _ => ?_) (fun _ => ?_)) <;> conv => whnf)
    | ((with_reducible refine Need.mk ?_ ?_); (first | omega | rfl | decide | (refine ⟨?_, ?_⟩ <;> simp <;> omega) | (simp; omega)); conv => whnf)
    | ((with_reducible refine Wr.quo ?_ ?_ ?_ ?_); omega; omega; omega; conv => whnf)
    | ((with_reducible refine Wr.inr ?_ ?_); (first | omega | (simp; omega)); conv => whnf)
    | ((with_reducible refine Wr.inu ?_ ?_); omega; conv => whnf)
    | (exfalso; first | omega | contradiction))
  · have hL := hL (by omega)
    have hbad : (lvS l x (w.1 + k)).2.2 = false → _ := fun hb => span_bad (w := w) (k := k) (by omega) hb
    have hs : spO l x w.1 (k + 1) = if k = 0 then ((lvS l x (w.1 + k)).1, (lvS l x (w.1 + k)).2.1) else (minI (spO l x w.1 k).1 (lvS l x (w.1 + k)).1, maxI (spO l x w.1 k).2 (lvS l x (w.1 + k)).2.1) := rfl
    cases hv : (lvS l x (w.1 + k)).2.2 with
    | false =>
      rw [hbad hv]
      have e : at3D (lvS l x (w.1 + k)) = .tup [ivD (lvS l x (w.1 + k)).1 (lvS l x (w.1 + k)).2.1, .bool false] := by rw [at3D, hv]
      rw [e] at hL
      conv => whnf
      repeat' (first
        | ((with_reducible refine Split.of_true ?_); conv => whnf)
        | ((with_reducible refine Split.of_false ?_); conv => whnf)
        | ((with_reducible refine Split.neg ?_))
        | ((with_reducible refine Split.is_true ?_ ?_); decide; conv => whnf)
        | ((with_reducible refine Split.is_false ?_ ?_); decide; conv => whnf)
        | ((with_reducible refine Split.nez (fun _ => ?_) (fun _ => ?_)) <;> conv => whnf)
        | ((with_reducible refine Split.eqz (fun _ => ?_) (fun _ => ?_)) <;> conv => whnf)
        | ((with_reducible refine Split.and ?_))
        | ((with_reducible refine Split.or ?_))
        | ((with_reducible refine Split.streq (fun _ => ?_) (fun _ => ?_)) <;> conv => whnf)
        | ((with_reducible refine Split.dec (fun _ => ?_) (fun _ => ?_)) <;> conv => whnf)
        | ((with_reducible refine Split.mk (fun _ => ?_) (fun _ => ?_)) <;> conv => whnf)
        | ((with_reducible refine Need.mk ?_ ?_); (first | omega | rfl | decide | (refine ⟨?_, ?_⟩ <;> simp <;> omega) | (simp; omega)); conv => whnf)
        | ((with_reducible refine Wr.quo ?_ ?_ ?_ ?_); omega; omega; omega; conv => whnf)
        | ((with_reducible refine Wr.inr ?_ ?_); (first | omega | (simp; omega)); conv => whnf)
        | ((with_reducible refine Wr.inu ?_ ?_); omega; conv => whnf)
        | (refine CallK.mk _ (hL) ?_; conv => whnf)
        | (exfalso; first | omega | contradiction))
      rfl
    | true =>
      have e : at3D (lvS l x (w.1 + k)) = .tup [ivD (lvS l x (w.1 + k)).1 (lvS l x (w.1 + k)).2.1, .bool true] := by rw [at3D, hv]
      rw [e] at hL
      have hok' : ∀ j, j < k + 1 → (lvS l x (w.1 + j)).2.2 = true := fun j hj => by
        rcases Nat.lt_or_ge j k with h | h
        · exact hok j h
        · obtain rfl : j = k := by omega
          exact hv
      by_cases hk0 : k = 0
      · subst hk0
        rw [if_pos rfl] at hs
        conv => whnf
        repeat' (first
          | ((with_reducible refine Split.of_true ?_); conv => whnf)
          | ((with_reducible refine Split.of_false ?_); conv => whnf)
          | ((with_reducible refine Split.neg ?_))
          | ((with_reducible refine Split.is_true ?_ ?_); decide; conv => whnf)
          | ((with_reducible refine Split.is_false ?_ ?_); decide; conv => whnf)
          | ((with_reducible refine Split.nez (fun _ => ?_) (fun _ => ?_)) <;> conv => whnf)
          | ((with_reducible refine Split.eqz (fun _ => ?_) (fun _ => ?_)) <;> conv => whnf)
          | ((with_reducible refine Split.and ?_))
          | ((with_reducible refine Split.or ?_))
          | ((with_reducible refine Split.streq (fun _ => ?_) (fun _ => ?_)) <;> conv => whnf)
          | ((with_reducible refine Split.dec (fun _ => ?_) (fun _ => ?_)) <;> conv => whnf)
          | ((with_reducible refine Split.mk (fun _ => ?_) (fun _ => ?_)) <;> conv => whnf)
          | ((with_reducible refine Need.mk ?_ ?_); (first | omega | rfl | decide | (refine ⟨?_, ?_⟩ <;> simp <;> omega) | (simp; omega)); conv => whnf)
          | ((with_reducible refine Wr.quo ?_ ?_ ?_ ?_); omega; omega; omega; conv => whnf)
          | ((with_reducible refine Wr.inr ?_ ?_); (first | omega | (simp; omega)); conv => whnf)
          | ((with_reducible refine Wr.inu ?_ ?_); omega; conv => whnf)
          | (refine CallK.mk _ (hL) ?_; conv => whnf)
          | (exfalso; first | omega | contradiction))
        refine Again.au (0 + 1) ⟨by omega, hok'⟩ (by omega) ?_
        rw [hs]
        exact ⟨by (repeat' (first | exact True.intro | exact rfl | refine ⟨?_, ?_⟩ | (intro h; cases h; done) | (intro h; exact h) | exact map_snoc | (refine own_congr ?_; simp; done) | (refine int_congr ?_; (first | omega | (simp; omega))) | (simp; done) | (refine own_congr ?_; simp [minI_self, maxI_self]; done) | (refine int_congr ?_; simp [minI_self, maxI_self]; done) | (simp [minI_self, maxI_self]; done) | (simp [D.cells, minI_self, maxI_self]; done))), by (repeat' (first | exact True.intro | exact rfl | refine ⟨?_, ?_⟩ | (intro h; cases h; done) | (intro h; exact h) | exact map_snoc | (refine own_congr ?_; simp; done) | (refine int_congr ?_; (first | omega | (simp; omega))) | (simp; done) | (refine own_congr ?_; simp [minI_self, maxI_self]; done) | (refine int_congr ?_; simp [minI_self, maxI_self]; done) | (simp [minI_self, maxI_self]; done) | (simp [D.cells, minI_self, maxI_self]; done))), rfl⟩
      · rw [if_neg hk0] at hs
        conv => whnf
        repeat' (first
          | ((with_reducible refine Split.of_true ?_); conv => whnf)
          | ((with_reducible refine Split.of_false ?_); conv => whnf)
          | ((with_reducible refine Split.neg ?_))
          | ((with_reducible refine Split.is_true ?_ ?_); decide; conv => whnf)
          | ((with_reducible refine Split.is_false ?_ ?_); decide; conv => whnf)
          | ((with_reducible refine Split.nez (fun _ => ?_) (fun _ => ?_)) <;> conv => whnf)
          | ((with_reducible refine Split.eqz (fun _ => ?_) (fun _ => ?_)) <;> conv => whnf)
          | ((with_reducible refine Split.and ?_))
          | ((with_reducible refine Split.or ?_))
          | ((with_reducible refine Split.streq (fun _ => ?_) (fun _ => ?_)) <;> conv => whnf)
          | ((with_reducible refine Split.dec (fun _ => ?_) (fun _ => ?_)) <;> conv => whnf)
          | ((with_reducible refine Split.mk (fun _ => ?_) (fun _ => ?_)) <;> conv => whnf)
          | ((with_reducible refine Need.mk ?_ ?_); (first | omega | rfl | decide | (refine ⟨?_, ?_⟩ <;> simp <;> omega) | (simp; omega)); conv => whnf)
          | ((with_reducible refine Wr.quo ?_ ?_ ?_ ?_); omega; omega; omega; conv => whnf)
          | ((with_reducible refine Wr.inr ?_ ?_); (first | omega | (simp; omega)); conv => whnf)
          | ((with_reducible refine Wr.inu ?_ ?_); omega; conv => whnf)
          | (refine CallK.mk _ (hL) ?_; conv => whnf)
          | (exfalso; first | omega | contradiction))
        refine Again.au (k + 1) ⟨by omega, hok'⟩ (by omega) ?_
        rw [hs]
        exact ⟨by (repeat' (first | exact True.intro | exact rfl | refine ⟨?_, ?_⟩ | (intro h; cases h; done) | (intro h; exact h) | exact map_snoc | (refine own_congr ?_; simp; done) | (refine int_congr ?_; (first | omega | (simp; omega))) | (simp; done))), by (repeat' (first | exact True.intro | exact rfl | refine ⟨?_, ?_⟩ | (intro h; cases h; done) | (intro h; exact h) | exact map_snoc | (refine own_congr ?_; simp; done) | (refine int_congr ?_; (first | omega | (simp; omega))) | (simp; done))), rfl⟩
  · have e : k = mins w := by omega
    subst e
    have hs : spanS l x w = ((spO l x w.1 (mins w)).1, (spO l x w.1 (mins w)).2, true) := by unfold spanS; rw [if_pos (by exact hok)]
    rw [hs]
    rfl
theorem ev_SpanE (l : List Ga) (x : Int) (w : Int × Int) (h : viewErr l x w ≠ 0) : Ev Try.prog 41 [.sl 4 (l.map gD), .int .i64 x, wD w] (.tup [ivD 0 0, .int .i64 (viewErr l x w)]) := by
  have hv := ev_view l x w
  refine ev_of_awp tysOk mixed (fn := Try.f41) Try.func41 rfl rfl rfl ?_
  conv => whnf
  repeat' (first
    | ((with_reducible refine Split.of_true ?_); conv => whnf)
    | ((with_reducible refine Split.of_false ?_); conv => whnf)
    | ((with_reducible refine Split.neg ?_))
    | ((with_reducible refine Split.is_true ?_ ?_); decide; conv => whnf)
    | ((with_reducible refine Split.is_false ?_ ?_); decide; conv => whnf)
    | ((with_reducible refine Split.nez (fun _ => ?_) (fun _ => ?_)) <;> conv => whnf)
    | ((with_reducible refine Split.eqz (fun _ => ?_) (fun _ => ?_)) <;> conv => whnf)
    | ((with_reducible refine Split.and ?_))
    | ((with_reducible refine Split.or ?_))
    | ((with_reducible refine Split.streq (fun _ => ?_) (fun _ => ?_)) <;> conv => whnf)
    | ((with_reducible refine Split.dec (fun _ => ?_) (fun _ => ?_)) <;> conv => whnf)
    | ((with_reducible refine Split.mk (fun _ => ?_) (fun _ => ?_)) <;> conv => whnf)
    | ((with_reducible refine Need.mk ?_ ?_); (first | omega | rfl | decide | (refine ⟨?_, ?_⟩ <;> simp <;> omega) | (simp; omega)); conv => whnf)
    | ((with_reducible refine Wr.quo ?_ ?_ ?_ ?_); omega; omega; omega; conv => whnf)
    | ((with_reducible refine Wr.inr ?_ ?_); (first | omega | (simp; omega)); conv => whnf)
    | ((with_reducible refine Wr.inu ?_ ?_); omega; conv => whnf)
    | (refine CallK.mk _ (hv) ?_; conv => whnf)
    | (exfalso; first | omega | contradiction))
  rfl
theorem ev_SpanR (l : List Ga) (x : Int) (w : Int × Int) (h : viewErr l x w = 0) : Ev Try.prog 43 [.sl 4 (l.map gD), .int .i64 x, wD w] (.tup [ivD (spanS l x w).1 (spanS l x w).2.1, .bool (spanS l x w).2.2]) := by
  obtain ⟨hG, hx, hw1, hw2, hw3, hw4⟩ := view_ok h
  refine ev_of_awp tysOk mixed (fn := Try.f43) Try.func43 rfl rfl rfl ?_
  conv => whnf
  repeat' (first
    | ((with_reducible refine Split.of_true ?_); conv => whnf)
    | ((with_reducible refine Split.of_false ?_); conv => whnf)
    | ((with_reducible refine Split.neg ?_))
    | ((with_reducible refine Split.is_true ?_ ?_); decide; conv => whnf)
    | ((with_reducible refine Split.is_false ?_ ?_); decide; conv => whnf)
    | ((with_reducible refine Split.nez (fun _ => ?_) (fun _ => ?_)) <;> conv => whnf)
    | ((with_reducible refine Split.eqz (fun _ => ?_) (fun _ => ?_)) <;> conv => whnf)
    | ((with_reducible refine Split.and ?_))
    | ((with_reducible refine Split.or ?_))
    | ((with_reducible refine Split.streq (fun _ => ?_) (fun _ => ?_)) <;> conv => whnf)
    | ((with_reducible refine Split.dec (fun _ => ?_) (fun _ => ?_)) <;> conv => whnf)
    | ((with_reducible refine Split.mk (fun _ => ?_) (fun _ => ?_)) <;> conv => whnf)
    | ((with_reducible refine Need.mk ?_ ?_); (first | omega | rfl | decide | (refine ⟨?_, ?_⟩ <;> simp <;> omega) | (simp; omega)); conv => whnf)
    | ((with_reducible refine Wr.quo ?_ ?_ ?_ ?_); omega; omega; omega; conv => whnf)
    | ((with_reducible refine Wr.inr ?_ ?_); (first | omega | (simp; omega)); conv => whnf)
    | ((with_reducible refine Wr.inu ?_ ?_); omega; conv => whnf)
    | (exfalso; first | omega | contradiction))
  refine LoopK.o2 (fun k : Nat => k ≤ mins w ∧ ∀ j, j < k → (lvS l x (w.1 + j)).2.2 = true) (fun k => [(9, .d (.int .i64 (w.1 + k)))])
    (fun k => [(8, .var [.d (.int .i64 (spO l x w.1 k).1), .d (.int .i64 (spO l x w.1 k).2)] false)]) (fun k => mins w - k) 0 (by simp) ⟨by (repeat' (first | exact True.intro | exact rfl | refine ⟨?_, ?_⟩ | (intro h; cases h; done) | (intro h; exact h) | exact map_snoc | (refine own_congr ?_; simp; done) | (refine int_congr ?_; (first | omega | (simp; omega))) | (simp; done) | (refine own_congr ?_; simp [spO]; done) | (refine int_congr ?_; simp [spO]; done) | (simp [spO]; done) | (simp [D.cells, spO]; done))), by (repeat' (first | exact True.intro | exact rfl | refine ⟨?_, ?_⟩ | (intro h; cases h; done) | (intro h; exact h) | exact map_snoc | (refine own_congr ?_; simp; done) | (refine int_congr ?_; (first | omega | (simp; omega))) | (simp; done) | (refine own_congr ?_; simp [spO]; done) | (refine int_congr ?_; simp [spO]; done) | (simp [spO]; done) | (simp [D.cells, spO]; done))), rfl⟩ ?_
  rintro k ⟨hk, hok⟩
  have hmk : (mins w : Int) = w.2 - w.1 + 1 := by unfold mins; omega
  have hL : w.1 + (k : Int) ≤ w.2 → _ := fun hle => ev_LevelR hG hx (t := w.1 + k) (by omega)
  conv => whnf
  repeat' (first
    | ((with_reducible refine Split.of_true ?_); conv => whnf)
    | ((with_reducible refine Split.of_false ?_); conv => whnf)
    | ((with_reducible refine Split.neg ?_))
    | ((with_reducible refine Split.is_true ?_ ?_); decide; conv => whnf)
    | ((with_reducible refine Split.is_false ?_ ?_); decide; conv => whnf)
    | ((with_reducible refine Split.nez (fun _ => ?_) (fun _ => ?_)) <;> conv => whnf)
    | ((with_reducible refine Split.eqz (fun _ => ?_) (fun _ => ?_)) <;> conv => whnf)
    | ((with_reducible refine Split.and ?_))
    | ((with_reducible refine Split.or ?_))
    | ((with_reducible refine Split.streq (fun _ => ?_) (fun _ => ?_)) <;> conv => whnf)
    | ((with_reducible refine Split.dec (fun _ => ?_) (fun _ => ?_)) <;> conv => whnf)
    | ((with_reducible refine Split.mk (fun _ => ?_) (fun _ => ?_)) <;> conv => whnf)
    | ((with_reducible refine Need.mk ?_ ?_); (first | omega | rfl | decide | (refine ⟨?_, ?_⟩ <;> simp <;> omega) | (simp; omega)); conv => whnf)
    | ((with_reducible refine Wr.quo ?_ ?_ ?_ ?_); omega; omega; omega; conv => whnf)
    | ((with_reducible refine Wr.inr ?_ ?_); (first | omega | (simp; omega)); conv => whnf)
    | ((with_reducible refine Wr.inu ?_ ?_); omega; conv => whnf)
    | (exfalso; first | omega | contradiction))
  · have hL := hL (by omega)
    have hbad : (lvS l x (w.1 + k)).2.2 = false → _ := fun hb => span_bad (w := w) (k := k) (by omega) hb
    have hs : spO l x w.1 (k + 1) = if k = 0 then ((lvS l x (w.1 + k)).1, (lvS l x (w.1 + k)).2.1) else (minI (spO l x w.1 k).1 (lvS l x (w.1 + k)).1, maxI (spO l x w.1 k).2 (lvS l x (w.1 + k)).2.1) := rfl
    cases hv : (lvS l x (w.1 + k)).2.2 with
    | false =>
      rw [hbad hv]
      have e : at3D (lvS l x (w.1 + k)) = .tup [ivD (lvS l x (w.1 + k)).1 (lvS l x (w.1 + k)).2.1, .bool false] := by rw [at3D, hv]
      rw [e] at hL
      conv => whnf
      repeat' (first
        | ((with_reducible refine Split.of_true ?_); conv => whnf)
        | ((with_reducible refine Split.of_false ?_); conv => whnf)
        | ((with_reducible refine Split.neg ?_))
        | ((with_reducible refine Split.is_true ?_ ?_); decide; conv => whnf)
        | ((with_reducible refine Split.is_false ?_ ?_); decide; conv => whnf)
        | ((with_reducible refine Split.nez (fun _ => ?_) (fun _ => ?_)) <;> conv => whnf)
        | ((with_reducible refine Split.eqz (fun _ => ?_) (fun _ => ?_)) <;> conv => whnf)
        | ((with_reducible refine Split.and ?_))
        | ((with_reducible refine Split.or ?_))
        | ((with_reducible refine Split.streq (fun _ => ?_) (fun _ => ?_)) <;> conv => whnf)
        | ((with_reducible refine Split.dec (fun _ => ?_) (fun _ => ?_)) <;> conv => whnf)
        | ((with_reducible refine Split.mk (fun _ => ?_) (fun _ => ?_)) <;> conv => whnf)
        | ((with_reducible refine Need.mk ?_ ?_); (first | omega | rfl | decide | (refine ⟨?_, ?_⟩ <;> simp <;> omega) | (simp; omega)); conv => whnf)
        | ((with_reducible refine Wr.quo ?_ ?_ ?_ ?_); omega; omega; omega; conv => whnf)
        | ((with_reducible refine Wr.inr ?_ ?_); (first | omega | (simp; omega)); conv => whnf)
        | ((with_reducible refine Wr.inu ?_ ?_); omega; conv => whnf)
        | (refine CallK.mk _ (hL) ?_; conv => whnf)
        | (exfalso; first | omega | contradiction))
      rfl
    | true =>
      have e : at3D (lvS l x (w.1 + k)) = .tup [ivD (lvS l x (w.1 + k)).1 (lvS l x (w.1 + k)).2.1, .bool true] := by rw [at3D, hv]
      rw [e] at hL
      have hok' : ∀ j, j < k + 1 → (lvS l x (w.1 + j)).2.2 = true := fun j hj => by
        rcases Nat.lt_or_ge j k with h | h
        · exact hok j h
        · obtain rfl : j = k := by omega
          exact hv
      by_cases hk0 : k = 0
      · subst hk0
        rw [if_pos rfl] at hs
        conv => whnf
        repeat' (first
          | ((with_reducible refine Split.of_true ?_); conv => whnf)
          | ((with_reducible refine Split.of_false ?_); conv => whnf)
          | ((with_reducible refine Split.neg ?_))
          | ((with_reducible refine Split.is_true ?_ ?_); decide; conv => whnf)
          | ((with_reducible refine Split.is_false ?_ ?_); decide; conv => whnf)
          | ((with_reducible refine Split.nez (fun _ => ?_) (fun _ => ?_)) <;> conv => whnf)
          | ((with_reducible refine Split.eqz (fun _ => ?_) (fun _ => ?_)) <;> conv => whnf)
          | ((with_reducible refine Split.and ?_))
          | ((with_reducible refine Split.or ?_))
          | ((with_reducible refine Split.streq (fun _ => ?_) (fun _ => ?_)) <;> conv => whnf)
          | ((with_reducible refine Split.dec (fun _ => ?_) (fun _ => ?_)) <;> conv => whnf)
          | ((with_reducible refine Split.mk (fun _ => ?_) (fun _ => ?_)) <;> conv => whnf)
          | ((with_reducible refine Need.mk ?_ ?_); (first | omega | rfl | decide | (refine ⟨?_, ?_⟩ <;> simp <;> omega) | (simp; omega)); conv => whnf)
          | ((with_reducible refine Wr.quo ?_ ?_ ?_ ?_); omega; omega; omega; conv => whnf)
          | ((with_reducible refine Wr.inr ?_ ?_); (first | omega | (simp; omega)); conv => whnf)
          | ((with_reducible refine Wr.inu ?_ ?_); omega; conv => whnf)
          | (refine CallK.mk _ (hL) ?_; conv => whnf)
          | (exfalso; first | omega | contradiction))
        refine Again.au (0 + 1) ⟨by omega, hok'⟩ (by omega) ?_
        rw [hs]
        exact ⟨by (repeat' (first | exact True.intro | exact rfl | refine ⟨?_, ?_⟩ | (intro h; cases h; done) | (intro h; exact h) | exact map_snoc | (refine own_congr ?_; simp; done) | (refine int_congr ?_; (first | omega | (simp; omega))) | (simp; done) | (refine own_congr ?_; simp [minI_self, maxI_self]; done) | (refine int_congr ?_; simp [minI_self, maxI_self]; done) | (simp [minI_self, maxI_self]; done) | (simp [D.cells, minI_self, maxI_self]; done))), by (repeat' (first | exact True.intro | exact rfl | refine ⟨?_, ?_⟩ | (intro h; cases h; done) | (intro h; exact h) | exact map_snoc | (refine own_congr ?_; simp; done) | (refine int_congr ?_; (first | omega | (simp; omega))) | (simp; done) | (refine own_congr ?_; simp [minI_self, maxI_self]; done) | (refine int_congr ?_; simp [minI_self, maxI_self]; done) | (simp [minI_self, maxI_self]; done) | (simp [D.cells, minI_self, maxI_self]; done))), rfl⟩
      · rw [if_neg hk0] at hs
        conv => whnf
        repeat' (first
          | ((with_reducible refine Split.of_true ?_); conv => whnf)
          | ((with_reducible refine Split.of_false ?_); conv => whnf)
          | ((with_reducible refine Split.neg ?_))
          | ((with_reducible refine Split.is_true ?_ ?_); decide; conv => whnf)
          | ((with_reducible refine Split.is_false ?_ ?_); decide; conv => whnf)
          | ((with_reducible refine Split.nez (fun _ => ?_) (fun _ => ?_)) <;> conv => whnf)
          | ((with_reducible refine Split.eqz (fun _ => ?_) (fun _ => ?_)) <;> conv => whnf)
          | ((with_reducible refine Split.and ?_))
          | ((with_reducible refine Split.or ?_))
          | ((with_reducible refine Split.streq (fun _ => ?_) (fun _ => ?_)) <;> conv => whnf)
          | ((with_reducible refine Split.dec (fun _ => ?_) (fun _ => ?_)) <;> conv => whnf)
          | ((with_reducible refine Split.mk (fun _ => ?_) (fun _ => ?_)) <;> conv => whnf)
          | ((with_reducible refine Need.mk ?_ ?_); (first | omega | rfl | decide | (refine ⟨?_, ?_⟩ <;> simp <;> omega) | (simp; omega)); conv => whnf)
          | ((with_reducible refine Wr.quo ?_ ?_ ?_ ?_); omega; omega; omega; conv => whnf)
          | ((with_reducible refine Wr.inr ?_ ?_); (first | omega | (simp; omega)); conv => whnf)
          | ((with_reducible refine Wr.inu ?_ ?_); omega; conv => whnf)
          | (refine CallK.mk _ (hL) ?_; conv => whnf)
          | (exfalso; first | omega | contradiction))
        refine Again.au (k + 1) ⟨by omega, hok'⟩ (by omega) ?_
        rw [hs]
        exact ⟨by (repeat' (first | exact True.intro | exact rfl | refine ⟨?_, ?_⟩ | (intro h; cases h; done) | (intro h; exact h) | exact map_snoc | (refine own_congr ?_; simp; done) | (refine int_congr ?_; (first | omega | (simp; omega))) | (simp; done))), by (repeat' (first | exact True.intro | exact rfl | refine ⟨?_, ?_⟩ | (intro h; cases h; done) | (intro h; exact h) | exact map_snoc | (refine own_congr ?_; simp; done) | (refine int_congr ?_; (first | omega | (simp; omega))) | (simp; done))), rfl⟩
  · have e : k = mins w := by omega
    subst e
    have hs : spanS l x w = ((spO l x w.1 (mins w)).1, (spO l x w.1 (mins w)).2, true) := by unfold spanS; rw [if_pos (by exact hok)]
    rw [hs]
    rfl
def lightB (v : Vw) : Bool := shortAll v.gs && (decide (v.w.1 < 0) || (decide (v.w.2 < v.w.1) || (decide (v.w.2 > 1000000) || (decide (v.w.2 - v.w.1 ≤ 150) || decide (v.w.2 - v.w.1 > 3000)))))
theorem ev_Light (v : Vw) : Ev Try.prog 40 [vD v] (.bool (lightB v)) := by
  have hS := ev_ShortAll v.gs
  refine ev_of_awp tysOk mixed (fn := Try.f40) Try.func40 rfl rfl rfl ?_
  conv => whnf
  repeat' (first
    | ((with_reducible refine Split.of_true ?_); conv => whnf)
    | ((with_reducible refine Split.of_false ?_); conv => whnf)
    | ((with_reducible refine Split.neg ?_))
    | ((with_reducible refine Split.is_true ?_ ?_); decide; conv => whnf)
    | ((with_reducible refine Split.is_false ?_ ?_); decide; conv => whnf)
    | ((with_reducible refine Split.nez (fun _ => ?_) (fun _ => ?_)) <;> conv => whnf)
    | ((with_reducible refine Split.eqz (fun _ => ?_) (fun _ => ?_)) <;> conv => whnf)
    | ((with_reducible refine Split.and ?_))
    | ((with_reducible refine Split.or ?_))
    | ((with_reducible refine Split.streq (fun _ => ?_) (fun _ => ?_)) <;> conv => whnf)
    | ((with_reducible refine Split.dec (fun _ => ?_) (fun _ => ?_)) <;> conv => whnf)
    | ((with_reducible refine Split.mk (fun _ => ?_) (fun _ => ?_)) <;> conv => whnf)
    | ((with_reducible refine Need.mk ?_ ?_); (first | omega | rfl | decide | (refine ⟨?_, ?_⟩ <;> simp <;> omega) | (simp; omega)); conv => whnf)
    | ((with_reducible refine Wr.quo ?_ ?_ ?_ ?_); omega; omega; omega; conv => whnf)
    | ((with_reducible refine Wr.inr ?_ ?_); (first | omega | (simp; omega)); conv => whnf)
    | ((with_reducible refine Wr.inu ?_ ?_); omega; conv => whnf)
    | (refine CallK.mk _ (hS) ?_; conv => whnf)
    | (exfalso; first | omega | contradiction))
  all_goals first
    | (simp_all [retOf, lightB]; done)
    | (simp only [retOf, lightB]
       rw [show shortAll v.gs = true from ‹_›, Bool.true_and]
       refine congrArg D.bool ?_
       rw [Bool.eq_iff_iff]; simp; omega)
theorem span_z (l : List Ga) (x : Int) (w : Int × Int) (h : (spanS l x w).2.2 = false) : (spanS l x w).1 = 0 ∧ (spanS l x w).2.1 = 0 := by
  unfold spanS at h ⊢
  split at h
  · cases h
  · rename_i h'; simp [h']
theorem ev_TideSpans (v : Vw) : Ev Try.prog 10 [vD v] (.bool true) := by
  have hL := ev_Light v
  have hR := ev_CheckView v.gs v.x v.w
  by_cases h : viewErr v.gs v.x v.w = 0
  · have hS := ev_Span v.gs v.x v.w h
    have hS2 := ev_SpanR v.gs v.x v.w h
    rw [h] at hR
    have hz := span_z v.gs v.x v.w
    generalize spanS v.gs v.x v.w = r at *
    obtain ⟨lo, hi, ok⟩ := r
    cases ok
    · obtain ⟨rfl, rfl⟩ : lo = 0 ∧ hi = 0 := hz rfl
      refine ev_of_awp tysOk mixed (fn := Try.f10) Try.func10 rfl rfl rfl ?_
      conv => whnf
      repeat' (first
        | ((with_reducible refine Split.of_true ?_); conv => whnf)
        | ((with_reducible refine Split.of_false ?_); conv => whnf)
        | ((with_reducible refine Split.neg ?_))
        | ((with_reducible refine Split.is_true ?_ ?_); decide; conv => whnf)
        | ((with_reducible refine Split.is_false ?_ ?_); decide; conv => whnf)
        | ((with_reducible refine Split.nez (fun _ => ?_) (fun _ => ?_)) <;> conv => whnf)
        | ((with_reducible refine Split.eqz (fun _ => ?_) (fun _ => ?_)) <;> conv => whnf)
        | ((with_reducible refine Split.and ?_))
        | ((with_reducible refine Split.or ?_))
        | ((with_reducible refine Split.streq (fun _ => ?_) (fun _ => ?_)) <;> conv => whnf)
        | ((with_reducible refine Split.dec (fun _ => ?_) (fun _ => ?_)) <;> conv => whnf)
        | ((with_reducible refine Split.mk (fun _ => ?_) (fun _ => ?_)) <;> conv => whnf)
        | ((with_reducible refine Need.mk ?_ ?_); (first | omega | rfl | decide | (refine ⟨?_, ?_⟩ <;> simp <;> omega) | (simp; omega)); conv => whnf)
        | ((with_reducible refine Wr.quo ?_ ?_ ?_ ?_); omega; omega; omega; conv => whnf)
        | ((with_reducible refine Wr.inr ?_ ?_); (first | omega | (simp; omega)); conv => whnf)
        | ((with_reducible refine Wr.inu ?_ ?_); omega; conv => whnf)
        | (refine CallK.mk _ (ev_awake) ?_; conv => whnf)
        | (refine CallK.mk _ (hL) ?_; conv => whnf)
        | (refine CallK.mk _ (hS) ?_; conv => whnf)
        | (refine CallK.mk _ (hR) ?_; conv => whnf)
        | (refine CallK.mk _ (hS2) ?_; conv => whnf)
        | (exfalso; first | omega | contradiction))
      all_goals rfl
    · refine ev_of_awp tysOk mixed (fn := Try.f10) Try.func10 rfl rfl rfl ?_
      conv => whnf
      repeat' (first
        | ((with_reducible refine Split.of_true ?_); conv => whnf)
        | ((with_reducible refine Split.of_false ?_); conv => whnf)
        | ((with_reducible refine Split.neg ?_))
        | ((with_reducible refine Split.is_true ?_ ?_); decide; conv => whnf)
        | ((with_reducible refine Split.is_false ?_ ?_); decide; conv => whnf)
        | ((with_reducible refine Split.nez (fun _ => ?_) (fun _ => ?_)) <;> conv => whnf)
        | ((with_reducible refine Split.eqz (fun _ => ?_) (fun _ => ?_)) <;> conv => whnf)
        | ((with_reducible refine Split.and ?_))
        | ((with_reducible refine Split.or ?_))
        | ((with_reducible refine Split.streq (fun _ => ?_) (fun _ => ?_)) <;> conv => whnf)
        | ((with_reducible refine Split.dec (fun _ => ?_) (fun _ => ?_)) <;> conv => whnf)
        | ((with_reducible refine Split.mk (fun _ => ?_) (fun _ => ?_)) <;> conv => whnf)
        | ((with_reducible refine Need.mk ?_ ?_); (first | omega | rfl | decide | (refine ⟨?_, ?_⟩ <;> simp <;> omega) | (simp; omega)); conv => whnf)
        | ((with_reducible refine Wr.quo ?_ ?_ ?_ ?_); omega; omega; omega; conv => whnf)
        | ((with_reducible refine Wr.inr ?_ ?_); (first | omega | (simp; omega)); conv => whnf)
        | ((with_reducible refine Wr.inu ?_ ?_); omega; conv => whnf)
        | (refine CallK.mk _ (ev_awake) ?_; conv => whnf)
        | (refine CallK.mk _ (hL) ?_; conv => whnf)
        | (refine CallK.mk _ (hS) ?_; conv => whnf)
        | (refine CallK.mk _ (hR) ?_; conv => whnf)
        | (refine CallK.mk _ (hS2) ?_; conv => whnf)
        | (exfalso; first | omega | contradiction))
      all_goals first | rfl | simp [retOf]
  · have hS := ev_SpanE v.gs v.x v.w h
    refine ev_of_awp tysOk mixed (fn := Try.f10) Try.func10 rfl rfl rfl ?_
    conv => whnf
    repeat' (first
      | ((with_reducible refine Split.of_true ?_); conv => whnf)
      | ((with_reducible refine Split.of_false ?_); conv => whnf)
      | ((with_reducible refine Split.neg ?_))
      | ((with_reducible refine Split.is_true ?_ ?_); decide; conv => whnf)
      | ((with_reducible refine Split.is_false ?_ ?_); decide; conv => whnf)
      | ((with_reducible refine Split.nez (fun _ => ?_) (fun _ => ?_)) <;> conv => whnf)
      | ((with_reducible refine Split.eqz (fun _ => ?_) (fun _ => ?_)) <;> conv => whnf)
      | ((with_reducible refine Split.and ?_))
      | ((with_reducible refine Split.or ?_))
      | ((with_reducible refine Split.streq (fun _ => ?_) (fun _ => ?_)) <;> conv => whnf)
      | ((with_reducible refine Split.dec (fun _ => ?_) (fun _ => ?_)) <;> conv => whnf)
      | ((with_reducible refine Split.mk (fun _ => ?_) (fun _ => ?_)) <;> conv => whnf)
      | ((with_reducible refine Need.mk ?_ ?_); (first | omega | rfl | decide | (refine ⟨?_, ?_⟩ <;> simp <;> omega) | (simp; omega)); conv => whnf)
      | ((with_reducible refine Wr.quo ?_ ?_ ?_ ?_); omega; omega; omega; conv => whnf)
      | ((with_reducible refine Wr.inr ?_ ?_); (first | omega | (simp; omega)); conv => whnf)
      | ((with_reducible refine Wr.inu ?_ ?_); omega; conv => whnf)
      | (refine CallK.mk _ (ev_awake) ?_; conv => whnf)
      | (refine CallK.mk _ (hL) ?_; conv => whnf)
      | (refine CallK.mk _ (hS) ?_; conv => whnf)
      | (refine CallK.mk _ (hR) ?_; conv => whnf)
      | (exfalso; first | omega | contradiction))
    all_goals rfl
end Go.Proofs.Try
