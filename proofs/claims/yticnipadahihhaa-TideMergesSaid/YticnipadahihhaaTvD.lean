import Derived.Test.YticnipadahihhaaTvC
namespace Go.Proofs.Try
open Go Go.Vm
set_option maxRecDepth 20000
set_option maxHeartbeats 16000000
/-! The library's stable sort at marks: symMerge. -/
theorem inX {P U Y Q : List Mk} {i : Nat} {x : Mk} {n : Int} (h : U[i]? = some x) (hn : n = P.length + i) : ((P ++ U ++ Y ++ Q).map mD)[n.toNat]? = some (mD x) :=
  mM_get (i := P.length + i) (by
    rw [List.append_assoc, List.append_assoc, List.getElem?_append_right (by omega), show P.length + i - P.length = i by omega, List.getElem?_append_left (lt_of_some h)]; exact h) (by omega)
theorem inY {P U Y Q : List Mk} {i : Nat} {y : Mk} {n : Int} (h : Y[i]? = some y) (hn : n = P.length + U.length + i) : ((P ++ U ++ Y ++ Q).map mD)[n.toNat]? = some (mD y) :=
  mM_get (i := P.length + U.length + i) (by
    rw [List.append_assoc, List.getElem?_append_right (by rw [List.length_append]; omega), List.length_append, show P.length + U.length + i - (P.length + U.length) = i by omega, List.getElem?_append_left (lt_of_some h)]; exact h) (by omega)
/-- One element is merged into the right part. -/
theorem xv_symL (P Y Q : List Mk) (x : Mk) (N : Nat) (a m b : Int) (hx : 0 ≤ x.m ∧ x.m ≤ 1000000) (hy : inM Y) (hA : Asc kM Y) (ha : a = P.length) (hm : m = P.length + 1) (hb : b = P.length + 1 + Y.length) (hN : N = P.length + 1 + Y.length + Q.length) (hN2 : N ≤ 100000) :
    EvX Try.prog 33 [.own 1000 2 N, .d (.int .i64 a), .d (.int .i64 m), .d (.int .i64 b), .d (.fn 14 [])] [(1000, .row 41 2 ((P ++ [x] ++ Y ++ Q).map mD) false)] (.tup []) [(1000, .row 41 2 ((P ++ mrg kM [x] Y ++ Q).map mD) false)] := by
  have hrl : (((P ++ [x] ++ Y ++ Q).map mD).length : Int) = N := by simp; omega
  have gx : ((P ++ [x] ++ Y ++ Q).map mD)[a.toNat]? = some (mD x) := inX (i := 0) rfl (by omega)
  refine evx_of_awp tysOk mixed (fn := Try.f33) Try.func33 rfl rfl rfl ?_
  conv => whnf
  repeat' (first
    | ((with_reducible refine Split.of_true ?_); conv => whnf)
    | ((with_reducible refine Split.of_false ?_); conv => whnf)
    | ((with_reducible refine Split.neg ?_))
    | ((with_reducible refine Split.is_true ?_ ?_); decide; conv => whnf)
    | ((with_reducible refine Split.is_false ?_ ?_); decide; conv => whnf)
    | ((with_reducible refine Split.nez (fun _ => ?_) (fun _ => ?_)) <;> conv => whnf)
    | ((with_reducible refine Split.eqz (fun _ => ?_) (fun _ => ?_)) <;> conv => whnf)
    | ((with_reducible refine Split.and ?_))
    | ((with_reducible refine Split.or ?_))
    | ((with_reducible refine Split.streq (fun _ => ?_) (fun _ => ?_)) <;> conv => whnf)
    | ((with_reducible refine Split.dec (fun _ => ?_) (fun _ => ?_)) <;> conv => whnf)
    | ((with_reducible refine Split.mk (fun _ => ?_) (fun _ => ?_)) <;> conv => whnf)
    | ((with_reducible refine NilK.mk (fun _ => ?_) ?_) <;> conv => whnf)
    | ((with_reducible refine AltK.l ?_); (conv => whnf); (with_reducible refine Need.mk ?_ ?_); (first | omega | (refine ⟨?_, ?_⟩ <;> simp <;> omega) | (simp; omega)); conv => whnf)
    | ((with_reducible refine Need.mk ?_ ?_); (first | omega | rfl | decide | (refine ⟨?_, ?_⟩ <;> simp <;> omega) | (simp; omega)); conv => whnf)
    | ((with_reducible refine Wr.quo ?_ ?_ ?_ ?_); omega; omega; omega; conv => whnf)
    | ((with_reducible refine Wr.inr ?_ ?_); (first | omega | (simp; omega)); conv => whnf)
    | ((with_reducible refine Wr.inu ?_ ?_); omega; conv => whnf)
    | (exfalso; first | omega | contradiction))
  all_goals first
    | (exfalso; omega)
    | skip
  refine LoopK.o3 (fun z : Nat × Nat => z.1 ≤ z.2 ∧ z.2 ≤ Y.length ∧ (∀ t y, t < z.1 → Y[t]? = some y → y.m < x.m) ∧ (∀ t y, z.2 ≤ t → Y[t]? = some y → ¬ y.m < x.m))
    (fun z => [(10, .d (.int .i64 (m + z.1))), (11, .d (.int .i64 (m + z.2)))]) (fun _ => []) (fun z => z.2 - z.1) (0, Y.length) ⟨Nat.zero_le _, Nat.le_refl _, fun t y h => absurd h (Nat.not_lt_zero _), fun t y h hy => absurd (lt_of_some hy) (by dsimp only at h; omega)⟩ (by refine ⟨?_, ?_, rfl⟩ <;> (repeat' (first | exact True.intro | exact rfl | refine ⟨?_, ?_⟩ | (intro h; cases h; done) | (intro h; exact h) | exact map_snoc | (refine own_congr ?_; simp; done) | (refine int_congr ?_; (first | omega | (simp; omega))) | (simp; done) | (refine view_congr ?_ ?_ <;> (first | omega | (simp; done) | (simp; omega))) | ((first | refine own_congr ?_ | refine int_congr ?_ | skip); simp [D.cells]; done) | ((first | refine own_congr ?_ | refine int_congr ?_); simp [D.cells]; omega) | (show @Eq (List Go.Vm.D) _ []; simp [D.cells]; done) | (simp [D.cells, D.cells]; done))); done) ?_
  rintro ⟨u, w⟩ ⟨h1, h2, h3, h4⟩
  dsimp only at h1 h2 h3 h4 ⊢
  by_cases huw : u < w
  · obtain ⟨y, hyt⟩ := some_of_lt (show (u + w) / 2 < Y.length by omega)
    have hz : shrZ (m + (u : Int) + (m + (w : Int))) 1 = m + ((u + w) / 2 : Nat) := by rw [shrZ_one]; omega
    have g1 : ((P ++ [x] ++ Y ++ Q).map mD)[(shrZ (m + (u : Int) + (m + (w : Int))) 1).toNat]? = some (mD y) := inY hyt (by rw [hz, List.length_singleton]; omega)
    have c1 := ev_earlyM y x (hy.at_ hyt) hx
    by_cases hlt : y.m < x.m
    · conv => whnf
      repeat' (first
        | ((refine PickE.mk _ gx ?_); conv => whnf)
        | ((refine PickE.mk _ g1 ?_); conv => whnf)
        | ((with_reducible refine Split.of_true ?_); conv => whnf)
        | ((with_reducible refine Split.of_false ?_); conv => whnf)
        | ((with_reducible refine Split.neg ?_))
        | ((with_reducible refine Split.is_true ?_ ?_); decide; conv => whnf)
        | ((with_reducible refine Split.is_false ?_ ?_); decide; conv => whnf)
        | ((with_reducible refine Split.nez (fun _ => ?_) (fun _ => ?_)) <;> conv => whnf)
        | ((with_reducible refine Split.eqz (fun _ => ?_) (fun _ => ?_)) <;> conv => whnf)
        | ((with_reducible refine Split.and ?_))
        | ((with_reducible refine Split.or ?_))
        | ((with_reducible refine Split.streq (fun _ => ?_) (fun _ => ?_)) <;> conv => whnf)
        | ((with_reducible refine Split.dec (fun _ => ?_) (fun _ => ?_)) <;> conv => whnf)
        | ((with_reducible refine Split.mk (fun _ => ?_) (fun _ => ?_)) <;> conv => whnf)
        | ((with_reducible refine NilK.mk (fun _ => ?_) ?_) <;> conv => whnf)
        | ((with_reducible refine AltK.l ?_); (conv => whnf); (with_reducible refine Need.mk ?_ ?_); (first | omega | (refine ⟨?_, ?_⟩ <;> simp <;> omega) | (simp; omega)); conv => whnf)
        | ((with_reducible refine Need.mk ?_ ?_); (first | omega | rfl | decide | (refine ⟨?_, ?_⟩ <;> simp <;> omega) | (simp; omega)); conv => whnf)
        | ((with_reducible refine Wr.quo ?_ ?_ ?_ ?_); omega; omega; omega; conv => whnf)
        | ((with_reducible refine Wr.inr ?_ ?_); (first | omega | (simp; omega)); conv => whnf)
        | ((with_reducible refine Wr.inu ?_ ?_); omega; conv => whnf)
        | ((with_reducible refine AltK.l ?_); (conv => whnf); (first | (refine CallK.mk _ (c1) ?_)); conv => whnf)
        | (exfalso; first | omega | contradiction))
      all_goals first
        | (exfalso; omega)
        | skip
      refine Again.av ((u + w) / 2 + 1, w) ⟨by dsimp only; omega, h2, fun t y' ht hy' => ?_, h4⟩ (by dsimp only; omega) (by refine ⟨?_, ?_, rfl⟩ <;> (repeat' (first | exact True.intro | exact rfl | refine ⟨?_, ?_⟩ | (intro h; cases h; done) | (intro h; exact h) | exact map_snoc | (refine own_congr ?_; simp; done) | (refine int_congr ?_; (first | omega | (simp; omega))) | (simp; done) | (refine view_congr ?_ ?_ <;> (first | omega | (simp; done) | (simp; omega))) | ((first | refine own_congr ?_ | refine int_congr ?_ | skip); simp [hz]; done) | ((first | refine own_congr ?_ | refine int_congr ?_); simp [hz]; omega) | (show @Eq (List Go.Vm.D) _ []; simp [hz]; done) | (simp [D.cells, hz]; done))); done)
      have := asc_at kM hA hy' hyt (by dsimp only at ht; omega)
      unfold kM at this; omega
    · conv => whnf
      repeat' (first
        | ((refine PickE.mk _ gx ?_); conv => whnf)
        | ((refine PickE.mk _ g1 ?_); conv => whnf)
        | ((with_reducible refine Split.of_true ?_); conv => whnf)
        | ((with_reducible refine Split.of_false ?_); conv => whnf)
        | ((with_reducible refine Split.neg ?_))
        | ((with_reducible refine Split.is_true ?_ ?_); decide; conv => whnf)
        | ((with_reducible refine Split.is_false ?_ ?_); decide; conv => whnf)
        | ((with_reducible refine Split.nez (fun _ => ?_) (fun _ => ?_)) <;> conv => whnf)
        | ((with_reducible refine Split.eqz (fun _ => ?_) (fun _ => ?_)) <;> conv => whnf)
        | ((with_reducible refine Split.and ?_))
        | ((with_reducible refine Split.or ?_))
        | ((with_reducible refine Split.streq (fun _ => ?_) (fun _ => ?_)) <;> conv => whnf)
        | ((with_reducible refine Split.dec (fun _ => ?_) (fun _ => ?_)) <;> conv => whnf)
        | ((with_reducible refine Split.mk (fun _ => ?_) (fun _ => ?_)) <;> conv => whnf)
        | ((with_reducible refine NilK.mk (fun _ => ?_) ?_) <;> conv => whnf)
        | ((with_reducible refine AltK.l ?_); (conv => whnf); (with_reducible refine Need.mk ?_ ?_); (first | omega | (refine ⟨?_, ?_⟩ <;> simp <;> omega) | (simp; omega)); conv => whnf)
        | ((with_reducible refine Need.mk ?_ ?_); (first | omega | rfl | decide | (refine ⟨?_, ?_⟩ <;> simp <;> omega) | (simp; omega)); conv => whnf)
        | ((with_reducible refine Wr.quo ?_ ?_ ?_ ?_); omega; omega; omega; conv => whnf)
        | ((with_reducible refine Wr.inr ?_ ?_); (first | omega | (simp; omega)); conv => whnf)
        | ((with_reducible refine Wr.inu ?_ ?_); omega; conv => whnf)
        | ((with_reducible refine AltK.l ?_); (conv => whnf); (first | (refine CallK.mk _ (c1) ?_)); conv => whnf)
        | (exfalso; first | omega | contradiction))
      all_goals first
        | (exfalso; omega)
        | skip
      refine Again.av (u, (u + w) / 2) ⟨by dsimp only; omega, by dsimp only; omega, h3, fun t y' ht hy' => ?_⟩ (by dsimp only; omega) (by refine ⟨?_, ?_, rfl⟩ <;> (repeat' (first | exact True.intro | exact rfl | refine ⟨?_, ?_⟩ | (intro h; cases h; done) | (intro h; exact h) | exact map_snoc | (refine own_congr ?_; simp; done) | (refine int_congr ?_; (first | omega | (simp; omega))) | (simp; done) | (refine view_congr ?_ ?_ <;> (first | omega | (simp; done) | (simp; omega))) | ((first | refine own_congr ?_ | refine int_congr ?_ | skip); simp [hz]; done) | ((first | refine own_congr ?_ | refine int_congr ?_); simp [hz]; omega) | (show @Eq (List Go.Vm.D) _ []; simp [hz]; done) | (simp [D.cells, hz]; done))); done)
      have := asc_at kM hA hyt hy' ht
      unfold kM at this; omega
  · have hue : w = u := by omega
    subst hue
    have hr1 : ∀ t, t ≤ Y.length → (((P ++ Y.take t ++ x :: Y.drop t ++ Q).map mD).length : Int) = N := fun t ht => by simp; omega
    have hmp1 : (P ++ [x] ++ Y ++ Q).map mD = (P ++ Y.take 0 ++ x :: Y.drop 0 ++ Q).map mD := by simp
    have hmp2 : (P ++ Y.take w ++ x :: Y.drop w ++ Q).map mD = (P ++ mrg kM [x] Y ++ Q).map mD := by
      rw [mrg_left kM (i := w) (fun y hy => by
        obtain ⟨t, ht, e⟩ := mem_take_at hy
        exact h3 t y ht e) (fun y hy => by
        obtain ⟨t, ht, e⟩ := mem_drop_at hy
        exact h4 t y ht e)]
      simp
    conv => whnf
    repeat' (first
      | ((with_reducible refine Split.of_true ?_); conv => whnf)
      | ((with_reducible refine Split.of_false ?_); conv => whnf)
      | ((with_reducible refine Split.neg ?_))
      | ((with_reducible refine Split.is_true ?_ ?_); decide; conv => whnf)
      | ((with_reducible refine Split.is_false ?_ ?_); decide; conv => whnf)
      | ((with_reducible refine Split.nez (fun _ => ?_) (fun _ => ?_)) <;> conv => whnf)
      | ((with_reducible refine Split.eqz (fun _ => ?_) (fun _ => ?_)) <;> conv => whnf)
      | ((with_reducible refine Split.and ?_))
      | ((with_reducible refine Split.or ?_))
      | ((with_reducible refine Split.streq (fun _ => ?_) (fun _ => ?_)) <;> conv => whnf)
      | ((with_reducible refine Split.dec (fun _ => ?_) (fun _ => ?_)) <;> conv => whnf)
      | ((with_reducible refine Split.mk (fun _ => ?_) (fun _ => ?_)) <;> conv => whnf)
      | ((with_reducible refine NilK.mk (fun _ => ?_) ?_) <;> conv => whnf)
      | ((with_reducible refine AltK.l ?_); (conv => whnf); (with_reducible refine Need.mk ?_ ?_); (first | omega | (refine ⟨?_, ?_⟩ <;> simp <;> omega) | (simp; omega)); conv => whnf)
      | ((with_reducible refine Need.mk ?_ ?_); (first | omega | rfl | decide | (refine ⟨?_, ?_⟩ <;> simp <;> omega) | (simp; omega)); conv => whnf)
      | ((with_reducible refine Wr.quo ?_ ?_ ?_ ?_); omega; omega; omega; conv => whnf)
      | ((with_reducible refine Wr.inr ?_ ?_); (first | omega | (simp; omega)); conv => whnf)
      | ((with_reducible refine Wr.inu ?_ ?_); omega; conv => whnf)
      | (exfalso; first | omega | contradiction))
    refine LoopK.o3 (fun t : Nat => t ≤ w) (fun t => [(13, .d (.int .i64 (a + t)))]) (fun t => [(1000, .row 41 2 ((P ++ Y.take t ++ x :: Y.drop t ++ Q).map mD) false)]) (fun t => w - t) 0 (Nat.zero_le _) (by refine ⟨?_, ?_, rfl⟩ <;> (repeat' (first | exact True.intro | exact rfl | refine ⟨?_, ?_⟩ | (intro h; cases h; done) | (intro h; exact h) | exact map_snoc | (refine own_congr ?_; simp; done) | (refine int_congr ?_; (first | omega | (simp; omega))) | (simp; done) | (refine view_congr ?_ ?_ <;> (first | omega | (simp; done) | (simp; omega))) | exact hmp1 | ((first | refine own_congr ?_ | refine int_congr ?_ | skip); simp [D.cells]; done) | ((first | refine own_congr ?_ | refine int_congr ?_); simp [D.cells]; omega) | (show @Eq (List Go.Vm.D) _ []; simp [D.cells]; done) | (simp [D.cells, D.cells]; done))); done) ?_
    clear hmp1
    rintro t ht
    dsimp only at ht ⊢
    have hrt := hr1 t (by omega)
    by_cases htw : t < w
    · obtain ⟨y, hyt⟩ := some_of_lt (show t < Y.length by omega)
      have e1 : P ++ Y.take t ++ x :: Y.drop t ++ Q = (P ++ Y.take t) ++ x :: [] ++ y :: (Y.drop (t + 1) ++ Q) := by rw [drop_of hyt]; simp
      have e2 : (P ++ Y.take t) ++ y :: [] ++ x :: (Y.drop (t + 1) ++ Q) = P ++ Y.take (t + 1) ++ x :: Y.drop (t + 1) ++ Q := by rw [take_snoc hyt]; simp
      have l1 : (P ++ Y.take t).length = P.length + t := by rw [List.length_append, List.length_take]; omega
      have g1 : ((P ++ Y.take t ++ x :: Y.drop t ++ Q).map mD)[(a + (t : Int)).toNat]? = some (mD x) := by
        rw [e1]; exact mM_get (i := (P ++ Y.take t).length) (by rw [List.append_assoc, List.cons_append]; exact mid_get rfl) (by omega)
      have g2 : ((P ++ Y.take t ++ x :: Y.drop t ++ Q).map mD)[(a + (t : Int) + 1).toNat]? = some (mD y) := by
        rw [e1]; exact mM_get (i := (P ++ Y.take t ++ x :: []).length) (mid_get rfl) (by rw [List.length_append, List.length_singleton]; omega)
      have g3 := one_get (W := P ++ Y.take t) (Z := []) (R := Y.drop (t + 1) ++ Q) (x := x) (y := y) (i := a + (t : Int)) (j := a + (t : Int) + 1) (by omega) (by rw [List.length_nil]; omega)
      have hmp3 := two_set (W := P ++ Y.take t) (Z := []) (R := Y.drop (t + 1) ++ Q) (x := x) (y := y) (i := a + (t : Int)) (j := a + (t : Int) + 1) (by omega) (by rw [List.length_nil]; omega)
      rw [← e1] at g3 hmp3
      rw [e2] at hmp3
      conv => whnf
      repeat' (first
        | ((refine PickE.mk _ g2 ?_); conv => whnf)
        | ((refine PickE.mk _ g1 ?_); conv => whnf)
        | ((refine PickE.mk _ g3 ?_); conv => whnf)
        | ((with_reducible refine Split.of_true ?_); conv => whnf)
        | ((with_reducible refine Split.of_false ?_); conv => whnf)
        | ((with_reducible refine Split.neg ?_))
        | ((with_reducible refine Split.is_true ?_ ?_); decide; conv => whnf)
        | ((with_reducible refine Split.is_false ?_ ?_); decide; conv => whnf)
        | ((with_reducible refine Split.nez (fun _ => ?_) (fun _ => ?_)) <;> conv => whnf)
        | ((with_reducible refine Split.eqz (fun _ => ?_) (fun _ => ?_)) <;> conv => whnf)
        | ((with_reducible refine Split.and ?_))
        | ((with_reducible refine Split.or ?_))
        | ((with_reducible refine Split.streq (fun _ => ?_) (fun _ => ?_)) <;> conv => whnf)
        | ((with_reducible refine Split.dec (fun _ => ?_) (fun _ => ?_)) <;> conv => whnf)
        | ((with_reducible refine Split.mk (fun _ => ?_) (fun _ => ?_)) <;> conv => whnf)
        | ((with_reducible refine NilK.mk (fun _ => ?_) ?_) <;> conv => whnf)
        | ((with_reducible refine AltK.l ?_); (conv => whnf); (with_reducible refine Need.mk ?_ ?_); (first | omega | (refine ⟨?_, ?_⟩ <;> simp <;> omega) | (simp; omega)); conv => whnf)
        | ((with_reducible refine Need.mk ?_ ?_); (first | omega | rfl | decide | (refine ⟨?_, ?_⟩ <;> simp <;> omega) | (simp; omega)); conv => whnf)
        | ((with_reducible refine Wr.quo ?_ ?_ ?_ ?_); omega; omega; omega; conv => whnf)
        | ((with_reducible refine Wr.inr ?_ ?_); (first | omega | (simp; omega)); conv => whnf)
        | ((with_reducible refine Wr.inu ?_ ?_); omega; conv => whnf)
        | (exfalso; first | omega | contradiction))
      all_goals first
        | (exfalso; omega)
        | skip
      exact Again.av (t + 1) (by omega) (by omega) (by refine ⟨?_, ?_, rfl⟩ <;> (repeat' (first | exact True.intro | exact rfl | refine ⟨?_, ?_⟩ | (intro h; cases h; done) | (intro h; exact h) | exact map_snoc | (refine own_congr ?_; simp; done) | (refine int_congr ?_; (first | omega | (simp; omega))) | (simp; done) | (refine view_congr ?_ ?_ <;> (first | omega | (simp; done) | (simp; omega))) | exact hmp3 | ((first | refine own_congr ?_ | refine int_congr ?_ | skip); simp [D.cells]; done) | ((first | refine own_congr ?_ | refine int_congr ?_); simp [D.cells]; omega) | (show @Eq (List Go.Vm.D) _ []; simp [D.cells]; done) | (simp [D.cells, D.cells]; done))); done)
    · have hte : t = w := by omega
      subst hte
      rw [hmp2]
      conv => whnf
      repeat' (first
        | ((with_reducible refine Split.of_true ?_); conv => whnf)
        | ((with_reducible refine Split.of_false ?_); conv => whnf)
        | ((with_reducible refine Split.neg ?_))
        | ((with_reducible refine Split.is_true ?_ ?_); decide; conv => whnf)
        | ((with_reducible refine Split.is_false ?_ ?_); decide; conv => whnf)
        | ((with_reducible refine Split.nez (fun _ => ?_) (fun _ => ?_)) <;> conv => whnf)
        | ((with_reducible refine Split.eqz (fun _ => ?_) (fun _ => ?_)) <;> conv => whnf)
        | ((with_reducible refine Split.and ?_))
        | ((with_reducible refine Split.or ?_))
        | ((with_reducible refine Split.streq (fun _ => ?_) (fun _ => ?_)) <;> conv => whnf)
        | ((with_reducible refine Split.dec (fun _ => ?_) (fun _ => ?_)) <;> conv => whnf)
        | ((with_reducible refine Split.mk (fun _ => ?_) (fun _ => ?_)) <;> conv => whnf)
        | ((with_reducible refine NilK.mk (fun _ => ?_) ?_) <;> conv => whnf)
        | ((with_reducible refine AltK.l ?_); (conv => whnf); (with_reducible refine Need.mk ?_ ?_); (first | omega | (refine ⟨?_, ?_⟩ <;> simp <;> omega) | (simp; omega)); conv => whnf)
        | ((with_reducible refine Need.mk ?_ ?_); (first | omega | rfl | decide | (refine ⟨?_, ?_⟩ <;> simp <;> omega) | (simp; omega)); conv => whnf)
        | ((with_reducible refine Wr.quo ?_ ?_ ?_ ?_); omega; omega; omega; conv => whnf)
        | ((with_reducible refine Wr.inr ?_ ?_); (first | omega | (simp; omega)); conv => whnf)
        | ((with_reducible refine Wr.inu ?_ ?_); omega; conv => whnf)
        | (exfalso; first | omega | contradiction))
      all_goals first
        | (exfalso; omega)
        | skip
      exact ⟨⟨[], (by refine ⟨?_, ?_, rfl⟩ <;> (repeat' (first | exact True.intro | exact rfl | refine ⟨?_, ?_⟩ | (intro h; cases h; done) | (intro h; exact h) | exact map_snoc | (refine own_congr ?_; simp; done) | (refine int_congr ?_; (first | omega | (simp; omega))) | (simp; done) | (refine view_congr ?_ ?_ <;> (first | omega | (simp; done) | (simp; omega))))); done)⟩, rfl⟩
/-- One element is merged into the left part. -/
theorem xv_symR (P U Q : List Mk) (y : Mk) (N : Nat) (a m b : Int) (hx : inM U) (hy : 0 ≤ y.m ∧ y.m ≤ 1000000) (hA : Asc kM U) (hX1 : 2 ≤ U.length) (ha : a = P.length) (hm : m = P.length + U.length) (hb : b = P.length + U.length + 1) (hN : N = P.length + U.length + 1 + Q.length) (hN2 : N ≤ 100000) :
    EvX Try.prog 33 [.own 1000 2 N, .d (.int .i64 a), .d (.int .i64 m), .d (.int .i64 b), .d (.fn 14 [])] [(1000, .row 41 2 ((P ++ U ++ [y] ++ Q).map mD) false)] (.tup []) [(1000, .row 41 2 ((P ++ mrg kM U [y] ++ Q).map mD) false)] := by
  have hrl : (((P ++ U ++ [y] ++ Q).map mD).length : Int) = N := by simp; omega
  have gy : ((P ++ U ++ [y] ++ Q).map mD)[m.toNat]? = some (mD y) := inY (i := 0) rfl (by omega)
  refine evx_of_awp tysOk mixed (fn := Try.f33) Try.func33 rfl rfl rfl ?_
  conv => whnf
  repeat' (first
    | ((with_reducible refine Split.of_true ?_); conv => whnf)
    | ((with_reducible refine Split.of_false ?_); conv => whnf)
    | ((with_reducible refine Split.neg ?_))
    | ((with_reducible refine Split.is_true ?_ ?_); decide; conv => whnf)
    | ((with_reducible refine Split.is_false ?_ ?_); decide; conv => whnf)
    | ((with_reducible refine Split.nez (fun _ => ?_) (fun _ => ?_)) <;> conv => whnf)
    | ((with_reducible refine Split.eqz (fun _ => ?_) (fun _ => ?_)) <;> conv => whnf)
    | ((with_reducible refine Split.and ?_))
    | ((with_reducible refine Split.or ?_))
    | ((with_reducible refine Split.streq (fun _ => ?_) (fun _ => ?_)) <;> conv => whnf)
    | ((with_reducible refine Split.dec (fun _ => ?_) (fun _ => ?_)) <;> conv => whnf)
    | ((with_reducible refine Split.mk (fun _ => ?_) (fun _ => ?_)) <;> conv => whnf)
    | ((with_reducible refine NilK.mk (fun _ => ?_) ?_) <;> conv => whnf)
    | ((with_reducible refine AltK.l ?_); (conv => whnf); (with_reducible refine Need.mk ?_ ?_); (first | omega | (refine ⟨?_, ?_⟩ <;> simp <;> omega) | (simp; omega)); conv => whnf)
    | ((with_reducible refine Need.mk ?_ ?_); (first | omega | rfl | decide | (refine ⟨?_, ?_⟩ <;> simp <;> omega) | (simp; omega)); conv => whnf)
    | ((with_reducible refine Wr.quo ?_ ?_ ?_ ?_); omega; omega; omega; conv => whnf)
    | ((with_reducible refine Wr.inr ?_ ?_); (first | omega | (simp; omega)); conv => whnf)
    | ((with_reducible refine Wr.inu ?_ ?_); omega; conv => whnf)
    | (exfalso; first | omega | contradiction))
  all_goals first
    | (exfalso; omega)
    | skip
  refine LoopK.o3 (fun z : Nat × Nat => z.1 ≤ z.2 ∧ z.2 ≤ U.length ∧ (∀ t x, t < z.1 → U[t]? = some x → ¬ y.m < x.m) ∧ (∀ t x, z.2 ≤ t → U[t]? = some x → y.m < x.m))
    (fun z => [(14, .d (.int .i64 (a + z.1))), (15, .d (.int .i64 (a + z.2)))]) (fun _ => []) (fun z => z.2 - z.1) (0, U.length) ⟨Nat.zero_le _, Nat.le_refl _, fun t x h => absurd h (Nat.not_lt_zero _), fun t x h hy => absurd (lt_of_some hy) (by dsimp only at h; omega)⟩ (by refine ⟨?_, ?_, rfl⟩ <;> (repeat' (first | exact True.intro | exact rfl | refine ⟨?_, ?_⟩ | (intro h; cases h; done) | (intro h; exact h) | exact map_snoc | (refine own_congr ?_; simp; done) | (refine int_congr ?_; (first | omega | (simp; omega))) | (simp; done) | (refine view_congr ?_ ?_ <;> (first | omega | (simp; done) | (simp; omega))) | ((first | refine own_congr ?_ | refine int_congr ?_ | skip); simp [D.cells]; done) | ((first | refine own_congr ?_ | refine int_congr ?_); simp [D.cells]; omega) | (show @Eq (List Go.Vm.D) _ []; simp [D.cells]; done) | (simp [D.cells, D.cells]; done))); done) ?_
  rintro ⟨u, w⟩ ⟨h1, h2, h3, h4⟩
  dsimp only at h1 h2 h3 h4 ⊢
  by_cases huw : u < w
  · obtain ⟨x, hxt⟩ := some_of_lt (show (u + w) / 2 < U.length by omega)
    have hz : shrZ (a + (u : Int) + (a + (w : Int))) 1 = a + ((u + w) / 2 : Nat) := by rw [shrZ_one]; omega
    have g1 : ((P ++ U ++ [y] ++ Q).map mD)[(shrZ (a + (u : Int) + (a + (w : Int))) 1).toNat]? = some (mD x) := inX hxt (by rw [hz]; omega)
    have c1 := ev_earlyM y x hy (hx.at_ hxt)
    by_cases hlt : y.m < x.m
    · conv => whnf
      repeat' (first
        | ((refine PickE.mk _ gy ?_); conv => whnf)
        | ((refine PickE.mk _ g1 ?_); conv => whnf)
        | ((with_reducible refine Split.of_true ?_); conv => whnf)
        | ((with_reducible refine Split.of_false ?_); conv => whnf)
        | ((with_reducible refine Split.neg ?_))
        | ((with_reducible refine Split.is_true ?_ ?_); decide; conv => whnf)
        | ((with_reducible refine Split.is_false ?_ ?_); decide; conv => whnf)
        | ((with_reducible refine Split.nez (fun _ => ?_) (fun _ => ?_)) <;> conv => whnf)
        | ((with_reducible refine Split.eqz (fun _ => ?_) (fun _ => ?_)) <;> conv => whnf)
        | ((with_reducible refine Split.and ?_))
        | ((with_reducible refine Split.or ?_))
        | ((with_reducible refine Split.streq (fun _ => ?_) (fun _ => ?_)) <;> conv => whnf)
        | ((with_reducible refine Split.dec (fun _ => ?_) (fun _ => ?_)) <;> conv => whnf)
        | ((with_reducible refine Split.mk (fun _ => ?_) (fun _ => ?_)) <;> conv => whnf)
        | ((with_reducible refine NilK.mk (fun _ => ?_) ?_) <;> conv => whnf)
        | ((with_reducible refine AltK.l ?_); (conv => whnf); (with_reducible refine Need.mk ?_ ?_); (first | omega | (refine ⟨?_, ?_⟩ <;> simp <;> omega) | (simp; omega)); conv => whnf)
        | ((with_reducible refine Need.mk ?_ ?_); (first | omega | rfl | decide | (refine ⟨?_, ?_⟩ <;> simp <;> omega) | (simp; omega)); conv => whnf)
        | ((with_reducible refine Wr.quo ?_ ?_ ?_ ?_); omega; omega; omega; conv => whnf)
        | ((with_reducible refine Wr.inr ?_ ?_); (first | omega | (simp; omega)); conv => whnf)
        | ((with_reducible refine Wr.inu ?_ ?_); omega; conv => whnf)
        | ((with_reducible refine AltK.l ?_); (conv => whnf); (first | (refine CallK.mk _ (c1) ?_)); conv => whnf)
        | (exfalso; first | omega | contradiction))
      all_goals first
        | (exfalso; omega)
        | skip
      refine Again.av (u, (u + w) / 2) ⟨by dsimp only; omega, by dsimp only; omega, h3, fun t x' ht hx' => ?_⟩ (by dsimp only; omega) (by refine ⟨?_, ?_, rfl⟩ <;> (repeat' (first | exact True.intro | exact rfl | refine ⟨?_, ?_⟩ | (intro h; cases h; done) | (intro h; exact h) | exact map_snoc | (refine own_congr ?_; simp; done) | (refine int_congr ?_; (first | omega | (simp; omega))) | (simp; done) | (refine view_congr ?_ ?_ <;> (first | omega | (simp; done) | (simp; omega))) | ((first | refine own_congr ?_ | refine int_congr ?_ | skip); simp [hz]; done) | ((first | refine own_congr ?_ | refine int_congr ?_); simp [hz]; omega) | (show @Eq (List Go.Vm.D) _ []; simp [hz]; done) | (simp [D.cells, hz]; done))); done)
      have := asc_at kM hA hxt hx' ht
      unfold kM at this; omega
    · conv => whnf
      repeat' (first
        | ((refine PickE.mk _ gy ?_); conv => whnf)
        | ((refine PickE.mk _ g1 ?_); conv => whnf)
        | ((with_reducible refine Split.of_true ?_); conv => whnf)
        | ((with_reducible refine Split.of_false ?_); conv => whnf)
        | ((with_reducible refine Split.neg ?_))
        | ((with_reducible refine Split.is_true ?_ ?_); decide; conv => whnf)
        | ((with_reducible refine Split.is_false ?_ ?_); decide; conv => whnf)
        | ((with_reducible refine Split.nez (fun _ => ?_) (fun _ => ?_)) <;> conv => whnf)
        | ((with_reducible refine Split.eqz (fun _ => ?_) (fun _ => ?_)) <;> conv => whnf)
        | ((with_reducible refine Split.and ?_))
        | ((with_reducible refine Split.or ?_))
        | ((with_reducible refine Split.streq (fun _ => ?_) (fun _ => ?_)) <;> conv => whnf)
        | ((with_reducible refine Split.dec (fun _ => ?_) (fun _ => ?_)) <;> conv => whnf)
        | ((with_reducible refine Split.mk (fun _ => ?_) (fun _ => ?_)) <;> conv => whnf)
        | ((with_reducible refine NilK.mk (fun _ => ?_) ?_) <;> conv => whnf)
        | ((with_reducible refine AltK.l ?_); (conv => whnf); (with_reducible refine Need.mk ?_ ?_); (first | omega | (refine ⟨?_, ?_⟩ <;> simp <;> omega) | (simp; omega)); conv => whnf)
        | ((with_reducible refine Need.mk ?_ ?_); (first | omega | rfl | decide | (refine ⟨?_, ?_⟩ <;> simp <;> omega) | (simp; omega)); conv => whnf)
        | ((with_reducible refine Wr.quo ?_ ?_ ?_ ?_); omega; omega; omega; conv => whnf)
        | ((with_reducible refine Wr.inr ?_ ?_); (first | omega | (simp; omega)); conv => whnf)
        | ((with_reducible refine Wr.inu ?_ ?_); omega; conv => whnf)
        | ((with_reducible refine AltK.l ?_); (conv => whnf); (first | (refine CallK.mk _ (c1) ?_)); conv => whnf)
        | (exfalso; first | omega | contradiction))
      all_goals first
        | (exfalso; omega)
        | skip
      refine Again.av ((u + w) / 2 + 1, w) ⟨by dsimp only; omega, h2, fun t x' ht hx' => ?_, h4⟩ (by dsimp only; omega) (by refine ⟨?_, ?_, rfl⟩ <;> (repeat' (first | exact True.intro | exact rfl | refine ⟨?_, ?_⟩ | (intro h; cases h; done) | (intro h; exact h) | exact map_snoc | (refine own_congr ?_; simp; done) | (refine int_congr ?_; (first | omega | (simp; omega))) | (simp; done) | (refine view_congr ?_ ?_ <;> (first | omega | (simp; done) | (simp; omega))) | ((first | refine own_congr ?_ | refine int_congr ?_ | skip); simp [hz]; done) | ((first | refine own_congr ?_ | refine int_congr ?_); simp [hz]; omega) | (show @Eq (List Go.Vm.D) _ []; simp [hz]; done) | (simp [D.cells, hz]; done))); done)
      have := asc_at kM hA hx' hxt (by dsimp only at ht; omega)
      unfold kM at this; omega
  · have hue : w = u := by omega
    subst hue
    have hr1 : ∀ t, t ≤ U.length → (((P ++ U.take t ++ y :: U.drop t ++ Q).map mD).length : Int) = N := fun t ht => by simp; omega
    have hmp1 : (P ++ U ++ [y] ++ Q).map mD = (P ++ U.take U.length ++ y :: U.drop U.length ++ Q).map mD := by simp
    have hmp2 : (P ++ U.take w ++ y :: U.drop w ++ Q).map mD = (P ++ mrg kM U [y] ++ Q).map mD := by
      rw [mrg_right kM (i := w) (fun x hx => by
        obtain ⟨t, ht, e⟩ := mem_take_at hx
        exact h3 t x ht e) (fun x hx => by
        obtain ⟨t, ht, e⟩ := mem_drop_at hx
        exact h4 t x ht e)]
      simp
    conv => whnf
    repeat' (first
      | ((with_reducible refine Split.of_true ?_); conv => whnf)
      | ((with_reducible refine Split.of_false ?_); conv => whnf)
      | ((with_reducible refine Split.neg ?_))
      | ((with_reducible refine Split.is_true ?_ ?_); decide; conv => whnf)
      | ((with_reducible refine Split.is_false ?_ ?_); decide; conv => whnf)
      | ((with_reducible refine Split.nez (fun _ => ?_) (fun _ => ?_)) <;> conv => whnf)
      | ((with_reducible refine Split.eqz (fun _ => ?_) (fun _ => ?_)) <;> conv => whnf)
      | ((with_reducible refine Split.and ?_))
      | ((with_reducible refine Split.or ?_))
      | ((with_reducible refine Split.streq (fun _ => ?_) (fun _ => ?_)) <;> conv => whnf)
      | ((with_reducible refine Split.dec (fun _ => ?_) (fun _ => ?_)) <;> conv => whnf)
      | ((with_reducible refine Split.mk (fun _ => ?_) (fun _ => ?_)) <;> conv => whnf)
      | ((with_reducible refine NilK.mk (fun _ => ?_) ?_) <;> conv => whnf)
      | ((with_reducible refine AltK.l ?_); (conv => whnf); (with_reducible refine Need.mk ?_ ?_); (first | omega | (refine ⟨?_, ?_⟩ <;> simp <;> omega) | (simp; omega)); conv => whnf)
      | ((with_reducible refine Need.mk ?_ ?_); (first | omega | rfl | decide | (refine ⟨?_, ?_⟩ <;> simp <;> omega) | (simp; omega)); conv => whnf)
      | ((with_reducible refine Wr.quo ?_ ?_ ?_ ?_); omega; omega; omega; conv => whnf)
      | ((with_reducible refine Wr.inr ?_ ?_); (first | omega | (simp; omega)); conv => whnf)
      | ((with_reducible refine Wr.inu ?_ ?_); omega; conv => whnf)
      | (exfalso; first | omega | contradiction))
    refine LoopK.o3 (fun t : Nat => w ≤ t ∧ t ≤ U.length) (fun t => [(17, .d (.int .i64 (a + t)))]) (fun t => [(1000, .row 41 2 ((P ++ U.take t ++ y :: U.drop t ++ Q).map mD) false)]) (fun t => t) U.length ⟨h2, Nat.le_refl _⟩ (by refine ⟨?_, ?_, rfl⟩ <;> (repeat' (first | exact True.intro | exact rfl | refine ⟨?_, ?_⟩ | (intro h; cases h; done) | (intro h; exact h) | exact map_snoc | (refine own_congr ?_; simp; done) | (refine int_congr ?_; (first | omega | (simp; omega))) | (simp; done) | (refine view_congr ?_ ?_ <;> (first | omega | (simp; done) | (simp; omega))) | exact hmp1 | ((first | refine own_congr ?_ | refine int_congr ?_ | skip); simp [D.cells]; done) | ((first | refine own_congr ?_ | refine int_congr ?_); simp [D.cells]; omega) | (show @Eq (List Go.Vm.D) _ []; simp [D.cells]; done) | (simp [D.cells, D.cells]; done))); done) ?_
    clear hmp1
    rintro t ⟨ht1, ht⟩
    dsimp only at ht ⊢
    have hrt := hr1 t (by omega)
    by_cases htw : w < t
    · obtain ⟨s, rfl⟩ : ∃ s, t = s + 1 := ⟨t - 1, by omega⟩
      obtain ⟨x, hxt⟩ := some_of_lt (show s < U.length by omega)
      have e1 : P ++ U.take (s + 1) ++ y :: U.drop (s + 1) ++ Q = (P ++ U.take s) ++ x :: [] ++ y :: (U.drop (s + 1) ++ Q) := by rw [take_snoc hxt]; simp
      have e2 : (P ++ U.take s) ++ y :: [] ++ x :: (U.drop (s + 1) ++ Q) = P ++ U.take s ++ y :: U.drop s ++ Q := by rw [drop_of hxt]; simp
      have l1 : (P ++ U.take s).length = P.length + s := by rw [List.length_append, List.length_take]; omega
      have g1 : ((P ++ U.take (s + 1) ++ y :: U.drop (s + 1) ++ Q).map mD)[(a + ((s + 1 : Nat) : Int)).toNat]? = some (mD y) := by
        rw [e1]; exact mM_get (i := (P ++ U.take s ++ x :: []).length) (mid_get rfl) (by rw [List.length_append, List.length_singleton]; omega)
      have g2 : ((P ++ U.take (s + 1) ++ y :: U.drop (s + 1) ++ Q).map mD)[(a + ((s + 1 : Nat) : Int) - 1).toNat]? = some (mD x) := by
        rw [e1]; exact mM_get (i := (P ++ U.take s).length) (by rw [List.append_assoc, List.cons_append]; exact mid_get rfl) (by omega)
      have g3 := one_getR (W := P ++ U.take s) (Z := []) (R := U.drop (s + 1) ++ Q) (x := x) (y := y) (i := a + ((s + 1 : Nat) : Int) - 1) (j := a + ((s + 1 : Nat) : Int)) (by omega) (by rw [List.length_nil]; omega)
      have hmp3 := two_setR (W := P ++ U.take s) (Z := []) (R := U.drop (s + 1) ++ Q) (x := x) (y := y) (i := a + ((s + 1 : Nat) : Int) - 1) (j := a + ((s + 1 : Nat) : Int)) (by omega) (by rw [List.length_nil]; omega)
      rw [← e1] at g3 hmp3
      rw [e2] at hmp3
      conv => whnf
      repeat' (first
        | ((refine PickE.mk _ g2 ?_); conv => whnf)
        | ((refine PickE.mk _ g1 ?_); conv => whnf)
        | ((refine PickE.mk _ g3 ?_); conv => whnf)
        | ((with_reducible refine Split.of_true ?_); conv => whnf)
        | ((with_reducible refine Split.of_false ?_); conv => whnf)
        | ((with_reducible refine Split.neg ?_))
        | ((with_reducible refine Split.is_true ?_ ?_); decide; conv => whnf)
        | ((with_reducible refine Split.is_false ?_ ?_); decide; conv => whnf)
        | ((with_reducible refine Split.nez (fun _ => ?_) (fun _ => ?_)) <;> conv => whnf)
        | ((with_reducible refine Split.eqz (fun _ => ?_) (fun _ => ?_)) <;> conv => whnf)
        | ((with_reducible refine Split.and ?_))
        | ((with_reducible refine Split.or ?_))
        | ((with_reducible refine Split.streq (fun _ => ?_) (fun _ => ?_)) <;> conv => whnf)
        | ((with_reducible refine Split.dec (fun _ => ?_) (fun _ => ?_)) <;> conv => whnf)
        | ((with_reducible refine Split.mk (fun _ => ?_) (fun _ => ?_)) <;> conv => whnf)
        | ((with_reducible refine NilK.mk (fun _ => ?_) ?_) <;> conv => whnf)
        | ((with_reducible refine AltK.l ?_); (conv => whnf); (with_reducible refine Need.mk ?_ ?_); (first | omega | (refine ⟨?_, ?_⟩ <;> simp <;> omega) | (simp; omega)); conv => whnf)
        | ((with_reducible refine Need.mk ?_ ?_); (first | omega | rfl | decide | (refine ⟨?_, ?_⟩ <;> simp <;> omega) | (simp; omega)); conv => whnf)
        | ((with_reducible refine Wr.quo ?_ ?_ ?_ ?_); omega; omega; omega; conv => whnf)
        | ((with_reducible refine Wr.inr ?_ ?_); (first | omega | (simp; omega)); conv => whnf)
        | ((with_reducible refine Wr.inu ?_ ?_); omega; conv => whnf)
        | (exfalso; first | omega | contradiction))
      all_goals first
        | (exfalso; omega)
        | skip
      exact Again.av s ⟨by omega, by omega⟩ (by omega) (by refine ⟨?_, ?_, rfl⟩ <;> (repeat' (first | exact True.intro | exact rfl | refine ⟨?_, ?_⟩ | (intro h; cases h; done) | (intro h; exact h) | exact map_snoc | (refine own_congr ?_; simp; done) | (refine int_congr ?_; (first | omega | (simp; omega))) | (simp; done) | (refine view_congr ?_ ?_ <;> (first | omega | (simp; done) | (simp; omega))) | exact hmp3 | ((first | refine own_congr ?_ | refine int_congr ?_ | skip); simp [D.cells]; done) | ((first | refine own_congr ?_ | refine int_congr ?_); simp [D.cells]; omega) | (show @Eq (List Go.Vm.D) _ []; simp [D.cells]; done) | (simp [D.cells, D.cells]; done))); done)
    · have hte : t = w := by omega
      subst hte
      rw [hmp2]
      conv => whnf
      repeat' (first
        | ((with_reducible refine Split.of_true ?_); conv => whnf)
        | ((with_reducible refine Split.of_false ?_); conv => whnf)
        | ((with_reducible refine Split.neg ?_))
        | ((with_reducible refine Split.is_true ?_ ?_); decide; conv => whnf)
        | ((with_reducible refine Split.is_false ?_ ?_); decide; conv => whnf)
        | ((with_reducible refine Split.nez (fun _ => ?_) (fun _ => ?_)) <;> conv => whnf)
        | ((with_reducible refine Split.eqz (fun _ => ?_) (fun _ => ?_)) <;> conv => whnf)
        | ((with_reducible refine Split.and ?_))
        | ((with_reducible refine Split.or ?_))
        | ((with_reducible refine Split.streq (fun _ => ?_) (fun _ => ?_)) <;> conv => whnf)
        | ((with_reducible refine Split.dec (fun _ => ?_) (fun _ => ?_)) <;> conv => whnf)
        | ((with_reducible refine Split.mk (fun _ => ?_) (fun _ => ?_)) <;> conv => whnf)
        | ((with_reducible refine NilK.mk (fun _ => ?_) ?_) <;> conv => whnf)
        | ((with_reducible refine AltK.l ?_); (conv => whnf); (with_reducible refine Need.mk ?_ ?_); (first | omega | (refine ⟨?_, ?_⟩ <;> simp <;> omega) | (simp; omega)); conv => whnf)
        | ((with_reducible refine Need.mk ?_ ?_); (first | omega | rfl | decide | (refine ⟨?_, ?_⟩ <;> simp <;> omega) | (simp; omega)); conv => whnf)
        | ((with_reducible refine Wr.quo ?_ ?_ ?_ ?_); omega; omega; omega; conv => whnf)
        | ((with_reducible refine Wr.inr ?_ ?_); (first | omega | (simp; omega)); conv => whnf)
        | ((with_reducible refine Wr.inu ?_ ?_); omega; conv => whnf)
        | (exfalso; first | omega | contradiction))
      all_goals first
        | (exfalso; omega)
        | skip
      exact ⟨⟨[], (by refine ⟨?_, ?_, rfl⟩ <;> (repeat' (first | exact True.intro | exact rfl | refine ⟨?_, ?_⟩ | (intro h; cases h; done) | (intro h; exact h) | exact map_snoc | (refine own_congr ?_; simp; done) | (refine int_congr ?_; (first | omega | (simp; omega))) | (simp; done) | (refine view_congr ?_ ?_ <;> (first | omega | (simp; done) | (simp; omega))))); done)⟩, rfl⟩
/-- Two parts are merged. -/
theorem xv_sym : ∀ (n : Nat) (P U Y Q : List Mk) (N : Nat) (a m b : Int), U.length + Y.length ≤ n → 0 < U.length → 0 < Y.length → inM U → inM Y → Asc kM U → Asc kM Y → a = P.length → m = P.length + U.length → b = P.length + U.length + Y.length → N = P.length + U.length + Y.length + Q.length → N ≤ 100000 →
    EvX Try.prog 33 [.own 1000 2 N, .d (.int .i64 a), .d (.int .i64 m), .d (.int .i64 b), .d (.fn 14 [])] [(1000, .row 41 2 ((P ++ U ++ Y ++ Q).map mD) false)] (.tup []) [(1000, .row 41 2 ((P ++ mrg kM U Y ++ Q).map mD) false)]
  | 0, P, U, Y, Q, N, a, m, b => fun h hX => by omega
  | n + 1, P, U, Y, Q, N, a, m, b => fun hn hX hY hxm hym hxa hya ha hm hb hN hN2 => by
    by_cases hX1 : U.length = 1
    · obtain ⟨x, rfl⟩ := List.length_eq_one_iff.1 hX1
      exact xv_symL P Y Q x N a m b (hxm x (by simp)) hym hya ha (by rw [hm, hX1]; rfl) (by rw [hb, hX1]; rfl) (by rw [hN, hX1]) hN2
    by_cases hY1 : Y.length = 1
    · obtain ⟨y, rfl⟩ := List.length_eq_one_iff.1 hY1
      exact xv_symR P U Q y N a m b hxm (hym y (by simp)) hxa (by omega) ha hm (by rw [hb, hY1]; rfl) (by rw [hN, hY1]) hN2
    have ih := fun P U Y Q N a m b => xv_sym n P U Y Q N a m b
    obtain ⟨H, hH⟩ : ∃ H : Nat, H = (U.length + Y.length) / 2 := ⟨_, rfl⟩
    have hmid : shrZ (a + b) 1 = a + (H : Int) := by rw [shrZ_one]; omega
    have hrl : (((P ++ U ++ Y ++ Q).map mD).length : Int) = N := by simp; omega
    -- where the halves are cut
    have key : ∀ u : Nat, u ≤ U.length → u ≤ H → H - u ≤ Y.length → (u = 0 ∨ Y.length ≤ H - u ∨ ∃ x y, U[u - 1]? = some x ∧ Y[H - u]? = some y ∧ ¬ kM y < kM x) → (H - u = 0 ∨ U.length ≤ u ∨ ∃ x y, U[u]? = some x ∧ Y[H - u - 1]? = some y ∧ kM y < kM x) →
        mrg kM U Y = mrg kM (U.take u) (Y.take (H - u)) ++ mrg kM (U.drop u) (Y.drop (H - u)) := fun u _ _ _ c1 c2 => by
      have := mrg_split kM (cut_left kM hxa hya c1) (cut_right kM hxa hya c2)
      rwa [List.take_append_drop, List.take_append_drop] at this
    refine evx_of_awp tysOk mixed (fn := Try.f33) Try.func33 rfl rfl rfl ?_
    conv => whnf
    repeat' (first
      | ((with_reducible refine Split.of_true ?_); conv => whnf)
      | ((with_reducible refine Split.of_false ?_); conv => whnf)
      | ((with_reducible refine Split.neg ?_))
      | ((with_reducible refine Split.is_true ?_ ?_); decide; conv => whnf)
      | ((with_reducible refine Split.is_false ?_ ?_); decide; conv => whnf)
      | ((with_reducible refine Split.nez (fun _ => ?_) (fun _ => ?_)) <;> conv => whnf)
      | ((with_reducible refine Split.eqz (fun _ => ?_) (fun _ => ?_)) <;> conv => whnf)
      | ((with_reducible refine Split.and ?_))
      | ((with_reducible refine Split.or ?_))
      | ((with_reducible refine Split.streq (fun _ => ?_) (fun _ => ?_)) <;> conv => whnf)
      | ((with_reducible refine Split.dec (fun _ => ?_) (fun _ => ?_)) <;> conv => whnf)
      | ((with_reducible refine Split.mk (fun _ => ?_) (fun _ => ?_)) <;> conv => whnf)
      | ((with_reducible refine NilK.mk (fun _ => ?_) ?_) <;> conv => whnf)
      | ((with_reducible refine AltK.l ?_); (conv => whnf); (with_reducible refine Need.mk ?_ ?_); (first | omega | (refine ⟨?_, ?_⟩ <;> simp <;> omega) | (simp; omega)); conv => whnf)
      | ((with_reducible refine Need.mk ?_ ?_); (first | omega | rfl | decide | (refine ⟨?_, ?_⟩ <;> simp <;> omega) | (simp; omega)); conv => whnf)
      | ((with_reducible refine Wr.quo ?_ ?_ ?_ ?_); omega; omega; omega; conv => whnf)
      | ((with_reducible refine Wr.inr ?_ ?_); (first | omega | (simp; omega)); conv => whnf)
      | ((with_reducible refine Wr.inu ?_ ?_); omega; conv => whnf)
      | (exfalso; first | omega | contradiction))
    all_goals first
      | (exfalso; omega)
      | skip
    all_goals (
      refine LoopK.o3 (fun z : Nat × Nat => H - Y.length ≤ z.1 ∧ z.1 ≤ z.2 ∧ z.2 ≤ U.length ∧ z.2 ≤ H ∧ (∀ t x y, H - Y.length ≤ t → t < z.1 → U[t]? = some x → Y[H - 1 - t]? = some y → ¬ kM y < kM x) ∧ (∀ t x y, z.2 ≤ t → t < U.length → t < H → U[t]? = some x → Y[H - 1 - t]? = some y → kM y < kM x))
        (fun z => [(20, .d (.int .i64 (a + z.1))), (21, .d (.int .i64 (a + z.2)))]) (fun _ => []) (fun z => z.2 - z.1) (H - Y.length, min U.length H) ⟨Nat.le_refl _, by dsimp only; omega, Nat.min_le_left _ _, Nat.min_le_right _ _, fun t x y h1 h2 => by dsimp only at h2; omega, fun t x y h1 h2 h3 => by dsimp only at h1; omega⟩ (by refine ⟨?_, ?_, rfl⟩ <;> (repeat' (first | exact True.intro | exact rfl | refine ⟨?_, ?_⟩ | (intro h; cases h; done) | (intro h; exact h) | exact map_snoc | (refine own_congr ?_; simp; done) | (refine int_congr ?_; (first | omega | (simp; omega))) | (simp; done) | (refine view_congr ?_ ?_ <;> (first | omega | (simp; done) | (simp; omega))) | ((first | refine own_congr ?_ | refine int_congr ?_ | skip); simp [D.cells]; done) | ((first | refine own_congr ?_ | refine int_congr ?_); simp [D.cells]; omega) | (show @Eq (List Go.Vm.D) _ []; simp [D.cells]; done) | (simp [D.cells, D.cells]; done))); done) ?_
      rintro ⟨u, w⟩ ⟨i1, i2, i3, i4, i5, i6⟩
      dsimp only at i1 i2 i3 i4 i5 i6 ⊢
      by_cases huw : u < w
      · obtain ⟨x, hxt⟩ := some_of_lt (show (u + w) / 2 < U.length by omega)
        obtain ⟨y, hyt⟩ := some_of_lt (show H - 1 - (u + w) / 2 < Y.length by omega)
        have hz : shrZ (a + (u : Int) + (a + (w : Int))) 1 = a + ((u + w) / 2 : Nat) := by rw [shrZ_one]; omega
        have k1 : ((P ++ U ++ Y ++ Q).map mD)[(shrZ (a + (u : Int) + (a + (w : Int))) 1).toNat]? = some (mD x) := inX hxt (by rw [hz]; omega)
        have k2 : ((P ++ U ++ Y ++ Q).map mD)[(shrZ (a + b) 1 + m - 1 - shrZ (a + (u : Int) + (a + (w : Int))) 1).toNat]? = some (mD y) := inY hyt (by rw [hz, hmid]; omega)
        have c1 := ev_earlyM y x (hym.at_ hyt) (hxm.at_ hxt)
        by_cases hlt : y.m < x.m
        · conv => whnf
          repeat' (first
            | ((refine PickE.mk _ k1 ?_); conv => whnf)
            | ((refine PickE.mk _ k2 ?_); conv => whnf)
            | ((with_reducible refine Split.of_true ?_); conv => whnf)
            | ((with_reducible refine Split.of_false ?_); conv => whnf)
            | ((with_reducible refine Split.neg ?_))
            | ((with_reducible refine Split.is_true ?_ ?_); decide; conv => whnf)
            | ((with_reducible refine Split.is_false ?_ ?_); decide; conv => whnf)
            | ((with_reducible refine Split.nez (fun _ => ?_) (fun _ => ?_)) <;> conv => whnf)
            | ((with_reducible refine Split.eqz (fun _ => ?_) (fun _ => ?_)) <;> conv => whnf)
            | ((with_reducible refine Split.and ?_))
            | ((with_reducible refine Split.or ?_))
            | ((with_reducible refine Split.streq (fun _ => ?_) (fun _ => ?_)) <;> conv => whnf)
            | ((with_reducible refine Split.dec (fun _ => ?_) (fun _ => ?_)) <;> conv => whnf)
            | ((with_reducible refine Split.mk (fun _ => ?_) (fun _ => ?_)) <;> conv => whnf)
            | ((with_reducible refine NilK.mk (fun _ => ?_) ?_) <;> conv => whnf)
            | ((with_reducible refine AltK.l ?_); (conv => whnf); (with_reducible refine Need.mk ?_ ?_); (first | omega | (refine ⟨?_, ?_⟩ <;> simp <;> omega) | (simp; omega)); conv => whnf)
            | ((with_reducible refine Need.mk ?_ ?_); (first | omega | rfl | decide | (refine ⟨?_, ?_⟩ <;> simp <;> omega) | (simp; omega)); conv => whnf)
            | ((with_reducible refine Wr.quo ?_ ?_ ?_ ?_); omega; omega; omega; conv => whnf)
            | ((with_reducible refine Wr.inr ?_ ?_); (first | omega | (simp; omega)); conv => whnf)
            | ((with_reducible refine Wr.inu ?_ ?_); omega; conv => whnf)
            | ((with_reducible refine AltK.l ?_); (conv => whnf); (first | (refine CallK.mk _ (c1) ?_)); conv => whnf)
            | (exfalso; first | omega | contradiction))
          all_goals first
            | (exfalso; omega)
            | skip
          refine Again.av (u, (u + w) / 2) ⟨i1, by dsimp only; omega, by dsimp only; omega, by dsimp only; omega, i5, fun t x' y' t1 t2 t3 hx' hy' => ?_⟩ (by dsimp only; omega) (by refine ⟨?_, ?_, rfl⟩ <;> (repeat' (first | exact True.intro | exact rfl | refine ⟨?_, ?_⟩ | (intro h; cases h; done) | (intro h; exact h) | exact map_snoc | (refine own_congr ?_; simp; done) | (refine int_congr ?_; (first | omega | (simp; omega))) | (simp; done) | (refine view_congr ?_ ?_ <;> (first | omega | (simp; done) | (simp; omega))) | ((first | refine own_congr ?_ | refine int_congr ?_ | skip); simp [hz]; done) | ((first | refine own_congr ?_ | refine int_congr ?_); simp [hz]; omega) | (show @Eq (List Go.Vm.D) _ []; simp [hz]; done) | (simp [D.cells, hz]; done))); done)
          have e1 := asc_at kM hxa hxt hx' t1
          have e2 := asc_at kM hya hy' hyt (by dsimp only at t1; omega)
          unfold kM at e1 e2 ⊢; omega
        · conv => whnf
          repeat' (first
            | ((refine PickE.mk _ k1 ?_); conv => whnf)
            | ((refine PickE.mk _ k2 ?_); conv => whnf)
            | ((with_reducible refine Split.of_true ?_); conv => whnf)
            | ((with_reducible refine Split.of_false ?_); conv => whnf)
            | ((with_reducible refine Split.neg ?_))
            | ((with_reducible refine Split.is_true ?_ ?_); decide; conv => whnf)
            | ((with_reducible refine Split.is_false ?_ ?_); decide; conv => whnf)
            | ((with_reducible refine Split.nez (fun _ => ?_) (fun _ => ?_)) <;> conv => whnf)
            | ((with_reducible refine Split.eqz (fun _ => ?_) (fun _ => ?_)) <;> conv => whnf)
            | ((with_reducible refine Split.and ?_))
            | ((with_reducible refine Split.or ?_))
            | ((with_reducible refine Split.streq (fun _ => ?_) (fun _ => ?_)) <;> conv => whnf)
            | ((with_reducible refine Split.dec (fun _ => ?_) (fun _ => ?_)) <;> conv => whnf)
            | ((with_reducible refine Split.mk (fun _ => ?_) (fun _ => ?_)) <;> conv => whnf)
            | ((with_reducible refine NilK.mk (fun _ => ?_) ?_) <;> conv => whnf)
            | ((with_reducible refine AltK.l ?_); (conv => whnf); (with_reducible refine Need.mk ?_ ?_); (first | omega | (refine ⟨?_, ?_⟩ <;> simp <;> omega) | (simp; omega)); conv => whnf)
            | ((with_reducible refine Need.mk ?_ ?_); (first | omega | rfl | decide | (refine ⟨?_, ?_⟩ <;> simp <;> omega) | (simp; omega)); conv => whnf)
            | ((with_reducible refine Wr.quo ?_ ?_ ?_ ?_); omega; omega; omega; conv => whnf)
            | ((with_reducible refine Wr.inr ?_ ?_); (first | omega | (simp; omega)); conv => whnf)
            | ((with_reducible refine Wr.inu ?_ ?_); omega; conv => whnf)
            | ((with_reducible refine AltK.l ?_); (conv => whnf); (first | (refine CallK.mk _ (c1) ?_)); conv => whnf)
            | (exfalso; first | omega | contradiction))
          all_goals first
            | (exfalso; omega)
            | skip
          refine Again.av ((u + w) / 2 + 1, w) ⟨by dsimp only; omega, by dsimp only; omega, i3, i4, fun t x' y' t1 t2 hx' hy' => ?_, i6⟩ (by dsimp only; omega) (by refine ⟨?_, ?_, rfl⟩ <;> (repeat' (first | exact True.intro | exact rfl | refine ⟨?_, ?_⟩ | (intro h; cases h; done) | (intro h; exact h) | exact map_snoc | (refine own_congr ?_; simp; done) | (refine int_congr ?_; (first | omega | (simp; omega))) | (simp; done) | (refine view_congr ?_ ?_ <;> (first | omega | (simp; done) | (simp; omega))) | ((first | refine own_congr ?_ | refine int_congr ?_ | skip); simp [hz]; done) | ((first | refine own_congr ?_ | refine int_congr ?_); simp [hz]; omega) | (show @Eq (List Go.Vm.D) _ []; simp [hz]; done) | (simp [D.cells, hz]; done))); done)
          have e1 := asc_at kM hxa hx' hxt (by dsimp only at t2; omega)
          have e2 := asc_at kM hya hyt hy' (by dsimp only at t2; omega)
          unfold kM at e1 e2 ⊢; omega
      · have hue : w = u := by omega
        subst hue
        have hcut := key w i3 i4 (by omega) (by
          by_cases h : w = H - Y.length
          · by_cases h0 : w = 0
            · exact .inl h0
            · exact .inr (.inl (by omega))
          · obtain ⟨x, hx⟩ := some_of_lt (show w - 1 < U.length by omega)
            obtain ⟨y, hy⟩ := some_of_lt (show H - w < Y.length by omega)
            exact .inr (.inr ⟨x, y, hx, hy, i5 (w - 1) x y (by omega) (by omega) hx (by rw [show H - 1 - (w - 1) = H - w by omega]; exact hy)⟩)) (by
          by_cases h : w < U.length ∧ w < H
          · obtain ⟨x, hx⟩ := some_of_lt h.1
            obtain ⟨y, hy⟩ := some_of_lt (show H - w - 1 < Y.length by omega)
            exact .inr (.inr ⟨x, y, hx, hy, i6 w x y (Nat.le_refl _) h.1 h.2 hx (by rw [show H - 1 - w = H - w - 1 by omega]; exact hy)⟩)
          · by_cases h0 : w < H
            · exact .inr (.inl (by omega))
            · exact .inl (by omega))
        have eU : U.take w ++ U.drop w = U := List.take_append_drop _ _
        have eY : Y.take (H - w) ++ Y.drop (H - w) = Y := List.take_append_drop _ _
        have n1 : (U.take w).length = w := by rw [List.length_take]; omega
        have n2 : (U.drop w).length = U.length - w := List.length_drop
        have n3 : (Y.take (H - w)).length = H - w := by rw [List.length_take]; omega
        have n4 : (Y.drop (H - w)).length = Y.length - (H - w) := List.length_drop
        have s1 : inM (U.take w) := fun z hz => hxm z (List.mem_of_mem_take hz)
        have s2 : inM (U.drop w) := fun z hz => hxm z (List.mem_of_mem_drop hz)
        have s3 : inM (Y.take (H - w)) := fun z hz => hym z (List.mem_of_mem_take hz)
        have s4 : inM (Y.drop (H - w)) := fun z hz => hym z (List.mem_of_mem_drop hz)
        have a1 : Asc kM (U.take w) := hxa.sublist (List.take_sublist _ _)
        have a2 : Asc kM (U.drop w) := hxa.sublist (List.drop_sublist _ _)
        have a3 : Asc kM (Y.take (H - w)) := hya.sublist (List.take_sublist _ _)
        have a4 : Asc kM (Y.drop (H - w)) := hya.sublist (List.drop_sublist _ _)
        generalize U.take w = U1 at *
        generalize U.drop w = U2 at *
        generalize Y.take (H - w) = Y1 at *
        generalize Y.drop (H - w) = Y2 at *
        have hT : (P ++ mrg kM U Y ++ Q).map mD = (P ++ mrg kM U1 Y1 ++ mrg kM U2 Y2 ++ Q).map mD := by rw [hcut]; simp
        have w1 := fun (c : w < U.length ∧ w < H) => xv_rotate (P ++ U1) U2 Y1 (Y2 ++ Q) 14 N (a + (w : Int)) m (shrZ (a + b) 1 + m - (a + (w : Int))) (by omega) (by omega) (by rw [List.length_append]; omega) (by rw [List.length_append]; omega) (by rw [List.length_append, hmid]; omega) (by rw [List.length_append, List.length_append]; omega) hN2
        have w2 := fun (c : 0 < w ∧ w < H) => ih P U1 Y1 (U2 ++ Y2 ++ Q) N a (a + (w : Int)) (shrZ (a + b) 1) (by omega) (by omega) (by omega) s1 s3 a1 a3 ha (by omega) (by rw [hmid]; omega) (by rw [List.length_append, List.length_append]; omega) hN2
        have w3 := fun (c : w < U.length ∧ H - w < Y.length) => ih (P ++ mrg kM U1 Y1) U2 Y2 Q N (shrZ (a + b) 1) (shrZ (a + b) 1 + m - (a + (w : Int))) b (by omega) (by omega) (by omega) s2 s4 a2 a4 (by rw [List.length_append, mrg_len, hmid]; omega) (by rw [List.length_append, mrg_len, hmid]; omega) (by rw [List.length_append, mrg_len]; omega) (by rw [List.length_append, mrg_len]; omega) hN2
        have q1 : ¬ (w < U.length ∧ w < H) → P ++ U1 ++ U2 ++ Y1 ++ (Y2 ++ Q) = P ++ U1 ++ Y1 ++ U2 ++ (Y2 ++ Q) := fun c => by
          by_cases h : w < U.length
          · have : Y1 = [] := List.eq_nil_of_length_eq_zero (by omega)
            subst this; simp
          · have : U2 = [] := List.eq_nil_of_length_eq_zero (by omega)
            subst this; simp
        have q2 : ¬ (0 < w ∧ w < H) → P ++ U1 ++ Y1 ++ (U2 ++ Y2 ++ Q) = P ++ mrg kM U1 Y1 ++ (U2 ++ Y2 ++ Q) := fun c => by
          by_cases h : 0 < w
          · have : Y1 = [] := List.eq_nil_of_length_eq_zero (by omega)
            subst this; rw [nil_mrg]; simp
          · have : U1 = [] := List.eq_nil_of_length_eq_zero (by omega)
            subst this; rw [mrg_nil]; simp
        have q3 : ¬ (w < U.length ∧ H - w < Y.length) → P ++ mrg kM U1 Y1 ++ U2 ++ Y2 ++ Q = P ++ mrg kM U1 Y1 ++ mrg kM U2 Y2 ++ Q := fun c => by
          by_cases h : w < U.length
          · have : Y2 = [] := List.eq_nil_of_length_eq_zero (by omega)
            subst this; rw [nil_mrg]; simp
          · have : U2 = [] := List.eq_nil_of_length_eq_zero (by omega)
            subst this; rw [mrg_nil]; simp
        have f0 : P ++ U ++ Y ++ Q = P ++ U1 ++ U2 ++ Y1 ++ (Y2 ++ Q) := by rw [← eU, ← eY]; simp
        have f1 : P ++ U1 ++ Y1 ++ U2 ++ (Y2 ++ Q) = P ++ U1 ++ Y1 ++ (U2 ++ Y2 ++ Q) := by simp
        have f2 : P ++ mrg kM U1 Y1 ++ (U2 ++ Y2 ++ Q) = P ++ mrg kM U1 Y1 ++ U2 ++ Y2 ++ Q := by simp
        rw [hT, f0]
        rw [f1] at w1 q1
        rw [f2] at w2 q2
        clear hT f0 f1 f2 hcut key ih hrl
        generalize P ++ U1 ++ U2 ++ Y1 ++ (Y2 ++ Q) = R0 at *
        generalize P ++ U1 ++ Y1 ++ (U2 ++ Y2 ++ Q) = R1 at *
        generalize P ++ mrg kM U1 Y1 ++ U2 ++ Y2 ++ Q = R2 at *
        generalize P ++ mrg kM U1 Y1 ++ mrg kM U2 Y2 ++ Q = R3 at *
        by_cases c1 : w < U.length ∧ w < H <;> by_cases c2 : 0 < w ∧ w < H <;> by_cases c3 : w < U.length ∧ H - w < Y.length
        all_goals (
          try (have e := q1 c1; subst e)
          try (have e := q2 c2; subst e)
          try (have e := q3 c3; subst e)
          conv => whnf
          repeat' (first
            | ((with_reducible refine Split.of_true ?_); conv => whnf)
            | ((with_reducible refine Split.of_false ?_); conv => whnf)
            | ((with_reducible refine Split.neg ?_))
            | ((with_reducible refine Split.is_true ?_ ?_); decide; conv => whnf)
            | ((with_reducible refine Split.is_false ?_ ?_); decide; conv => whnf)
            | ((with_reducible refine Split.nez (fun _ => ?_) (fun _ => ?_)) <;> conv => whnf)
            | ((with_reducible refine Split.eqz (fun _ => ?_) (fun _ => ?_)) <;> conv => whnf)
            | ((with_reducible refine Split.and ?_))
            | ((with_reducible refine Split.or ?_))
            | ((with_reducible refine Split.streq (fun _ => ?_) (fun _ => ?_)) <;> conv => whnf)
            | ((with_reducible refine Split.dec (fun _ => ?_) (fun _ => ?_)) <;> conv => whnf)
            | ((with_reducible refine Split.mk (fun _ => ?_) (fun _ => ?_)) <;> conv => whnf)
            | ((with_reducible refine NilK.mk (fun _ => ?_) ?_) <;> conv => whnf)
            | ((with_reducible refine AltK.l ?_); (conv => whnf); (with_reducible refine Need.mk ?_ ?_); (first | omega | (refine ⟨?_, ?_⟩ <;> simp <;> omega) | (simp; omega)); conv => whnf)
            | ((with_reducible refine Need.mk ?_ ?_); (first | omega | rfl | decide | (refine ⟨?_, ?_⟩ <;> simp <;> omega) | (simp; omega)); conv => whnf)
            | ((with_reducible refine Wr.quo ?_ ?_ ?_ ?_); omega; omega; omega; conv => whnf)
            | ((with_reducible refine Wr.inr ?_ ?_); (first | omega | (simp; omega)); conv => whnf)
            | ((with_reducible refine Wr.inu ?_ ?_); omega; conv => whnf)
            | ((with_reducible refine AltK.r ?_); (conv => whnf); (first | (refine CallX.mk _ _ ((w1 c1)) rfl ?_) | (refine CallX.mk _ _ ((w2 c2)) rfl ?_) | (refine CallX.mk _ _ ((w3 c3)) rfl ?_)); conv => whnf)
            | (exfalso; first | omega | contradiction))
          all_goals first
            | (exfalso; omega)
            | skip
          all_goals exact ⟨⟨[], (by refine ⟨?_, ?_, rfl⟩ <;> (repeat' (first | exact True.intro | exact rfl | refine ⟨?_, ?_⟩ | (intro h; cases h; done) | (intro h; exact h) | exact map_snoc | (refine own_congr ?_; simp; done) | (refine int_congr ?_; (first | omega | (simp; omega))) | (simp; done) | (refine view_congr ?_ ?_ <;> (first | omega | (simp; done) | (simp; omega))))); done)⟩, rfl⟩))
end Go.Proofs.Try
