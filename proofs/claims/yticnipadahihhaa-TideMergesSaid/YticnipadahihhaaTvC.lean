import Derived.Test.YticnipadahihhaaTvB
namespace Go.Proofs.Try
open Go Go.Vm
set_option maxRecDepth 20000
set_option maxHeartbeats 8000000
/-! The library's stable sort at marks: insertion. -/
theorem ev_earlyM (a b : Mk) (ha : 0 ≤ a.m ∧ a.m ≤ 1000000) (hb : 0 ≤ b.m ∧ b.m ≤ 1000000) : Ev Try.prog 14 [mD a, mD b] (.int .i64 (a.m - b.m)) := by
  refine ev_of_awp tysOk mixed (fn := Try.f14) Try.func14 rfl rfl rfl ?_
  conv => whnf
  repeat' (first
    | ((with_reducible refine Split.of_true ?_); conv => whnf)
    | ((with_reducible refine Split.of_false ?_); conv => whnf)
    | ((with_reducible refine Split.neg ?_))
    | ((with_reducible refine Split.is_true ?_ ?_); decide; conv => whnf)
    | ((with_reducible refine Split.is_false ?_ ?_); decide; conv => whnf)
    | ((with_reducible refine Split.nez (fun _ => ?_) (fun _ => ?_)) <;> conv => whnf)
    | ((with_reducible refine Split.eqz (fun _ => ?_) (fun _ => ?_)) <;> conv => whnf)
    | ((with_reducible refine Split.and ?_))
    | ((with_reducible refine Split.or ?_))
    | ((with_reducible refine Split.streq (fun _ => ?_) (fun _ => ?_)) <;> conv => whnf)
    | ((with_reducible refine Split.dec (fun _ => ?_) (fun _ => ?_)) <;> conv => whnf)
    | ((with_reducible refine Split.mk (fun _ => ?_) (fun _ => ?_)) <;> conv => whnf)
    | ((with_reducible refine NilK.mk (fun _ => ?_) ?_) <;> conv => whnf)
    | ((with_reducible refine AltK.l ?_); (conv => whnf); (with_reducible refine Need.mk ?_ ?_); (first | omega | (refine ⟨?_, ?_⟩ <;> simp <;> omega) | (simp; omega)); conv => whnf)
    | ((with_reducible refine Need.mk ?_ ?_); (first | omega | rfl | decide | (refine ⟨?_, ?_⟩ <;> simp <;> omega) | (simp; omega)); conv => whnf)
    | ((with_reducible refine Wr.quo ?_ ?_ ?_ ?_); omega; omega; omega; conv => whnf)
    | ((with_reducible refine Wr.inr ?_ ?_); (first | omega | (simp; omega)); conv => whnf)
    | ((with_reducible refine Wr.inu ?_ ?_); omega; conv => whnf)
    | (exfalso; first | omega | contradiction))
  rfl
theorem two_setR {W Z R : List Mk} {x y : Mk} {i j : Int} (hi : i = W.length) (hj : j = W.length + 1 + Z.length) :
    (((W ++ x :: Z ++ y :: R).map mD).set j.toNat (mD x)).set i.toNat (mD y) = (W ++ y :: Z ++ x :: R).map mD := by
  subst hi
  have e : j.toNat = (W ++ x :: Z).length := by rw [List.length_append, List.length_cons]; omega
  rw [Int.toNat_natCast, ← List.map_set, ← List.map_set, e, mid_set rfl]
  rw [show W ++ x :: Z ++ x :: R = W ++ x :: (Z ++ x :: R) by simp, mid_set rfl]; simp
theorem one_getR {W Z R : List Mk} {x y : Mk} {i j : Int} (hi : i = W.length) (hj : j = W.length + 1 + Z.length) : (((W ++ x :: Z ++ y :: R).map mD).set j.toNat (mD x))[i.toNat]? = some (mD x) := by
  subst hi
  have e : j.toNat = (W ++ x :: Z).length := by rw [List.length_append, List.length_cons]; omega
  rw [Int.toNat_natCast, ← List.map_set, e, mid_set rfl]
  rw [show W ++ x :: Z ++ x :: R = W ++ x :: (Z ++ x :: R) by simp, List.getElem?_map, mid_get rfl]; rfl
def inM (l : List Mk) : Prop := ∀ x ∈ l, 0 ≤ x.m ∧ x.m ≤ 1000000
theorem inM.at_ {l : List Mk} (h : inM l) {i : Nat} {x : Mk} (hx : l[i]? = some x) : 0 ≤ x.m ∧ x.m ≤ 1000000 := h x (List.mem_of_getElem? hx)
theorem xv_insM (P U Q : List Mk) (N : Nat) (a b : Int) (hm : inM U) (ha : a = P.length) (hb : b = P.length + U.length) (hN : N = P.length + U.length + Q.length) (hN2 : N ≤ 100000) :
    EvX Try.prog 32 [.own 1000 2 N, .d (.int .i64 a), .d (.int .i64 b), .d (.fn 14 [])] [(1000, .row 41 2 ((P ++ U ++ Q).map mD) false)] (.tup []) [(1000, .row 41 2 ((P ++ srt kM U ++ Q).map mD) false)] := by
  have hmp0 : (P ++ U ++ Q).map mD = (P ++ srt kM (U.take 1) ++ U.drop 1 ++ Q).map mD := by
    cases U with
    | nil => simp [srt]
    | cons x r =>
      have : srt kM ((x :: r).take 1) = [x] := srt_one kM
      rw [this]; simp
  have hr0 : ∀ k, (((P ++ srt kM (U.take k) ++ U.drop k ++ Q).map mD).length : Int) = N := fun k => by
    rw [List.length_map]
    simp only [List.length_append, srt_len, List.length_take, List.length_drop]
    omega
  refine evx_of_awp tysOk mixed (fn := Try.f32) Try.func32 rfl rfl rfl ?_
  conv => whnf
  repeat' (first
    | ((with_reducible refine Split.of_true ?_); conv => whnf)
    | ((with_reducible refine Split.of_false ?_); conv => whnf)
    | ((with_reducible refine Split.neg ?_))
    | ((with_reducible refine Split.is_true ?_ ?_); decide; conv => whnf)
    | ((with_reducible refine Split.is_false ?_ ?_); decide; conv => whnf)
    | ((with_reducible refine Split.nez (fun _ => ?_) (fun _ => ?_)) <;> conv => whnf)
    | ((with_reducible refine Split.eqz (fun _ => ?_) (fun _ => ?_)) <;> conv => whnf)
    | ((with_reducible refine Split.and ?_))
    | ((with_reducible refine Split.or ?_))
    | ((with_reducible refine Split.streq (fun _ => ?_) (fun _ => ?_)) <;> conv => whnf)
    | ((with_reducible refine Split.dec (fun _ => ?_) (fun _ => ?_)) <;> conv => whnf)
    | ((with_reducible refine Split.mk (fun _ => ?_) (fun _ => ?_)) <;> conv => whnf)
    | ((with_reducible refine NilK.mk (fun _ => ?_) ?_) <;> conv => whnf)
    | ((with_reducible refine AltK.l ?_); (conv => whnf); (with_reducible refine Need.mk ?_ ?_); (first | omega | (refine ⟨?_, ?_⟩ <;> simp <;> omega) | (simp; omega)); conv => whnf)
    | ((with_reducible refine Need.mk ?_ ?_); (first | omega | rfl | decide | (refine ⟨?_, ?_⟩ <;> simp <;> omega) | (simp; omega)); conv => whnf)
    | ((with_reducible refine Wr.quo ?_ ?_ ?_ ?_); omega; omega; omega; conv => whnf)
    | ((with_reducible refine Wr.inr ?_ ?_); (first | omega | (simp; omega)); conv => whnf)
    | ((with_reducible refine Wr.inu ?_ ?_); omega; conv => whnf)
    | (exfalso; first | omega | contradiction))
  refine LoopK.o3 (fun k : Nat => 1 ≤ k ∧ (k = 1 ∨ k ≤ U.length)) (fun k => [(8, .d (.int .i64 (a + k)))]) (fun k => [(1000, .row 41 2 ((P ++ srt kM (U.take k) ++ U.drop k ++ Q).map mD) false)]) (fun k => U.length + 1 - k) 1 ⟨Nat.le_refl _, .inl rfl⟩ (by refine ⟨?_, ?_, rfl⟩ <;> (repeat' (first | exact True.intro | exact rfl | refine ⟨?_, ?_⟩ | (intro h; cases h; done) | (intro h; exact h) | exact map_snoc | (refine own_congr ?_; simp; done) | (refine int_congr ?_; (first | omega | (simp; omega))) | (simp; done) | (refine view_congr ?_ ?_ <;> (first | omega | (simp; done) | (simp; omega))) | exact hmp0 | ((first | refine own_congr ?_ | refine int_congr ?_ | skip); simp [D.cells]; done) | ((first | refine own_congr ?_ | refine int_congr ?_); simp [D.cells]; omega) | (show @Eq (List Go.Vm.D) _ []; simp [D.cells]; done) | (simp [D.cells, D.cells]; done))); done) ?_
  clear hmp0
  rintro k ⟨hk1, hk⟩
  dsimp only at hk1 hk ⊢
  have hrl := hr0 k
  by_cases hkl : k < U.length
  · obtain ⟨x, hx⟩ := some_of_lt hkl
    have hxm := hm.at_ hx
    have hSl : (srt kM (U.take k)).length = k := by rw [srt_len, List.length_take]; omega
    have hSa := srt_asc kM (U := U.take k)
    have hSm : inM (srt kM (U.take k)) := fun z hz => hm z (List.mem_of_mem_take ((srt_perm kM).mem_iff.1 hz))
    have hins : ∀ t, t ≤ k → (∀ s ∈ (srt kM (U.take k)).take t, kM s ≤ kM x) → (∀ s ∈ (srt kM (U.take k)).drop t, kM x < kM s) → srt kM (U.take (k + 1)) = (srt kM (U.take k)).take t ++ x :: (srt kM (U.take k)).drop t := fun t _ h1 h2 => by
      rw [take_snoc hx]
      exact srt_ins kM (List.take_append_drop t _).symm h1 h2
    generalize hS : srt kM (U.take k) = S at *
    have hmp1 : (P ++ S ++ U.drop k ++ Q).map mD = (P ++ S.take k ++ x :: S.drop k ++ U.drop (k + 1) ++ Q).map mD := by
      rw [drop_of hx, show S.take k = S from List.take_of_length_le (by omega), show S.drop k = [] from List.drop_eq_nil_of_le (by omega)]; simp
    have hr1 : ∀ t, t ≤ k → (((P ++ S.take t ++ x :: S.drop t ++ U.drop (k + 1) ++ Q).map mD).length : Int) = N := fun t ht => by simp; omega
    conv => whnf
    repeat' (first
      | ((with_reducible refine Split.of_true ?_); conv => whnf)
      | ((with_reducible refine Split.of_false ?_); conv => whnf)
      | ((with_reducible refine Split.neg ?_))
      | ((with_reducible refine Split.is_true ?_ ?_); decide; conv => whnf)
      | ((with_reducible refine Split.is_false ?_ ?_); decide; conv => whnf)
      | ((with_reducible refine Split.nez (fun _ => ?_) (fun _ => ?_)) <;> conv => whnf)
      | ((with_reducible refine Split.eqz (fun _ => ?_) (fun _ => ?_)) <;> conv => whnf)
      | ((with_reducible refine Split.and ?_))
      | ((with_reducible refine Split.or ?_))
      | ((with_reducible refine Split.streq (fun _ => ?_) (fun _ => ?_)) <;> conv => whnf)
      | ((with_reducible refine Split.dec (fun _ => ?_) (fun _ => ?_)) <;> conv => whnf)
      | ((with_reducible refine Split.mk (fun _ => ?_) (fun _ => ?_)) <;> conv => whnf)
      | ((with_reducible refine NilK.mk (fun _ => ?_) ?_) <;> conv => whnf)
      | ((with_reducible refine AltK.l ?_); (conv => whnf); (with_reducible refine Need.mk ?_ ?_); (first | omega | (refine ⟨?_, ?_⟩ <;> simp <;> omega) | (simp; omega)); conv => whnf)
      | ((with_reducible refine Need.mk ?_ ?_); (first | omega | rfl | decide | (refine ⟨?_, ?_⟩ <;> simp <;> omega) | (simp; omega)); conv => whnf)
      | ((with_reducible refine Wr.quo ?_ ?_ ?_ ?_); omega; omega; omega; conv => whnf)
      | ((with_reducible refine Wr.inr ?_ ?_); (first | omega | (simp; omega)); conv => whnf)
      | ((with_reducible refine Wr.inu ?_ ?_); omega; conv => whnf)
      | (exfalso; first | omega | contradiction))
    refine LoopK.o3 (fun t : Nat => t ≤ k ∧ ∀ s ∈ S.drop t, kM x < kM s) (fun t => [(9, .d (.int .i64 (a + t)))]) (fun t => [(1000, .row 41 2 ((P ++ S.take t ++ x :: S.drop t ++ U.drop (k + 1) ++ Q).map mD) false)]) (fun t => t) k ⟨Nat.le_refl _, fun s hs => by rw [List.drop_eq_nil_of_le (by omega)] at hs; cases hs⟩ (by refine ⟨?_, ?_, rfl⟩ <;> (repeat' (first | exact True.intro | exact rfl | refine ⟨?_, ?_⟩ | (intro h; cases h; done) | (intro h; exact h) | exact map_snoc | (refine own_congr ?_; simp; done) | (refine int_congr ?_; (first | omega | (simp; omega))) | (simp; done) | (refine view_congr ?_ ?_ <;> (first | omega | (simp; done) | (simp; omega))) | exact hmp1 | ((first | refine own_congr ?_ | refine int_congr ?_ | skip); simp [D.cells]; done) | ((first | refine own_congr ?_ | refine int_congr ?_); simp [D.cells]; omega) | (show @Eq (List Go.Vm.D) _ []; simp [D.cells]; done) | (simp [D.cells, D.cells]; done))); done) ?_
    clear hmp1
    rintro t ⟨ht, hgt⟩
    dsimp only at ht ⊢
    have hrt := hr1 t ht
    have fin : (∀ s ∈ S.take t, kM s ≤ kM x) → (P ++ S.take t ++ x :: S.drop t ++ U.drop (k + 1) ++ Q).map mD = (P ++ srt kM (U.take (k + 1)) ++ U.drop (k + 1) ++ Q).map mD := fun h => by rw [hins t ht h hgt]; simp
    cases t with
    | zero =>
      have hmp2 := fin (by simp)
      conv => whnf
      repeat' (first
        | ((with_reducible refine Split.of_true ?_); conv => whnf)
        | ((with_reducible refine Split.of_false ?_); conv => whnf)
        | ((with_reducible refine Split.neg ?_))
        | ((with_reducible refine Split.is_true ?_ ?_); decide; conv => whnf)
        | ((with_reducible refine Split.is_false ?_ ?_); decide; conv => whnf)
        | ((with_reducible refine Split.nez (fun _ => ?_) (fun _ => ?_)) <;> conv => whnf)
        | ((with_reducible refine Split.eqz (fun _ => ?_) (fun _ => ?_)) <;> conv => whnf)
        | ((with_reducible refine Split.and ?_))
        | ((with_reducible refine Split.or ?_))
        | ((with_reducible refine Split.streq (fun _ => ?_) (fun _ => ?_)) <;> conv => whnf)
        | ((with_reducible refine Split.dec (fun _ => ?_) (fun _ => ?_)) <;> conv => whnf)
        | ((with_reducible refine Split.mk (fun _ => ?_) (fun _ => ?_)) <;> conv => whnf)
        | ((with_reducible refine NilK.mk (fun _ => ?_) ?_) <;> conv => whnf)
        | ((with_reducible refine AltK.l ?_); (conv => whnf); (with_reducible refine Need.mk ?_ ?_); (first | omega | (refine ⟨?_, ?_⟩ <;> simp <;> omega) | (simp; omega)); conv => whnf)
        | ((with_reducible refine Need.mk ?_ ?_); (first | omega | rfl | decide | (refine ⟨?_, ?_⟩ <;> simp <;> omega) | (simp; omega)); conv => whnf)
        | ((with_reducible refine Wr.quo ?_ ?_ ?_ ?_); omega; omega; omega; conv => whnf)
        | ((with_reducible refine Wr.inr ?_ ?_); (first | omega | (simp; omega)); conv => whnf)
        | ((with_reducible refine Wr.inu ?_ ?_); omega; conv => whnf)
        | (exfalso; first | omega | contradiction))
      all_goals first
        | (exfalso; omega)
        | skip
      refine Again.av (k + 1) ⟨by omega, .inr (by omega)⟩ (by omega) (by refine ⟨?_, ?_, rfl⟩ <;> (repeat' (first | exact True.intro | exact rfl | refine ⟨?_, ?_⟩ | (intro h; cases h; done) | (intro h; exact h) | exact map_snoc | (refine own_congr ?_; simp; done) | (refine int_congr ?_; (first | omega | (simp; omega))) | (simp; done) | (refine view_congr ?_ ?_ <;> (first | omega | (simp; done) | (simp; omega))) | exact hmp2 | ((first | refine own_congr ?_ | refine int_congr ?_ | skip); simp [D.cells]; done) | ((first | refine own_congr ?_ | refine int_congr ?_); simp [D.cells]; omega) | (show @Eq (List Go.Vm.D) _ []; simp [D.cells]; done) | (simp [D.cells, D.cells]; done))); done)
    | succ u =>
      obtain ⟨s, hs⟩ := some_of_lt (show u < S.length by omega)
      have hsm := hSm.at_ hs
      have e1 : P ++ S.take (u + 1) ++ x :: S.drop (u + 1) ++ U.drop (k + 1) ++ Q = (P ++ S.take u) ++ s :: [] ++ x :: (S.drop (u + 1) ++ U.drop (k + 1) ++ Q) := by rw [take_snoc hs]; simp
      have e2 : (P ++ S.take u) ++ x :: [] ++ s :: (S.drop (u + 1) ++ U.drop (k + 1) ++ Q) = P ++ S.take u ++ x :: S.drop u ++ U.drop (k + 1) ++ Q := by rw [drop_of hs]; simp
      have l1 : (P ++ S.take u).length = P.length + u := by rw [List.length_append, List.length_take]; omega
      have w := ev_earlyM x s hxm hsm
      have g1 : ((P ++ S.take (u + 1) ++ x :: S.drop (u + 1) ++ U.drop (k + 1) ++ Q).map mD)[(a + ((u + 1 : Nat) : Int)).toNat]? = some (mD x) := by
        rw [e1]; exact mM_get (i := (P ++ S.take u ++ s :: []).length) (mid_get rfl) (by rw [List.length_append, List.length_singleton]; omega)
      have g2 : ((P ++ S.take (u + 1) ++ x :: S.drop (u + 1) ++ U.drop (k + 1) ++ Q).map mD)[(a + ((u + 1 : Nat) : Int) - 1).toNat]? = some (mD s) := by
        rw [e1]; exact mM_get (i := (P ++ S.take u).length) (by rw [List.append_assoc, List.cons_append]; exact mid_get rfl) (by omega)
      by_cases hlt : x.m < s.m
      · have g3 := one_getR (W := P ++ S.take u) (Z := []) (R := S.drop (u + 1) ++ U.drop (k + 1) ++ Q) (x := s) (y := x) (i := a + ((u + 1 : Nat) : Int) - 1) (j := a + ((u + 1 : Nat) : Int)) (by omega) (by rw [List.length_nil]; omega)
        have hmp3 := two_setR (W := P ++ S.take u) (Z := []) (R := S.drop (u + 1) ++ U.drop (k + 1) ++ Q) (x := s) (y := x) (i := a + ((u + 1 : Nat) : Int) - 1) (j := a + ((u + 1 : Nat) : Int)) (by omega) (by rw [List.length_nil]; omega)
        rw [← e1] at g3 hmp3
        rw [e2] at hmp3
        conv => whnf
        repeat' (first
          | ((refine PickE.mk _ g2 ?_); conv => whnf)
          | ((refine PickE.mk _ g1 ?_); conv => whnf)
          | ((refine PickE.mk _ g3 ?_); conv => whnf)
          | ((with_reducible refine Split.of_true ?_); conv => whnf)
          | ((with_reducible refine Split.of_false ?_); conv => whnf)
          | ((with_reducible refine Split.neg ?_))
          | ((with_reducible refine Split.is_true ?_ ?_); decide; conv => whnf)
          | ((with_reducible refine Split.is_false ?_ ?_); decide; conv => whnf)
          | ((with_reducible refine Split.nez (fun _ => ?_) (fun _ => ?_)) <;> conv => whnf)
          | ((with_reducible refine Split.eqz (fun _ => ?_) (fun _ => ?_)) <;> conv => whnf)
          | ((with_reducible refine Split.and ?_))
          | ((with_reducible refine Split.or ?_))
          | ((with_reducible refine Split.streq (fun _ => ?_) (fun _ => ?_)) <;> conv => whnf)
          | ((with_reducible refine Split.dec (fun _ => ?_) (fun _ => ?_)) <;> conv => whnf)
          | ((with_reducible refine Split.mk (fun _ => ?_) (fun _ => ?_)) <;> conv => whnf)
          | ((with_reducible refine NilK.mk (fun _ => ?_) ?_) <;> conv => whnf)
          | ((with_reducible refine AltK.l ?_); (conv => whnf); (with_reducible refine Need.mk ?_ ?_); (first | omega | (refine ⟨?_, ?_⟩ <;> simp <;> omega) | (simp; omega)); conv => whnf)
          | ((with_reducible refine Need.mk ?_ ?_); (first | omega | rfl | decide | (refine ⟨?_, ?_⟩ <;> simp <;> omega) | (simp; omega)); conv => whnf)
          | ((with_reducible refine Wr.quo ?_ ?_ ?_ ?_); omega; omega; omega; conv => whnf)
          | ((with_reducible refine Wr.inr ?_ ?_); (first | omega | (simp; omega)); conv => whnf)
          | ((with_reducible refine Wr.inu ?_ ?_); omega; conv => whnf)
          | ((with_reducible refine AltK.l ?_); (conv => whnf); (first | (refine CallK.mk _ (w) ?_)); conv => whnf)
          | (exfalso; first | omega | contradiction))
        all_goals first
          | (exfalso; omega)
          | skip
        refine Again.av u ⟨by omega, fun z hz => ?_⟩ (by omega) (by refine ⟨?_, ?_, rfl⟩ <;> (repeat' (first | exact True.intro | exact rfl | refine ⟨?_, ?_⟩ | (intro h; cases h; done) | (intro h; exact h) | exact map_snoc | (refine own_congr ?_; simp; done) | (refine int_congr ?_; (first | omega | (simp; omega))) | (simp; done) | (refine view_congr ?_ ?_ <;> (first | omega | (simp; done) | (simp; omega))) | exact hmp3 | ((first | refine own_congr ?_ | refine int_congr ?_ | skip); simp [D.cells]; done) | ((first | refine own_congr ?_ | refine int_congr ?_); simp [D.cells]; omega) | (show @Eq (List Go.Vm.D) _ []; simp [D.cells]; done) | (simp [D.cells, D.cells]; done))); done)
        rw [drop_of hs] at hz
        rcases List.mem_cons.1 hz with rfl | hz
        · exact hlt
        · exact hgt z hz
      · have hmp2 := fin fun z hz => by
          obtain ⟨i, hi, ez⟩ := mem_take_at hz
          have := asc_at kM hSa ez hs (by omega)
          unfold kM at this ⊢
          omega
        conv => whnf
        repeat' (first
          | ((refine PickE.mk _ g2 ?_); conv => whnf)
          | ((refine PickE.mk _ g1 ?_); conv => whnf)
          | ((with_reducible refine Split.of_true ?_); conv => whnf)
          | ((with_reducible refine Split.of_false ?_); conv => whnf)
          | ((with_reducible refine Split.neg ?_))
          | ((with_reducible refine Split.is_true ?_ ?_); decide; conv => whnf)
          | ((with_reducible refine Split.is_false ?_ ?_); decide; conv => whnf)
          | ((with_reducible refine Split.nez (fun _ => ?_) (fun _ => ?_)) <;> conv => whnf)
          | ((with_reducible refine Split.eqz (fun _ => ?_) (fun _ => ?_)) <;> conv => whnf)
          | ((with_reducible refine Split.and ?_))
          | ((with_reducible refine Split.or ?_))
          | ((with_reducible refine Split.streq (fun _ => ?_) (fun _ => ?_)) <;> conv => whnf)
          | ((with_reducible refine Split.dec (fun _ => ?_) (fun _ => ?_)) <;> conv => whnf)
          | ((with_reducible refine Split.mk (fun _ => ?_) (fun _ => ?_)) <;> conv => whnf)
          | ((with_reducible refine NilK.mk (fun _ => ?_) ?_) <;> conv => whnf)
          | ((with_reducible refine AltK.l ?_); (conv => whnf); (with_reducible refine Need.mk ?_ ?_); (first | omega | (refine ⟨?_, ?_⟩ <;> simp <;> omega) | (simp; omega)); conv => whnf)
          | ((with_reducible refine Need.mk ?_ ?_); (first | omega | rfl | decide | (refine ⟨?_, ?_⟩ <;> simp <;> omega) | (simp; omega)); conv => whnf)
          | ((with_reducible refine Wr.quo ?_ ?_ ?_ ?_); omega; omega; omega; conv => whnf)
          | ((with_reducible refine Wr.inr ?_ ?_); (first | omega | (simp; omega)); conv => whnf)
          | ((with_reducible refine Wr.inu ?_ ?_); omega; conv => whnf)
          | ((with_reducible refine AltK.l ?_); (conv => whnf); (first | (refine CallK.mk _ (w) ?_)); conv => whnf)
          | (exfalso; first | omega | contradiction))
        all_goals first
          | (exfalso; omega)
          | skip
        refine Again.av (k + 1) ⟨by omega, .inr (by omega)⟩ (by omega) (by refine ⟨?_, ?_, rfl⟩ <;> (repeat' (first | exact True.intro | exact rfl | refine ⟨?_, ?_⟩ | (intro h; cases h; done) | (intro h; exact h) | exact map_snoc | (refine own_congr ?_; simp; done) | (refine int_congr ?_; (first | omega | (simp; omega))) | (simp; done) | (refine view_congr ?_ ?_ <;> (first | omega | (simp; done) | (simp; omega))) | exact hmp2 | ((first | refine own_congr ?_ | refine int_congr ?_ | skip); simp [D.cells]; done) | ((first | refine own_congr ?_ | refine int_congr ?_); simp [D.cells]; omega) | (show @Eq (List Go.Vm.D) _ []; simp [D.cells]; done) | (simp [D.cells, D.cells]; done))); done)
  · have hmp4 : (P ++ srt kM (U.take k) ++ U.drop k ++ Q).map mD = (P ++ srt kM U ++ Q).map mD := by
      rw [List.take_of_length_le (by omega), List.drop_eq_nil_of_le (by omega), List.append_nil]
    rw [hmp4]
    conv => whnf
    repeat' (first
      | ((with_reducible refine Split.of_true ?_); conv => whnf)
      | ((with_reducible refine Split.of_false ?_); conv => whnf)
      | ((with_reducible refine Split.neg ?_))
      | ((with_reducible refine Split.is_true ?_ ?_); decide; conv => whnf)
      | ((with_reducible refine Split.is_false ?_ ?_); decide; conv => whnf)
      | ((with_reducible refine Split.nez (fun _ => ?_) (fun _ => ?_)) <;> conv => whnf)
      | ((with_reducible refine Split.eqz (fun _ => ?_) (fun _ => ?_)) <;> conv => whnf)
      | ((with_reducible refine Split.and ?_))
      | ((with_reducible refine Split.or ?_))
      | ((with_reducible refine Split.streq (fun _ => ?_) (fun _ => ?_)) <;> conv => whnf)
      | ((with_reducible refine Split.dec (fun _ => ?_) (fun _ => ?_)) <;> conv => whnf)
      | ((with_reducible refine Split.mk (fun _ => ?_) (fun _ => ?_)) <;> conv => whnf)
      | ((with_reducible refine NilK.mk (fun _ => ?_) ?_) <;> conv => whnf)
      | ((with_reducible refine AltK.l ?_); (conv => whnf); (with_reducible refine Need.mk ?_ ?_); (first | omega | (refine ⟨?_, ?_⟩ <;> simp <;> omega) | (simp; omega)); conv => whnf)
      | ((with_reducible refine Need.mk ?_ ?_); (first | omega | rfl | decide | (refine ⟨?_, ?_⟩ <;> simp <;> omega) | (simp; omega)); conv => whnf)
      | ((with_reducible refine Wr.quo ?_ ?_ ?_ ?_); omega; omega; omega; conv => whnf)
      | ((with_reducible refine Wr.inr ?_ ?_); (first | omega | (simp; omega)); conv => whnf)
      | ((with_reducible refine Wr.inu ?_ ?_); omega; conv => whnf)
      | (exfalso; first | omega | contradiction))
    all_goals first
      | (exfalso; omega)
      | skip
    exact ⟨⟨[], (by refine ⟨?_, ?_, rfl⟩ <;> (repeat' (first | exact True.intro | exact rfl | refine ⟨?_, ?_⟩ | (intro h; cases h; done) | (intro h; exact h) | exact map_snoc | (refine own_congr ?_; simp; done) | (refine int_congr ?_; (first | omega | (simp; omega))) | (simp; done) | (refine view_congr ?_ ?_ <;> (first | omega | (simp; done) | (simp; omega))))); done)⟩, rfl⟩
end Go.Proofs.Try
