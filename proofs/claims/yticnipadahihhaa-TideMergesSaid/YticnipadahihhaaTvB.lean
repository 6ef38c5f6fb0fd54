import Derived.Test.YticnipadahihhaaTvA
import Derived.Test.YticnipadahihhaaTwI
import Derived.Test.YticnipadahihhaaVmNm
namespace Go.Proofs.Try
open Go Go.Vm
set_option maxRecDepth 20000
set_option maxHeartbeats 8000000
/-! The library's stable sort at marks: swapRange, rotate, insertion. -/
def kM (m : Mk) : Int := m.m
theorem mid_get {α : Type} {W R : List α} {x : α} {i : Nat} (h : i = W.length) : (W ++ x :: R)[i]? = some x := by subst h; simp
theorem mid_set {α : Type} {W R : List α} {x y : α} {i : Nat} (h : i = W.length) : (W ++ x :: R).set i y = W ++ y :: R := by
  subst h
  rw [List.set_append_right _ _ (Nat.le_refl _), Nat.sub_self]; rfl
theorem mM_get {l : List Mk} {i : Nat} {x : Mk} {n : Int} (h : l[i]? = some x) (hn : n = i) : (l.map mD)[n.toNat]? = some (mD x) := by
  subst hn
  rw [Int.toNat_natCast, List.getElem?_map, h]; rfl
/-- Two elements changed. -/
theorem two_set {W Z R : List Mk} {x y : Mk} {i j : Int} (hi : i = W.length) (hj : j = W.length + 1 + Z.length) :
    (((W ++ x :: Z ++ y :: R).map mD).set i.toNat (mD y)).set j.toNat (mD x) = (W ++ y :: Z ++ x :: R).map mD := by
  subst hi
  have e : j.toNat = (W ++ y :: Z).length := by rw [List.length_append, List.length_cons]; omega
  rw [Int.toNat_natCast, ← List.map_set, ← List.map_set, List.append_assoc, List.cons_append, mid_set rfl, e]
  rw [show W ++ y :: (Z ++ y :: R) = (W ++ y :: Z) ++ y :: R by simp, mid_set rfl]
theorem one_get {W Z R : List Mk} {x y : Mk} {i j : Int} (hi : i = W.length) (hj : j = W.length + 1 + Z.length) : (((W ++ x :: Z ++ y :: R).map mD).set i.toNat (mD y))[j.toNat]? = some (mD y) := by
  subst hi
  have e : j.toNat = (W ++ y :: Z).length := by rw [List.length_append, List.length_cons]; omega
  rw [Int.toNat_natCast, ← List.map_set, List.append_assoc, List.cons_append, mid_set rfl, e]
  rw [show W ++ y :: (Z ++ y :: R) = (W ++ y :: Z) ++ y :: R by simp, List.getElem?_map, mid_get rfl]; rfl
theorem xv_swap (P A M B Q : List Mk) (F N : Nat) (a b n : Int) (hl : A.length = B.length) (ha : a = P.length) (hb : b = P.length + A.length + M.length) (hn : n = A.length) (hN : N = P.length + A.length + M.length + B.length + Q.length) (hN2 : N ≤ 100000) :
    EvX Try.prog 39 [.own 1000 2 N, .d (.int .i64 a), .d (.int .i64 b), .d (.int .i64 n), .d (.fn F [])] [(1000, .row 41 2 ((P ++ A ++ M ++ B ++ Q).map mD) false)] (.tup []) [(1000, .row 41 2 ((P ++ B ++ M ++ A ++ Q).map mD) false)] := by
  have hr0 : ∀ i, i ≤ A.length → (((P ++ B.take i ++ A.drop i ++ M ++ A.take i ++ B.drop i ++ Q).map mD).length : Int) = N := fun i hi => by simp; omega
  have hmp0 : (P ++ A ++ M ++ B ++ Q).map mD = (P ++ B.take 0 ++ A.drop 0 ++ M ++ A.take 0 ++ B.drop 0 ++ Q).map mD := by simp
  refine evx_of_awp tysOk mixed (fn := Try.f39) Try.func39 rfl rfl rfl ?_
  conv => whnf
  repeat' (first
    | ((with_reducible refine Split.of_true ?_); conv => whnf)
    | ((with_reducible refine Split.of_false ?_); conv => whnf)
    | ((with_reducible refine Split.neg ?_))
    | ((with_reducible refine Split.is_true ?_ ?_); decide; conv => whnf)
    | ((with_reducible refine Split.is_false ?_ ?_); decide; conv => whnf)
    | ((with_reducible refine Split.nez (fun _ => ?_) (fun _ => ?_)) <;> conv => whnf)
    | ((with_reducible refine Split.eqz (fun _ => ?_) (fun _ => ?_)) <;> conv => whnf)
    | ((with_reducible refine Split.and ?_))
    | ((with_reducible refine Split.or ?_))
    | ((with_reducible refine Split.streq (fun _ => ?_) (fun _ => ?_)) <;> conv => whnf)
    | ((with_reducible refine Split.dec (fun _ => ?_) (fun _ => ?_)) <;> conv => whnf)
    | ((with_reducible refine Split.mk (fun _ => ?_) (fun _ => ?_)) <;> conv => whnf)
    | ((with_reducible refine NilK.mk (fun _ => ?_) ?_) <;> conv => whnf)
    | ((with_reducible refine AltK.l ?_); (conv => whnf); (with_reducible refine Need.mk ?_ ?_); (first | omega | (refine ⟨?_, ?_⟩ <;> simp <;> omega) | (simp; omega)); conv => whnf)
    | ((with_reducible refine Need.mk ?_ ?_); (first | omega | rfl | decide | (refine ⟨?_, ?_⟩ <;> simp <;> omega) | (simp; omega)); conv => whnf)
    | ((with_reducible refine Wr.quo ?_ ?_ ?_ ?_); omega; omega; omega; conv => whnf)
    | ((with_reducible refine Wr.inr ?_ ?_); (first | omega | (simp; omega)); conv => whnf)
    | ((with_reducible refine Wr.inu ?_ ?_); omega; conv => whnf)
    | (exfalso; first | omega | contradiction))
  refine LoopK.o3 (fun i : Nat => i ≤ A.length) (fun i => [(10, .d (.int .i64 i))]) (fun i => [(1000, .row 41 2 ((P ++ B.take i ++ A.drop i ++ M ++ A.take i ++ B.drop i ++ Q).map mD) false)]) (fun i => A.length - i) 0 (Nat.zero_le _) (by refine ⟨?_, ?_, rfl⟩ <;> (repeat' (first | exact True.intro | exact rfl | refine ⟨?_, ?_⟩ | (intro h; cases h; done) | (intro h; exact h) | exact map_snoc | (refine own_congr ?_; simp; done) | (refine int_congr ?_; (first | omega | (simp; omega))) | (simp; done) | (refine view_congr ?_ ?_ <;> (first | omega | (simp; done) | (simp; omega))) | exact hmp0 | ((first | refine own_congr ?_ | refine int_congr ?_ | skip); simp [D.cells]; done) | ((first | refine own_congr ?_ | refine int_congr ?_); simp [D.cells]; omega) | (show @Eq (List Go.Vm.D) _ []; simp [D.cells]; done) | (simp [D.cells, D.cells]; done))); done) ?_
  clear hmp0
  rintro i hi
  dsimp only at hi ⊢
  have hrl := hr0 i hi
  by_cases hil : i < A.length
  · obtain ⟨x, hx⟩ := some_of_lt hil
    obtain ⟨y, hy⟩ := some_of_lt (show i < B.length by omega)
    have e1 : P ++ B.take i ++ A.drop i ++ M ++ A.take i ++ B.drop i ++ Q = (P ++ B.take i) ++ x :: (A.drop (i + 1) ++ M ++ A.take i) ++ y :: (B.drop (i + 1) ++ Q) := by rw [drop_of hx, drop_of hy]; simp
    have e2 : (P ++ B.take i) ++ y :: (A.drop (i + 1) ++ M ++ A.take i) ++ x :: (B.drop (i + 1) ++ Q) = P ++ B.take (i + 1) ++ A.drop (i + 1) ++ M ++ A.take (i + 1) ++ B.drop (i + 1) ++ Q := by rw [take_snoc hx, take_snoc hy]; simp
    have l1 : (P ++ B.take i).length = P.length + i := by rw [List.length_append, List.length_take]; omega
    have l2 : (A.drop (i + 1) ++ M ++ A.take i).length + 1 = A.length + M.length := by simp; omega
    rw [e1] at hrl ⊢
    have g1 : (((P ++ B.take i) ++ x :: (A.drop (i + 1) ++ M ++ A.take i) ++ y :: (B.drop (i + 1) ++ Q)).map mD)[(a + (i : Int)).toNat]? = some (mD x) := mM_get (i := (P ++ B.take i).length) (by rw [List.append_assoc, List.cons_append]; exact mid_get rfl) (by omega)
    have g2 : (((P ++ B.take i) ++ x :: (A.drop (i + 1) ++ M ++ A.take i) ++ y :: (B.drop (i + 1) ++ Q)).map mD)[(b + (i : Int)).toNat]? = some (mD y) := mM_get (i := ((P ++ B.take i) ++ x :: (A.drop (i + 1) ++ M ++ A.take i)).length) (mid_get rfl) (by rw [List.length_append, List.length_cons]; omega)
    have g3 := one_get (W := P ++ B.take i) (Z := A.drop (i + 1) ++ M ++ A.take i) (R := B.drop (i + 1) ++ Q) (x := x) (y := y) (i := a + (i : Int)) (j := b + (i : Int)) (by omega) (by omega)
    have hmp1 := two_set (W := P ++ B.take i) (Z := A.drop (i + 1) ++ M ++ A.take i) (R := B.drop (i + 1) ++ Q) (x := x) (y := y) (i := a + (i : Int)) (j := b + (i : Int)) (by omega) (by omega)
    rw [e2] at hmp1
    conv => whnf
    repeat' (first
      | ((refine PickE.mk _ g2 ?_); conv => whnf)
      | ((refine PickE.mk _ g1 ?_); conv => whnf)
      | ((refine PickE.mk _ g3 ?_); conv => whnf)
      | ((with_reducible refine Split.of_true ?_); conv => whnf)
      | ((with_reducible refine Split.of_false ?_); conv => whnf)
      | ((with_reducible refine Split.neg ?_))
      | ((with_reducible refine Split.is_true ?_ ?_); decide; conv => whnf)
      | ((with_reducible refine Split.is_false ?_ ?_); decide; conv => whnf)
      | ((with_reducible refine Split.nez (fun _ => ?_) (fun _ => ?_)) <;> conv => whnf)
      | ((with_reducible refine Split.eqz (fun _ => ?_) (fun _ => ?_)) <;> conv => whnf)
      | ((with_reducible refine Split.and ?_))
      | ((with_reducible refine Split.or ?_))
      | ((with_reducible refine Split.streq (fun _ => ?_) (fun _ => ?_)) <;> conv => whnf)
      | ((with_reducible refine Split.dec (fun _ => ?_) (fun _ => ?_)) <;> conv => whnf)
      | ((with_reducible refine Split.mk (fun _ => ?_) (fun _ => ?_)) <;> conv => whnf)
      | ((with_reducible refine NilK.mk (fun _ => ?_) ?_) <;> conv => whnf)
      | ((with_reducible refine AltK.l ?_); (conv => whnf); (with_reducible refine Need.mk ?_ ?_); (first | omega | (refine ⟨?_, ?_⟩ <;> simp <;> omega) | (simp; omega)); conv => whnf)
      | ((with_reducible refine Need.mk ?_ ?_); (first | omega | rfl | decide | (refine ⟨?_, ?_⟩ <;> simp <;> omega) | (simp; omega)); conv => whnf)
      | ((with_reducible refine Wr.quo ?_ ?_ ?_ ?_); omega; omega; omega; conv => whnf)
      | ((with_reducible refine Wr.inr ?_ ?_); (first | omega | (simp; omega)); conv => whnf)
      | ((with_reducible refine Wr.inu ?_ ?_); omega; conv => whnf)
      | (exfalso; first | omega | contradiction))
    exact Again.av (i + 1) (by omega) (by omega) (by refine ⟨?_, ?_, rfl⟩ <;> (repeat' (first | exact True.intro | exact rfl | refine ⟨?_, ?_⟩ | (intro h; cases h; done) | (intro h; exact h) | exact map_snoc | (refine own_congr ?_; simp; done) | (refine int_congr ?_; (first | omega | (simp; omega))) | (simp; done) | (refine view_congr ?_ ?_ <;> (first | omega | (simp; done) | (simp; omega))) | exact hmp1 | ((first | refine own_congr ?_ | refine int_congr ?_ | skip); simp [D.cells]; done) | ((first | refine own_congr ?_ | refine int_congr ?_); simp [D.cells]; omega) | (show @Eq (List Go.Vm.D) _ []; simp [D.cells]; done) | (simp [D.cells, D.cells]; done))); done)
  · have hie : i = A.length := by omega
    subst hie
    have hmp2 : (P ++ B.take A.length ++ A.drop A.length ++ M ++ A.take A.length ++ B.drop A.length ++ Q).map mD = (P ++ B ++ M ++ A ++ Q).map mD := by
      rw [List.drop_length, List.take_length, hl, List.drop_length, List.take_length]; simp
    rw [hmp2]
    conv => whnf
    repeat' (first
      | ((with_reducible refine Split.of_true ?_); conv => whnf)
      | ((with_reducible refine Split.of_false ?_); conv => whnf)
      | ((with_reducible refine Split.neg ?_))
      | ((with_reducible refine Split.is_true ?_ ?_); decide; conv => whnf)
      | ((with_reducible refine Split.is_false ?_ ?_); decide; conv => whnf)
      | ((with_reducible refine Split.nez (fun _ => ?_) (fun _ => ?_)) <;> conv => whnf)
      | ((with_reducible refine Split.eqz (fun _ => ?_) (fun _ => ?_)) <;> conv => whnf)
      | ((with_reducible refine Split.and ?_))
      | ((with_reducible refine Split.or ?_))
      | ((with_reducible refine Split.streq (fun _ => ?_) (fun _ => ?_)) <;> conv => whnf)
      | ((with_reducible refine Split.dec (fun _ => ?_) (fun _ => ?_)) <;> conv => whnf)
      | ((with_reducible refine Split.mk (fun _ => ?_) (fun _ => ?_)) <;> conv => whnf)
      | ((with_reducible refine NilK.mk (fun _ => ?_) ?_) <;> conv => whnf)
      | ((with_reducible refine AltK.l ?_); (conv => whnf); (with_reducible refine Need.mk ?_ ?_); (first | omega | (refine ⟨?_, ?_⟩ <;> simp <;> omega) | (simp; omega)); conv => whnf)
      | ((with_reducible refine Need.mk ?_ ?_); (first | omega | rfl | decide | (refine ⟨?_, ?_⟩ <;> simp <;> omega) | (simp; omega)); conv => whnf)
      | ((with_reducible refine Wr.quo ?_ ?_ ?_ ?_); omega; omega; omega; conv => whnf)
      | ((with_reducible refine Wr.inr ?_ ?_); (first | omega | (simp; omega)); conv => whnf)
      | ((with_reducible refine Wr.inu ?_ ?_); omega; conv => whnf)
      | (exfalso; first | omega | contradiction))
    exact ⟨⟨[], (by refine ⟨?_, ?_, rfl⟩ <;> (repeat' (first | exact True.intro | exact rfl | refine ⟨?_, ?_⟩ | (intro h; cases h; done) | (intro h; exact h) | exact map_snoc | (refine own_congr ?_; simp; done) | (refine int_congr ?_; (first | omega | (simp; omega))) | (simp; done) | (refine view_congr ?_ ?_ <;> (first | omega | (simp; done) | (simp; omega))))); done)⟩, rfl⟩
/-- Two neighbouring parts change places. -/
theorem xv_rotate (P U Y Q : List Mk) (F N : Nat) (a m b : Int) (hX : 0 < U.length) (hY : 0 < Y.length) (ha : a = P.length) (hm : m = P.length + U.length) (hb : b = P.length + U.length + Y.length) (hN : N = P.length + U.length + Y.length + Q.length) (hN2 : N ≤ 100000) :
    EvX Try.prog 38 [.own 1000 2 N, .d (.int .i64 a), .d (.int .i64 m), .d (.int .i64 b), .d (.fn F [])] [(1000, .row 41 2 ((P ++ U ++ Y ++ Q).map mD) false)] (.tup []) [(1000, .row 41 2 ((P ++ Y ++ U ++ Q).map mD) false)] := by
  generalize hT : (P ++ Y ++ U ++ Q).map mD = T
  refine evx_of_awp tysOk mixed (fn := Try.f38) Try.func38 rfl rfl rfl ?_
  conv => whnf
  repeat' (first
    | ((with_reducible refine Split.of_true ?_); conv => whnf)
    | ((with_reducible refine Split.of_false ?_); conv => whnf)
    | ((with_reducible refine Split.neg ?_))
    | ((with_reducible refine Split.is_true ?_ ?_); decide; conv => whnf)
    | ((with_reducible refine Split.is_false ?_ ?_); decide; conv => whnf)
    | ((with_reducible refine Split.nez (fun _ => ?_) (fun _ => ?_)) <;> conv => whnf)
    | ((with_reducible refine Split.eqz (fun _ => ?_) (fun _ => ?_)) <;> conv => whnf)
    | ((with_reducible refine Split.and ?_))
    | ((with_reducible refine Split.or ?_))
    | ((with_reducible refine Split.streq (fun _ => ?_) (fun _ => ?_)) <;> conv => whnf)
    | ((with_reducible refine Split.dec (fun _ => ?_) (fun _ => ?_)) <;> conv => whnf)
    | ((with_reducible refine Split.mk (fun _ => ?_) (fun _ => ?_)) <;> conv => whnf)
    | ((with_reducible refine NilK.mk (fun _ => ?_) ?_) <;> conv => whnf)
    | ((with_reducible refine AltK.l ?_); (conv => whnf); (with_reducible refine Need.mk ?_ ?_); (first | omega | (refine ⟨?_, ?_⟩ <;> simp <;> omega) | (simp; omega)); conv => whnf)
    | ((with_reducible refine Need.mk ?_ ?_); (first | omega | rfl | decide | (refine ⟨?_, ?_⟩ <;> simp <;> omega) | (simp; omega)); conv => whnf)
    | ((with_reducible refine Wr.quo ?_ ?_ ?_ ?_); omega; omega; omega; conv => whnf)
    | ((with_reducible refine Wr.inr ?_ ?_); (first | omega | (simp; omega)); conv => whnf)
    | ((with_reducible refine Wr.inu ?_ ?_); omega; conv => whnf)
    | (exfalso; first | omega | contradiction))
  refine LoopK.o3 (fun z : List Mk × List Mk × List Mk × List Mk => (z.1 ++ z.2.2.1 ++ z.2.1 ++ z.2.2.2).map mD = T ∧ 0 < z.2.1.length ∧ 0 < z.2.2.1.length ∧ m = z.1.length + z.2.1.length ∧ N = z.1.length + z.2.1.length + z.2.2.1.length + z.2.2.2.length)
    (fun z => [(10, .d (.int .i64 z.2.1.length)), (11, .d (.int .i64 z.2.2.1.length))]) (fun z => [(1000, .row 41 2 ((z.1 ++ z.2.1 ++ z.2.2.1 ++ z.2.2.2).map mD) false)]) (fun z => z.2.1.length + z.2.2.1.length) (P, U, Y, Q) ⟨hT, hX, hY, by dsimp only; omega, by dsimp only; omega⟩ (by refine ⟨?_, ?_, rfl⟩ <;> (repeat' (first | exact True.intro | exact rfl | refine ⟨?_, ?_⟩ | (intro h; cases h; done) | (intro h; exact h) | exact map_snoc | (refine own_congr ?_; simp; done) | (refine int_congr ?_; (first | omega | (simp; omega))) | (simp; done) | (refine view_congr ?_ ?_ <;> (first | omega | (simp; done) | (simp; omega))) | ((first | refine own_congr ?_ | refine int_congr ?_ | skip); simp [D.cells]; done) | ((first | refine own_congr ?_ | refine int_congr ?_); simp [D.cells]; omega) | (show @Eq (List Go.Vm.D) _ []; simp [D.cells]; done) | (simp [D.cells, D.cells]; done))); done) ?_
  clear hT ha hm hb hX hY hN
  rintro ⟨P', U', Y', Q'⟩ ⟨hT, hX, hY, hm, hN⟩
  dsimp only at hT hX hY hm hN ⊢
  by_cases heq : U'.length = Y'.length
  · have w := xv_swap P' U' [] Y' Q' F N (m - (U'.length : Int)) m (U'.length : Int) heq (by omega) (by simp; omega) rfl (by simp; omega) hN2
    rw [List.append_nil, List.append_nil, hT] at w
    conv => whnf
    repeat' (first
      | ((with_reducible refine Split.of_true ?_); conv => whnf)
      | ((with_reducible refine Split.of_false ?_); conv => whnf)
      | ((with_reducible refine Split.neg ?_))
      | ((with_reducible refine Split.is_true ?_ ?_); decide; conv => whnf)
      | ((with_reducible refine Split.is_false ?_ ?_); decide; conv => whnf)
      | ((with_reducible refine Split.nez (fun _ => ?_) (fun _ => ?_)) <;> conv => whnf)
      | ((with_reducible refine Split.eqz (fun _ => ?_) (fun _ => ?_)) <;> conv => whnf)
      | ((with_reducible refine Split.and ?_))
      | ((with_reducible refine Split.or ?_))
      | ((with_reducible refine Split.streq (fun _ => ?_) (fun _ => ?_)) <;> conv => whnf)
      | ((with_reducible refine Split.dec (fun _ => ?_) (fun _ => ?_)) <;> conv => whnf)
      | ((with_reducible refine Split.mk (fun _ => ?_) (fun _ => ?_)) <;> conv => whnf)
      | ((with_reducible refine NilK.mk (fun _ => ?_) ?_) <;> conv => whnf)
      | ((with_reducible refine AltK.l ?_); (conv => whnf); (with_reducible refine Need.mk ?_ ?_); (first | omega | (refine ⟨?_, ?_⟩ <;> simp <;> omega) | (simp; omega)); conv => whnf)
      | ((with_reducible refine Need.mk ?_ ?_); (first | omega | rfl | decide | (refine ⟨?_, ?_⟩ <;> simp <;> omega) | (simp; omega)); conv => whnf)
      | ((with_reducible refine Wr.quo ?_ ?_ ?_ ?_); omega; omega; omega; conv => whnf)
      | ((with_reducible refine Wr.inr ?_ ?_); (first | omega | (simp; omega)); conv => whnf)
      | ((with_reducible refine Wr.inu ?_ ?_); omega; conv => whnf)
      | ((with_reducible refine AltK.r ?_); (conv => whnf); (first | (refine CallX.mk _ _ (w) rfl ?_)); conv => whnf)
      | (exfalso; first | omega | contradiction))
    all_goals first
      | (exfalso; omega)
      | skip
    exact ⟨⟨[], (by refine ⟨?_, ?_, rfl⟩ <;> (repeat' (first | exact True.intro | exact rfl | refine ⟨?_, ?_⟩ | (intro h; cases h; done) | (intro h; exact h) | exact map_snoc | (refine own_congr ?_; simp; done) | (refine int_congr ?_; (first | omega | (simp; omega))) | (simp; done) | (refine view_congr ?_ ?_ <;> (first | omega | (simp; done) | (simp; omega))) | ((first | refine own_congr ?_ | refine int_congr ?_ | skip); simp [D.cells]; done) | ((first | refine own_congr ?_ | refine int_congr ?_); simp [D.cells]; omega) | (show @Eq (List Go.Vm.D) _ []; simp [D.cells]; done) | (simp [D.cells, D.cells]; done))); done)⟩, rfl⟩
  · by_cases hgt : Y'.length < U'.length
    · have e1 : U' = U'.take Y'.length ++ U'.drop Y'.length := (List.take_append_drop _ _).symm
      have l1 : (U'.take Y'.length).length = Y'.length := by rw [List.length_take]; omega
      have l2 : (U'.drop Y'.length).length = U'.length - Y'.length := List.length_drop
      have w := xv_swap P' (U'.take Y'.length) (U'.drop Y'.length) Y' Q' F N (m - (U'.length : Int)) m (Y'.length : Int) l1 (by omega) (by omega) (by omega) (by omega) hN2
      rw [show P' ++ U'.take Y'.length ++ U'.drop Y'.length ++ Y' ++ Q' = P' ++ U' ++ Y' ++ Q' by rw [List.append_assoc P', ← e1]] at w
      conv => whnf
      repeat' (first
        | ((with_reducible refine Split.of_true ?_); conv => whnf)
        | ((with_reducible refine Split.of_false ?_); conv => whnf)
        | ((with_reducible refine Split.neg ?_))
        | ((with_reducible refine Split.is_true ?_ ?_); decide; conv => whnf)
        | ((with_reducible refine Split.is_false ?_ ?_); decide; conv => whnf)
        | ((with_reducible refine Split.nez (fun _ => ?_) (fun _ => ?_)) <;> conv => whnf)
        | ((with_reducible refine Split.eqz (fun _ => ?_) (fun _ => ?_)) <;> conv => whnf)
        | ((with_reducible refine Split.and ?_))
        | ((with_reducible refine Split.or ?_))
        | ((with_reducible refine Split.streq (fun _ => ?_) (fun _ => ?_)) <;> conv => whnf)
        | ((with_reducible refine Split.dec (fun _ => ?_) (fun _ => ?_)) <;> conv => whnf)
        | ((with_reducible refine Split.mk (fun _ => ?_) (fun _ => ?_)) <;> conv => whnf)
        | ((with_reducible refine NilK.mk (fun _ => ?_) ?_) <;> conv => whnf)
        | ((with_reducible refine AltK.l ?_); (conv => whnf); (with_reducible refine Need.mk ?_ ?_); (first | omega | (refine ⟨?_, ?_⟩ <;> simp <;> omega) | (simp; omega)); conv => whnf)
        | ((with_reducible refine Need.mk ?_ ?_); (first | omega | rfl | decide | (refine ⟨?_, ?_⟩ <;> simp <;> omega) | (simp; omega)); conv => whnf)
        | ((with_reducible refine Wr.quo ?_ ?_ ?_ ?_); omega; omega; omega; conv => whnf)
        | ((with_reducible refine Wr.inr ?_ ?_); (first | omega | (simp; omega)); conv => whnf)
        | ((with_reducible refine Wr.inu ?_ ?_); omega; conv => whnf)
        | ((with_reducible refine AltK.r ?_); (conv => whnf); (first | (refine CallX.mk _ _ (w) rfl ?_)); conv => whnf)
        | (exfalso; first | omega | contradiction))
      all_goals first
        | (exfalso; omega)
        | skip
      refine Again.av (P' ++ Y', U'.drop Y'.length, U'.take Y'.length, Q') ⟨?_, by dsimp only; omega, by dsimp only; omega, by rw [List.length_append]; dsimp only; omega, by rw [List.length_append]; dsimp only; omega⟩ (by dsimp only; omega) ?_
      · rw [← hT]
        dsimp only
        rw [List.append_assoc (P' ++ Y'), ← e1]
      · dsimp only
        exact (by refine ⟨?_, ?_, rfl⟩ <;> (repeat' (first | exact True.intro | exact rfl | refine ⟨?_, ?_⟩ | (intro h; cases h; done) | (intro h; exact h) | exact map_snoc | (refine own_congr ?_; simp; done) | (refine int_congr ?_; (first | omega | (simp; omega))) | (simp; done) | (refine view_congr ?_ ?_ <;> (first | omega | (simp; done) | (simp; omega))) | ((first | refine own_congr ?_ | refine int_congr ?_ | skip); simp [l1,l2]; done) | ((first | refine own_congr ?_ | refine int_congr ?_); simp [l1,l2]; omega) | (show @Eq (List Go.Vm.D) _ []; simp [l1,l2]; done) | (simp [D.cells, l1,l2]; done))); done)
    · have e1 : Y' = Y'.take (Y'.length - U'.length) ++ Y'.drop (Y'.length - U'.length) := (List.take_append_drop _ _).symm
      have l1 : (Y'.take (Y'.length - U'.length)).length = Y'.length - U'.length := by rw [List.length_take]; omega
      have l2 : (Y'.drop (Y'.length - U'.length)).length = U'.length := by rw [List.length_drop]; omega
      have w := xv_swap P' U' (Y'.take (Y'.length - U'.length)) (Y'.drop (Y'.length - U'.length)) Q' F N (m - (U'.length : Int)) (m + (Y'.length : Int) - (U'.length : Int)) (U'.length : Int) (by omega) (by omega) (by omega) rfl (by omega) hN2
      rw [show P' ++ U' ++ Y'.take (Y'.length - U'.length) ++ Y'.drop (Y'.length - U'.length) ++ Q' = P' ++ U' ++ Y' ++ Q' by rw [List.append_assoc (P' ++ U'), ← e1]] at w
      conv => whnf
      repeat' (first
        | ((with_reducible refine Split.of_true ?_); conv => whnf)
        | ((with_reducible refine Split.of_false ?_); conv => whnf)
        | ((with_reducible refine Split.neg ?_))
        | ((with_reducible refine Split.is_true ?_ ?_); decide; conv => whnf)
        | ((with_reducible refine Split.is_false ?_ ?_); decide; conv => whnf)
        | ((with_reducible refine Split.nez (fun _ => ?_) (fun _ => ?_)) <;> conv => whnf)
        | ((with_reducible refine Split.eqz (fun _ => ?_) (fun _ => ?_)) <;> conv => whnf)
        | ((with_reducible refine Split.and ?_))
        | ((with_reducible refine Split.or ?_))
        | ((with_reducible refine Split.streq (fun _ => ?_) (fun _ => ?_)) <;> conv => whnf)
        | ((with_reducible refine Split.dec (fun _ => ?_) (fun _ => ?_)) <;> conv => whnf)
        | ((with_reducible refine Split.mk (fun _ => ?_) (fun _ => ?_)) <;> conv => whnf)
        | ((with_reducible refine NilK.mk (fun _ => ?_) ?_) <;> conv => whnf)
        | ((with_reducible refine AltK.l ?_); (conv => whnf); (with_reducible refine Need.mk ?_ ?_); (first | omega | (refine ⟨?_, ?_⟩ <;> simp <;> omega) | (simp; omega)); conv => whnf)
        | ((with_reducible refine Need.mk ?_ ?_); (first | omega | rfl | decide | (refine ⟨?_, ?_⟩ <;> simp <;> omega) | (simp; omega)); conv => whnf)
        | ((with_reducible refine Wr.quo ?_ ?_ ?_ ?_); omega; omega; omega; conv => whnf)
        | ((with_reducible refine Wr.inr ?_ ?_); (first | omega | (simp; omega)); conv => whnf)
        | ((with_reducible refine Wr.inu ?_ ?_); omega; conv => whnf)
        | ((with_reducible refine AltK.r ?_); (conv => whnf); (first | (refine CallX.mk _ _ (w) rfl ?_)); conv => whnf)
        | (exfalso; first | omega | contradiction))
      all_goals first
        | (exfalso; omega)
        | skip
      refine Again.av (P', Y'.drop (Y'.length - U'.length), Y'.take (Y'.length - U'.length), U' ++ Q') ⟨?_, by dsimp only; omega, by dsimp only; omega, by dsimp only; omega, by rw [List.length_append]; dsimp only; omega⟩ (by dsimp only; omega) ?_
      · rw [← hT]
        dsimp only
        rw [List.append_assoc P', ← e1]; simp
      · dsimp only
        exact (by refine ⟨?_, ?_, rfl⟩ <;> (repeat' (first | exact True.intro | exact rfl | refine ⟨?_, ?_⟩ | (intro h; cases h; done) | (intro h; exact h) | exact map_snoc | (refine own_congr ?_; simp; done) | (refine int_congr ?_; (first | omega | (simp; omega))) | (simp; done) | (refine view_congr ?_ ?_ <;> (first | omega | (simp; done) | (simp; omega))) | ((first | refine own_congr ?_ | refine int_congr ?_ | skip); simp [l1,l2]; done) | ((first | refine own_congr ?_ | refine int_congr ?_); simp [l1,l2]; omega) | (show @Eq (List Go.Vm.D) _ []; simp [l1,l2]; done) | (simp [D.cells, l1,l2]; done))); done)
end Go.Proofs.Try
