import Derived.Test.YticnipadahihhaaTvC
namespace Go.Proofs.Try
open Go Go.Vm
set_option maxRecDepth 20000
set_option maxHeartbeats 8000000
/-! slices.Compact at marks, for every list. -/
theorem mk_ext9 {a b : Mk} (h1 : a.m = b.m) (h2 : a.l = b.l) : a = b := by cases a; cases b; simp only at h1 h2; rw [h1, h2]
instance decMk : DecidableEq Mk := fun a b => decidable_of_iff (a.m = b.m ∧ a.l = b.l) ⟨fun h => mk_ext9 h.1 h.2, fun h => by rw [h]; exact ⟨rfl, rfl⟩⟩
def cmpG (p : Mk) : List Mk → List Mk
  | [] => []
  | b :: r => if b = p then cmpG b r else b :: cmpG b r
def cmpL : List Mk → List Mk
  | [] => []
  | a :: r => a :: cmpG a r
theorem cmpG_at {Z : List Mk} {k : Nat} {p x : Mk} (hx : Z[k]? = some x) : cmpG p (Z.drop k) = if x = p then cmpG x (Z.drop (k + 1)) else x :: cmpG x (Z.drop (k + 1)) := by rw [drop_of hx, cmpG]
theorem cmpG_len : ∀ {l : List Mk} {p : Mk}, (cmpG p l).length ≤ l.length
  | [], _ => Nat.le_refl _
  | b :: r, p => by
    rw [cmpG]
    have := cmpG_len (l := r) (p := b)
    split
    · rw [List.length_cons]; omega
    · rw [List.length_cons, List.length_cons]; omega
/-- Where elements are alike: the rest is gone through in place. -/
theorem xv_CompactM (Z : List Mk) (hn : Z.length ≤ 1000) (hd : cmpL Z ≠ Z) :
    EvX Try.prog 15 [.own 1000 2 (Z.map mD).length] [(1000, .row 41 2 (Z.map mD) false)] (.own 9 2 ((cmpL Z).map mD).length) [(1000, .gone), (9, .row 41 2 ((cmpL Z).map mD) false)] := by
  have hlen : (Z.map mD).length = Z.length := List.length_map _
  have h2 : 2 ≤ Z.length := by
    match Z, hd with
    | [], h => exact absurd rfl h
    | [a], h => exact absurd rfl h
    | _ :: _ :: _, _ => simp
  have h0 : ∀ p, Z[0]? = some p → cmpL Z = Z.take 1 ++ cmpG p (Z.drop 1) := fun p hp => by
    match Z, hp with
    | a :: r, hp => cases hp; rfl
  obtain ⟨p0, hp0⟩ := some_of_lt (show 0 < Z.length by omega)
  generalize cmpL Z = T at *
  refine evx_of_awp tysOk mixed (fn := Try.f15) Try.func15 rfl rfl rfl ?_
  conv => whnf
  repeat' (first
    | ((with_reducible refine Split.of_true ?_); conv => whnf)
    | ((with_reducible refine Split.of_false ?_); conv => whnf)
    | ((with_reducible refine Split.neg ?_))
    | ((with_reducible refine Split.is_true ?_ ?_); decide; conv => whnf)
    | ((with_reducible refine Split.is_false ?_ ?_); decide; conv => whnf)
    | ((with_reducible refine Split.nez (fun _ => ?_) (fun _ => ?_)) <;> conv => whnf)
    | ((with_reducible refine Split.eqz (fun _ => ?_) (fun _ => ?_)) <;> conv => whnf)
    | ((with_reducible refine Split.and ?_))
    | ((with_reducible refine Split.or ?_))
    | ((with_reducible refine Split.streq (fun _ => ?_) (fun _ => ?_)) <;> conv => whnf)
    | ((with_reducible refine Split.dec (fun _ => ?_) (fun _ => ?_)) <;> conv => whnf)
    | ((with_reducible refine Split.mk (fun _ => ?_) (fun _ => ?_)) <;> conv => whnf)
    | ((with_reducible refine NilK.mk (fun _ => ?_) ?_) <;> conv => whnf)
    | ((with_reducible refine AltK.l ?_); (conv => whnf); (with_reducible refine Need.mk ?_ ?_); (first | omega | (refine ⟨?_, ?_⟩ <;> simp <;> omega) | (simp; omega)); conv => whnf)
    | ((with_reducible refine Need.mk ?_ ?_); (first | omega | rfl | decide | (refine ⟨?_, ?_⟩ <;> simp <;> omega) | (simp; omega)); conv => whnf)
    | ((with_reducible refine Wr.quo ?_ ?_ ?_ ?_); omega; omega; omega; conv => whnf)
    | ((with_reducible refine Wr.inr ?_ ?_); (first | omega | (simp; omega)); conv => whnf)
    | ((with_reducible refine Wr.inu ?_ ?_); omega; conv => whnf)
    | (exfalso; first | omega | contradiction))
  all_goals first
    | (exfalso; omega)
    | skip
  refine LoopK.o3 (fun k : Nat => 1 ≤ k ∧ k ≤ Z.length ∧ ∀ p, Z[k - 1]? = some p → T = Z.take k ++ cmpG p (Z.drop k)) (fun k => [(3, .d (.int .i64 k))]) (fun _ => []) (fun k => Z.length - k) 1 ⟨Nat.le_refl _, by omega, h0⟩ (by refine ⟨?_, ?_, rfl⟩ <;> (repeat' (first | exact True.intro | exact rfl | refine ⟨?_, ?_⟩ | (intro h; cases h; done) | (intro h; exact h) | exact map_snoc | (refine own_congr ?_; simp; done) | (refine int_congr ?_; (first | omega | (simp; omega))) | (simp; done) | (refine view_congr ?_ ?_ <;> (first | omega | (simp; done) | (simp; omega))) | ((first | refine own_congr ?_ | refine int_congr ?_ | skip); simp [D.cells]; done) | ((first | refine own_congr ?_ | refine int_congr ?_); simp [D.cells]; omega) | (show @Eq (List Go.Vm.D) _ []; simp [D.cells]; done) | (simp [D.cells, D.cells]; done))); done) ?_
  rintro k ⟨hk1, hk, hT⟩
  obtain ⟨p, hp⟩ := some_of_lt (show k - 1 < Z.length by omega)
  have hT := hT p hp
  by_cases hkl : k < Z.length
  · obtain ⟨x, hx⟩ := some_of_lt hkl
    rw [cmpG_at hx] at hT
    by_cases he : x = p
    · rw [if_pos he] at hT
      subst he
      conv => whnf
      repeat' (first
        | ((refine PickE.map (k - 1) hp (by omega) ?_); conv => whnf)
        | ((refine PickE.map k hx (by omega) ?_); conv => whnf)
        | ((with_reducible refine Split.of_true ?_); conv => whnf)
        | ((with_reducible refine Split.of_false ?_); conv => whnf)
        | ((with_reducible refine Split.neg ?_))
        | ((with_reducible refine Split.is_true ?_ ?_); decide; conv => whnf)
        | ((with_reducible refine Split.is_false ?_ ?_); decide; conv => whnf)
        | ((with_reducible refine Split.nez (fun _ => ?_) (fun _ => ?_)) <;> conv => whnf)
        | ((with_reducible refine Split.eqz (fun _ => ?_) (fun _ => ?_)) <;> conv => whnf)
        | ((with_reducible refine Split.and ?_))
        | ((with_reducible refine Split.or ?_))
        | ((with_reducible refine Split.streq (fun _ => ?_) (fun _ => ?_)) <;> conv => whnf)
        | ((with_reducible refine Split.dec (fun _ => ?_) (fun _ => ?_)) <;> conv => whnf)
        | ((with_reducible refine Split.mk (fun _ => ?_) (fun _ => ?_)) <;> conv => whnf)
        | ((with_reducible refine NilK.mk (fun _ => ?_) ?_) <;> conv => whnf)
        | ((with_reducible refine Need.mk ?_ ?_); (first | omega | rfl | decide | (refine ⟨?_, ?_⟩ <;> simp <;> omega) | (simp; omega)); conv => whnf)
        | ((with_reducible refine Wr.quo ?_ ?_ ?_ ?_); omega; omega; omega; conv => whnf)
        | ((with_reducible refine Wr.inr ?_ ?_); (first | omega | (simp; omega)); conv => whnf)
        | ((with_reducible refine Wr.inu ?_ ?_); omega; conv => whnf)
        | (exfalso; first | omega | contradiction))
      all_goals first
        | contradiction
        | (exfalso; omega)
        | skip
      refine AltK.r (AltK.l ?_)
      conv => whnf
      conv => whnf
      repeat' (first
        | ((with_reducible refine Split.of_true ?_); conv => whnf)
        | ((with_reducible refine Split.of_false ?_); conv => whnf)
        | ((with_reducible refine Split.neg ?_))
        | ((with_reducible refine Split.is_true ?_ ?_); decide; conv => whnf)
        | ((with_reducible refine Split.is_false ?_ ?_); decide; conv => whnf)
        | ((with_reducible refine Split.nez (fun _ => ?_) (fun _ => ?_)) <;> conv => whnf)
        | ((with_reducible refine Split.eqz (fun _ => ?_) (fun _ => ?_)) <;> conv => whnf)
        | ((with_reducible refine Split.and ?_))
        | ((with_reducible refine Split.or ?_))
        | ((with_reducible refine Split.streq (fun _ => ?_) (fun _ => ?_)) <;> conv => whnf)
        | ((with_reducible refine Split.dec (fun _ => ?_) (fun _ => ?_)) <;> conv => whnf)
        | ((with_reducible refine Split.mk (fun _ => ?_) (fun _ => ?_)) <;> conv => whnf)
        | ((with_reducible refine NilK.mk (fun _ => ?_) ?_) <;> conv => whnf)
        | ((with_reducible refine Need.mk ?_ ?_); (first | omega | rfl | decide | (refine ⟨?_, ?_⟩ <;> simp <;> omega) | (simp; omega)); conv => whnf)
        | ((with_reducible refine Wr.quo ?_ ?_ ?_ ?_); omega; omega; omega; conv => whnf)
        | ((with_reducible refine Wr.inr ?_ ?_); (first | omega | (simp; omega)); conv => whnf)
        | ((with_reducible refine Wr.inu ?_ ?_); omega; conv => whnf)
        | (exfalso; first | omega | contradiction))
      refine LoopK.o3 (fun z : Nat × Nat × List Mk => 1 ≤ z.1 ∧ k + z.1 ≤ Z.length ∧ z.2.1 < k + z.1 ∧ z.2.2.length = Z.length ∧ z.2.2.drop (k + z.1 - 1) = Z.drop (k + z.1 - 1) ∧ ∀ p, Z[k + z.1 - 1]? = some p → T = z.2.2.take z.2.1 ++ cmpG p (Z.drop (k + z.1)))
        (fun z => [(5, .d (.int .i64 z.1)), (3, .d (.int .i64 z.2.1))]) (fun z => [(1000, .row 41 2 (z.2.2.map mD) false)]) (fun z => Z.length - z.1) (1, k, Z) ⟨Nat.le_refl _, by dsimp only; omega, by dsimp only; omega, rfl, rfl, fun p hp' => by
          rw [show k + 1 - 1 = k by omega, hx] at hp'
          cases hp'; exact hT⟩ (by refine ⟨?_, ?_, rfl⟩ <;> (repeat' (first | exact True.intro | exact rfl | refine ⟨?_, ?_⟩ | (intro h; cases h; done) | (intro h; exact h) | exact map_snoc | (refine own_congr ?_; simp; done) | (refine int_congr ?_; (first | omega | (simp; omega))) | (simp; done) | (refine view_congr ?_ ?_ <;> (first | omega | (simp; done) | (simp; omega))) | ((first | refine own_congr ?_ | refine int_congr ?_ | skip); simp [D.cells]; done) | ((first | refine own_congr ?_ | refine int_congr ?_); simp [D.cells]; omega) | (show @Eq (List Go.Vm.D) _ []; simp [D.cells]; done) | (simp [D.cells, D.cells]; done))); done) ?_
      rintro ⟨j, c, R⟩ ⟨j1, j2, j3, j4, j5, j6⟩
      dsimp only at j1 j2 j3 j4 j5 j6 ⊢
      have hRl : (R.map mD).length = R.length := List.length_map _
      obtain ⟨q, hq⟩ := some_of_lt (show k + j - 1 < Z.length by omega)
      have hT := j6 q hq
      have hRq : R[k + j - 1]? = some q := by
        have := congrArg (fun l => l[0]?) j5
        simpa [List.getElem?_drop, hq] using this
      by_cases hjl : k + j < Z.length
      · obtain ⟨y, hy⟩ := some_of_lt hjl
        have hRy : R[k + j]? = some y := by
          have := congrArg (fun l => l[1]?) j5
          simp only [List.getElem?_drop] at this
          rw [show k + j - 1 + 1 = k + j by omega] at this
          rw [this]; exact hy
        rw [cmpG_at hy] at hT
        have j5' : R.drop (k + j) = Z.drop (k + j) := by
          have := congrArg (fun l => l.drop 1) j5
          simpa [List.drop_drop, show k + j - 1 + 1 = k + j by omega] using this
        by_cases hyq : y = q
        · rw [if_pos hyq] at hT
          subst hyq
          conv => whnf
          repeat' (first
            | ((refine PickE.map (k + j - 1) hRq (by omega) ?_); conv => whnf)
            | ((refine PickE.map (k + j) hRy (by omega) ?_); conv => whnf)
            | ((with_reducible refine Split.of_true ?_); conv => whnf)
            | ((with_reducible refine Split.of_false ?_); conv => whnf)
            | ((with_reducible refine Split.neg ?_))
            | ((with_reducible refine Split.is_true ?_ ?_); decide; conv => whnf)
            | ((with_reducible refine Split.is_false ?_ ?_); decide; conv => whnf)
            | ((with_reducible refine Split.nez (fun _ => ?_) (fun _ => ?_)) <;> conv => whnf)
            | ((with_reducible refine Split.eqz (fun _ => ?_) (fun _ => ?_)) <;> conv => whnf)
            | ((with_reducible refine Split.and ?_))
            | ((with_reducible refine Split.or ?_))
            | ((with_reducible refine Split.streq (fun _ => ?_) (fun _ => ?_)) <;> conv => whnf)
            | ((with_reducible refine Split.dec (fun _ => ?_) (fun _ => ?_)) <;> conv => whnf)
            | ((with_reducible refine Split.mk (fun _ => ?_) (fun _ => ?_)) <;> conv => whnf)
            | ((with_reducible refine NilK.mk (fun _ => ?_) ?_) <;> conv => whnf)
            | ((with_reducible refine AltK.l ?_); (conv => whnf); (with_reducible refine Need.mk ?_ ?_); (first | omega | (refine ⟨?_, ?_⟩ <;> simp <;> omega) | (simp; omega)); conv => whnf)
            | ((with_reducible refine Need.mk ?_ ?_); (first | omega | rfl | decide | (refine ⟨?_, ?_⟩ <;> simp <;> omega) | (simp; omega)); conv => whnf)
            | ((with_reducible refine Wr.quo ?_ ?_ ?_ ?_); omega; omega; omega; conv => whnf)
            | ((with_reducible refine Wr.inr ?_ ?_); (first | omega | (simp; omega)); conv => whnf)
            | ((with_reducible refine Wr.inu ?_ ?_); omega; conv => whnf)
            | (exfalso; first | omega | contradiction))
          all_goals first
            | contradiction
            | (exfalso; omega)
            | skip
          all_goals exact Again.av (j + 1, c, R) ⟨by dsimp only; omega, by dsimp only; omega, by dsimp only; omega, j4, j5', fun p hp' => by
            rw [show k + (j + 1) - 1 = k + j by omega, hy] at hp'
            cases hp'; exact hT⟩ (by dsimp only; omega) (by refine ⟨?_, ?_, rfl⟩ <;> (repeat' (first | exact True.intro | exact rfl | refine ⟨?_, ?_⟩ | (intro h; cases h; done) | (intro h; exact h) | exact map_snoc | (refine own_congr ?_; simp; done) | (refine int_congr ?_; (first | omega | (simp; omega))) | (simp; done) | (refine view_congr ?_ ?_ <;> (first | omega | (simp; done) | (simp; omega))) | ((first | refine own_congr ?_ | refine int_congr ?_ | skip); simp [D.cells]; done) | ((first | refine own_congr ?_ | refine int_congr ?_); simp [D.cells]; omega) | (show @Eq (List Go.Vm.D) _ []; simp [D.cells]; done) | (simp [D.cells, D.cells]; done))); done)
        · rw [if_neg hyq] at hT
          obtain ⟨rc, hrc⟩ := some_of_lt (show c < R.length by omega)
          have hmp1 : (R.map mD).set (c : Int).toNat (mD y) = (R.set c y).map mD := by rw [Int.toNat_natCast, List.map_set]
          conv => whnf
          repeat' (first
            | ((refine PickE.map c hrc (by omega) ?_); conv => whnf)
            | ((refine PickE.map (k + j - 1) hRq (by omega) ?_); conv => whnf)
            | ((refine PickE.map (k + j) hRy (by omega) ?_); conv => whnf)
            | ((with_reducible refine Split.of_true ?_); conv => whnf)
            | ((with_reducible refine Split.of_false ?_); conv => whnf)
            | ((with_reducible refine Split.neg ?_))
            | ((with_reducible refine Split.is_true ?_ ?_); decide; conv => whnf)
            | ((with_reducible refine Split.is_false ?_ ?_); decide; conv => whnf)
            | ((with_reducible refine Split.nez (fun _ => ?_) (fun _ => ?_)) <;> conv => whnf)
            | ((with_reducible refine Split.eqz (fun _ => ?_) (fun _ => ?_)) <;> conv => whnf)
            | ((with_reducible refine Split.and ?_))
            | ((with_reducible refine Split.or ?_))
            | ((with_reducible refine Split.streq (fun _ => ?_) (fun _ => ?_)) <;> conv => whnf)
            | ((with_reducible refine Split.dec (fun _ => ?_) (fun _ => ?_)) <;> conv => whnf)
            | ((with_reducible refine Split.mk (fun _ => ?_) (fun _ => ?_)) <;> conv => whnf)
            | ((with_reducible refine NilK.mk (fun _ => ?_) ?_) <;> conv => whnf)
            | ((with_reducible refine AltK.l ?_); (conv => whnf); (with_reducible refine Need.mk ?_ ?_); (first | omega | (refine ⟨?_, ?_⟩ <;> simp <;> omega) | (simp; omega)); conv => whnf)
            | ((with_reducible refine Need.mk ?_ ?_); (first | omega | rfl | decide | (refine ⟨?_, ?_⟩ <;> simp <;> omega) | (simp; omega)); conv => whnf)
            | ((with_reducible refine Wr.quo ?_ ?_ ?_ ?_); omega; omega; omega; conv => whnf)
            | ((with_reducible refine Wr.inr ?_ ?_); (first | omega | (simp; omega)); conv => whnf)
            | ((with_reducible refine Wr.inu ?_ ?_); omega; conv => whnf)
            | (exfalso; first | omega | contradiction))
          all_goals first
            | (exfalso; exact hyq (mk_ext9 (by assumption) (by assumption)))
            | (exfalso; omega)
            | skip
          all_goals refine Again.av (j + 1, c + 1, R.set c y) ⟨by dsimp only; omega, by dsimp only; omega, by dsimp only; omega, by dsimp only; rw [List.length_set]; exact j4, ?_, fun p hp' => ?_⟩ (by dsimp only; omega) (by refine ⟨?_, ?_, rfl⟩ <;> (repeat' (first | exact True.intro | exact rfl | refine ⟨?_, ?_⟩ | (intro h; cases h; done) | (intro h; exact h) | exact map_snoc | (refine own_congr ?_; simp; done) | (refine int_congr ?_; (first | omega | (simp; omega))) | (simp; done) | (refine view_congr ?_ ?_ <;> (first | omega | (simp; done) | (simp; omega))) | exact hmp1 | ((first | refine own_congr ?_ | refine int_congr ?_ | skip); simp [D.cells]; done) | ((first | refine own_congr ?_ | refine int_congr ?_); simp [D.cells]; omega) | (show @Eq (List Go.Vm.D) _ []; simp [D.cells]; done) | (simp [D.cells, D.cells]; done))); done)
          all_goals first
            | (dsimp only; rw [show k + (j + 1) - 1 = k + j by omega, List.drop_set_of_lt (by omega)]; exact j5')
            | (rw [show k + (j + 1) - 1 = k + j by omega, hy] at hp'
               cases hp'
               dsimp only
               rw [hT, take_snoc (m := y) (by rw [List.getElem?_set_self (by omega)]), List.take_set_of_le (Nat.le_refl _), show k + (j + 1) = k + j + 1 by omega]; simp)
      · have hje : Z.length = k + j := by omega
        rw [List.drop_eq_nil_of_le (by omega), cmpG, List.append_nil] at hT
        have hTl : T.length = c := by rw [hT, List.length_take]; omega
        have hmpG : ∀ W V : List D, (((R.map mD).take (c : Int).toNat ++ W) ++ V).take (c : Int).toNat = T.map mD := fun W V => by
          rw [Int.toNat_natCast, List.append_assoc, List.take_append_of_le_length (by rw [List.length_take]; omega), List.take_take, Nat.min_self, hT, List.map_take]
        conv => whnf
        repeat' (first
          | ((with_reducible refine Split.of_true ?_); conv => whnf)
          | ((with_reducible refine Split.of_false ?_); conv => whnf)
          | ((with_reducible refine Split.neg ?_))
          | ((with_reducible refine Split.is_true ?_ ?_); decide; conv => whnf)
          | ((with_reducible refine Split.is_false ?_ ?_); decide; conv => whnf)
          | ((with_reducible refine Split.nez (fun _ => ?_) (fun _ => ?_)) <;> conv => whnf)
          | ((with_reducible refine Split.eqz (fun _ => ?_) (fun _ => ?_)) <;> conv => whnf)
          | ((with_reducible refine Split.and ?_))
          | ((with_reducible refine Split.or ?_))
          | ((with_reducible refine Split.streq (fun _ => ?_) (fun _ => ?_)) <;> conv => whnf)
          | ((with_reducible refine Split.dec (fun _ => ?_) (fun _ => ?_)) <;> conv => whnf)
          | ((with_reducible refine Split.mk (fun _ => ?_) (fun _ => ?_)) <;> conv => whnf)
          | ((with_reducible refine NilK.mk (fun _ => ?_) ?_) <;> conv => whnf)
          | ((with_reducible refine Need.mk ?_ ?_); (first | omega | rfl | decide | (refine ⟨?_, ?_⟩ <;> simp <;> omega) | (simp; omega)); conv => whnf)
          | ((with_reducible refine Wr.quo ?_ ?_ ?_ ?_); omega; omega; omega; conv => whnf)
          | ((with_reducible refine Wr.inr ?_ ?_); (first | omega | (simp; omega)); conv => whnf)
          | ((with_reducible refine Wr.inu ?_ ?_); omega; conv => whnf)
          | (exfalso; first | omega | contradiction))
        refine AltK.r (AltK.l ?_)
        conv => whnf
        conv => whnf
        repeat' (first
          | ((with_reducible refine Split.of_true ?_); conv => whnf)
          | ((with_reducible refine Split.of_false ?_); conv => whnf)
          | ((with_reducible refine Split.neg ?_))
          | ((with_reducible refine Split.is_true ?_ ?_); decide; conv => whnf)
          | ((with_reducible refine Split.is_false ?_ ?_); decide; conv => whnf)
          | ((with_reducible refine Split.nez (fun _ => ?_) (fun _ => ?_)) <;> conv => whnf)
          | ((with_reducible refine Split.eqz (fun _ => ?_) (fun _ => ?_)) <;> conv => whnf)
          | ((with_reducible refine Split.and ?_))
          | ((with_reducible refine Split.or ?_))
          | ((with_reducible refine Split.streq (fun _ => ?_) (fun _ => ?_)) <;> conv => whnf)
          | ((with_reducible refine Split.dec (fun _ => ?_) (fun _ => ?_)) <;> conv => whnf)
          | ((with_reducible refine Split.mk (fun _ => ?_) (fun _ => ?_)) <;> conv => whnf)
          | ((with_reducible refine NilK.mk (fun _ => ?_) ?_) <;> conv => whnf)
          | ((with_reducible refine Need.mk ?_ ?_); (first | omega | rfl | decide | (refine ⟨?_, ?_⟩ <;> simp <;> omega) | (simp; omega)); conv => whnf)
          | ((with_reducible refine Wr.quo ?_ ?_ ?_ ?_); omega; omega; omega; conv => whnf)
          | ((with_reducible refine Wr.inr ?_ ?_); (first | omega | (simp; omega)); conv => whnf)
          | ((with_reducible refine Wr.inu ?_ ?_); omega; conv => whnf)
          | (exfalso; first | omega | contradiction))
        refine AltK.r (AltK.r ?_)
        conv => whnf
        conv => whnf
        repeat' (first
          | ((with_reducible refine Split.of_true ?_); conv => whnf)
          | ((with_reducible refine Split.of_false ?_); conv => whnf)
          | ((with_reducible refine Split.neg ?_))
          | ((with_reducible refine Split.is_true ?_ ?_); decide; conv => whnf)
          | ((with_reducible refine Split.is_false ?_ ?_); decide; conv => whnf)
          | ((with_reducible refine Split.nez (fun _ => ?_) (fun _ => ?_)) <;> conv => whnf)
          | ((with_reducible refine Split.eqz (fun _ => ?_) (fun _ => ?_)) <;> conv => whnf)
          | ((with_reducible refine Split.and ?_))
          | ((with_reducible refine Split.or ?_))
          | ((with_reducible refine Split.streq (fun _ => ?_) (fun _ => ?_)) <;> conv => whnf)
          | ((with_reducible refine Split.dec (fun _ => ?_) (fun _ => ?_)) <;> conv => whnf)
          | ((with_reducible refine Split.mk (fun _ => ?_) (fun _ => ?_)) <;> conv => whnf)
          | ((with_reducible refine NilK.mk (fun _ => ?_) ?_) <;> conv => whnf)
          | ((with_reducible refine Need.mk ?_ ?_); (first | omega | rfl | decide | (refine ⟨?_, ?_⟩ <;> simp <;> omega) | (simp; omega)); conv => whnf)
          | ((with_reducible refine Wr.quo ?_ ?_ ?_ ?_); omega; omega; omega; conv => whnf)
          | ((with_reducible refine Wr.inr ?_ ?_); (first | omega | (simp; omega)); conv => whnf)
          | ((with_reducible refine Wr.inu ?_ ?_); omega; conv => whnf)
          | (exfalso; first | omega | contradiction))
        exact ⟨⟨[(9, some 59)], (by refine ⟨?_, ?_, rfl⟩ <;> (repeat' (first | exact True.intro | exact rfl | refine ⟨?_, ?_⟩ | (intro h; cases h; done) | (intro h; exact h) | exact map_snoc | (refine own_congr ?_; simp; done) | (refine int_congr ?_; (first | omega | (simp; omega))) | (simp; done) | (refine view_congr ?_ ?_ <;> (first | omega | (simp; done) | (simp; omega))) | exact hmpG _ _ | ((first | refine own_congr ?_ | refine int_congr ?_ | skip); simp [hTl]; done) | ((first | refine own_congr ?_ | refine int_congr ?_); simp [hTl]; omega) | (show @Eq (List Go.Vm.D) _ []; simp [hTl]; done) | (simp [D.cells, hTl]; done))); done)⟩, rfl⟩
    · rw [if_neg he] at hT
      conv => whnf
      repeat' (first
        | ((refine PickE.map (k - 1) hp (by omega) ?_); conv => whnf)
        | ((refine PickE.map k hx (by omega) ?_); conv => whnf)
        | ((with_reducible refine Split.of_true ?_); conv => whnf)
        | ((with_reducible refine Split.of_false ?_); conv => whnf)
        | ((with_reducible refine Split.neg ?_))
        | ((with_reducible refine Split.is_true ?_ ?_); decide; conv => whnf)
        | ((with_reducible refine Split.is_false ?_ ?_); decide; conv => whnf)
        | ((with_reducible refine Split.nez (fun _ => ?_) (fun _ => ?_)) <;> conv => whnf)
        | ((with_reducible refine Split.eqz (fun _ => ?_) (fun _ => ?_)) <;> conv => whnf)
        | ((with_reducible refine Split.and ?_))
        | ((with_reducible refine Split.or ?_))
        | ((with_reducible refine Split.streq (fun _ => ?_) (fun _ => ?_)) <;> conv => whnf)
        | ((with_reducible refine Split.dec (fun _ => ?_) (fun _ => ?_)) <;> conv => whnf)
        | ((with_reducible refine Split.mk (fun _ => ?_) (fun _ => ?_)) <;> conv => whnf)
        | ((with_reducible refine NilK.mk (fun _ => ?_) ?_) <;> conv => whnf)
        | ((with_reducible refine Need.mk ?_ ?_); (first | omega | rfl | decide | (refine ⟨?_, ?_⟩ <;> simp <;> omega) | (simp; omega)); conv => whnf)
        | ((with_reducible refine Wr.quo ?_ ?_ ?_ ?_); omega; omega; omega; conv => whnf)
        | ((with_reducible refine Wr.inr ?_ ?_); (first | omega | (simp; omega)); conv => whnf)
        | ((with_reducible refine Wr.inu ?_ ?_); omega; conv => whnf)
        | (exfalso; first | omega | contradiction))
      all_goals first
        | (exfalso; exact he (mk_ext9 (by assumption) (by assumption)))
        | (exfalso; omega)
        | skip
      all_goals exact Again.av (k + 1) ⟨by omega, by omega, fun p' hp' => by
        rw [show k + 1 - 1 = k by omega, hx] at hp'
        cases hp'
        rw [hT, take_snoc hx]; simp⟩ (by omega) (by refine ⟨?_, ?_, rfl⟩ <;> (repeat' (first | exact True.intro | exact rfl | refine ⟨?_, ?_⟩ | (intro h; cases h; done) | (intro h; exact h) | exact map_snoc | (refine own_congr ?_; simp; done) | (refine int_congr ?_; (first | omega | (simp; omega))) | (simp; done) | (refine view_congr ?_ ?_ <;> (first | omega | (simp; done) | (simp; omega))) | ((first | refine own_congr ?_ | refine int_congr ?_ | skip); simp [D.cells]; done) | ((first | refine own_congr ?_ | refine int_congr ?_); simp [D.cells]; omega) | (show @Eq (List Go.Vm.D) _ []; simp [D.cells]; done) | (simp [D.cells, D.cells]; done))); done)
  · rw [List.drop_eq_nil_of_le (by omega), cmpG, List.append_nil, List.take_of_length_le (by omega)] at hT
    exact absurd hT hd
/-- Where no two neighbours are alike all stays. -/
theorem xv_CompactS (Z : List Mk) (hn : Z.length ≤ 1000) (hd : cmpL Z = Z) :
    EvX Try.prog 15 [.own 1000 2 (Z.map mD).length] [(1000, .row 41 2 (Z.map mD) false)] (.own 1000 2 (Z.map mD).length) [(1000, .row 41 2 (Z.map mD) false)] := by
  have hlen : (Z.map mD).length = Z.length := List.length_map _
  have hne : ∀ (k : Nat) x p, 1 ≤ k → Z[k]? = some x → Z[k - 1]? = some p → x ≠ p := by
    have key : ∀ (l : List Mk) (q : Mk), cmpG q l = l → ∀ (k : Nat) x p, l[k]? = some x → (q :: l)[k]? = some p → x ≠ p := by
      intro l
      induction l with
      | nil => intro q _ k x p hx; cases hx
      | cons b r ih =>
        intro q h k x p hx hp
        rw [cmpG] at h
        split at h
        · have := cmpG_len (l := r) (p := b)
          rw [h, List.length_cons] at this; omega
        · rename_i hb
          cases k with
          | zero => cases hx; cases hp; exact hb
          | succ k => exact ih b (List.cons.inj h).2 k x p (by simpa using hx) (by simpa using hp)
    intro k x p hk hx hp
    match Z, hd with
    | a :: r, hd =>
      obtain ⟨j, rfl⟩ : ∃ j, k = j + 1 := ⟨k - 1, by omega⟩
      exact key r a (List.cons.inj hd).2 j x p (by simpa using hx) (by simpa using hp)
  clear hd
  refine evx_of_awp tysOk mixed (fn := Try.f15) Try.func15 rfl rfl rfl ?_
  conv => whnf
  repeat' (first
    | ((with_reducible refine Split.of_true ?_); conv => whnf)
    | ((with_reducible refine Split.of_false ?_); conv => whnf)
    | ((with_reducible refine Split.neg ?_))
    | ((with_reducible refine Split.is_true ?_ ?_); decide; conv => whnf)
    | ((with_reducible refine Split.is_false ?_ ?_); decide; conv => whnf)
    | ((with_reducible refine Split.nez (fun _ => ?_) (fun _ => ?_)) <;> conv => whnf)
    | ((with_reducible refine Split.eqz (fun _ => ?_) (fun _ => ?_)) <;> conv => whnf)
    | ((with_reducible refine Split.and ?_))
    | ((with_reducible refine Split.or ?_))
    | ((with_reducible refine Split.streq (fun _ => ?_) (fun _ => ?_)) <;> conv => whnf)
    | ((with_reducible refine Split.dec (fun _ => ?_) (fun _ => ?_)) <;> conv => whnf)
    | ((with_reducible refine Split.mk (fun _ => ?_) (fun _ => ?_)) <;> conv => whnf)
    | ((with_reducible refine NilK.mk (fun _ => ?_) ?_) <;> conv => whnf)
    | ((with_reducible refine AltK.l ?_); (conv => whnf); (with_reducible refine Need.mk ?_ ?_); (first | omega | (refine ⟨?_, ?_⟩ <;> simp <;> omega) | (simp; omega)); conv => whnf)
    | ((with_reducible refine Need.mk ?_ ?_); (first | omega | rfl | decide | (refine ⟨?_, ?_⟩ <;> simp <;> omega) | (simp; omega)); conv => whnf)
    | ((with_reducible refine Wr.quo ?_ ?_ ?_ ?_); omega; omega; omega; conv => whnf)
    | ((with_reducible refine Wr.inr ?_ ?_); (first | omega | (simp; omega)); conv => whnf)
    | ((with_reducible refine Wr.inu ?_ ?_); omega; conv => whnf)
    | (exfalso; first | omega | contradiction))
  · exact ⟨⟨[], (by refine ⟨?_, ?_, rfl⟩ <;> (repeat' (first | exact True.intro | exact rfl | refine ⟨?_, ?_⟩ | (intro h; cases h; done) | (intro h; exact h) | exact map_snoc | (refine own_congr ?_; simp; done) | (refine int_congr ?_; (first | omega | (simp; omega))) | (simp; done) | (refine view_congr ?_ ?_ <;> (first | omega | (simp; done) | (simp; omega))))); done)⟩, rfl⟩
  refine LoopK.o3 (fun k : Nat => 1 ≤ k ∧ k ≤ Z.length) (fun k => [(3, .d (.int .i64 k))]) (fun _ => []) (fun k => Z.length - k) 1 ⟨Nat.le_refl _, by omega⟩ (by refine ⟨?_, ?_, rfl⟩ <;> (repeat' (first | exact True.intro | exact rfl | refine ⟨?_, ?_⟩ | (intro h; cases h; done) | (intro h; exact h) | exact map_snoc | (refine own_congr ?_; simp; done) | (refine int_congr ?_; (first | omega | (simp; omega))) | (simp; done) | (refine view_congr ?_ ?_ <;> (first | omega | (simp; done) | (simp; omega))) | ((first | refine own_congr ?_ | refine int_congr ?_ | skip); simp [D.cells]; done) | ((first | refine own_congr ?_ | refine int_congr ?_); simp [D.cells]; omega) | (show @Eq (List Go.Vm.D) _ []; simp [D.cells]; done) | (simp [D.cells, D.cells]; done))); done) ?_
  rintro k ⟨hk1, hk⟩
  by_cases hkl : k < Z.length
  · obtain ⟨x, hx⟩ := some_of_lt hkl
    obtain ⟨p, hp⟩ := some_of_lt (show k - 1 < Z.length by omega)
    have hxp := hne k x p hk1 hx hp
    conv => whnf
    repeat' (first
      | ((refine PickE.map (k - 1) hp (by omega) ?_); conv => whnf)
      | ((refine PickE.map k hx (by omega) ?_); conv => whnf)
      | ((with_reducible refine Split.of_true ?_); conv => whnf)
      | ((with_reducible refine Split.of_false ?_); conv => whnf)
      | ((with_reducible refine Split.neg ?_))
      | ((with_reducible refine Split.is_true ?_ ?_); decide; conv => whnf)
      | ((with_reducible refine Split.is_false ?_ ?_); decide; conv => whnf)
      | ((with_reducible refine Split.nez (fun _ => ?_) (fun _ => ?_)) <;> conv => whnf)
      | ((with_reducible refine Split.eqz (fun _ => ?_) (fun _ => ?_)) <;> conv => whnf)
      | ((with_reducible refine Split.and ?_))
      | ((with_reducible refine Split.or ?_))
      | ((with_reducible refine Split.streq (fun _ => ?_) (fun _ => ?_)) <;> conv => whnf)
      | ((with_reducible refine Split.dec (fun _ => ?_) (fun _ => ?_)) <;> conv => whnf)
      | ((with_reducible refine Split.mk (fun _ => ?_) (fun _ => ?_)) <;> conv => whnf)
      | ((with_reducible refine NilK.mk (fun _ => ?_) ?_) <;> conv => whnf)
      | ((with_reducible refine Need.mk ?_ ?_); (first | omega | rfl | decide | (refine ⟨?_, ?_⟩ <;> simp <;> omega) | (simp; omega)); conv => whnf)
      | ((with_reducible refine Wr.quo ?_ ?_ ?_ ?_); omega; omega; omega; conv => whnf)
      | ((with_reducible refine Wr.inr ?_ ?_); (first | omega | (simp; omega)); conv => whnf)
      | ((with_reducible refine Wr.inu ?_ ?_); omega; conv => whnf)
      | (exfalso; first | omega | contradiction))
    all_goals first
      | (exfalso; exact hxp (mk_ext9 (by assumption) (by assumption)))
      | (exfalso; omega)
      | skip
    all_goals exact Again.av (k + 1) ⟨by omega, by omega⟩ (by omega) (by refine ⟨?_, ?_, rfl⟩ <;> (repeat' (first | exact True.intro | exact rfl | refine ⟨?_, ?_⟩ | (intro h; cases h; done) | (intro h; exact h) | exact map_snoc | (refine own_congr ?_; simp; done) | (refine int_congr ?_; (first | omega | (simp; omega))) | (simp; done) | (refine view_congr ?_ ?_ <;> (first | omega | (simp; done) | (simp; omega))) | ((first | refine own_congr ?_ | refine int_congr ?_ | skip); simp [D.cells]; done) | ((first | refine own_congr ?_ | refine int_congr ?_); simp [D.cells]; omega) | (show @Eq (List Go.Vm.D) _ []; simp [D.cells]; done) | (simp [D.cells, D.cells]; done))); done)
  · conv => whnf
    repeat' (first
      | ((with_reducible refine Split.of_true ?_); conv => whnf)
      | ((with_reducible refine Split.of_false ?_); conv => whnf)
      | ((with_reducible refine Split.neg ?_))
      | ((with_reducible refine Split.is_true ?_ ?_); decide; conv => whnf)
      | ((with_reducible refine Split.is_false ?_ ?_); decide; conv => whnf)
      | ((with_reducible refine Split.nez (fun _ => ?_) (fun _ => ?_)) <;> conv => whnf)
      | ((with_reducible refine Split.eqz (fun _ => ?_) (fun _ => ?_)) <;> conv => whnf)
      | ((with_reducible refine Split.and ?_))
      | ((with_reducible refine Split.or ?_))
      | ((with_reducible refine Split.streq (fun _ => ?_) (fun _ => ?_)) <;> conv => whnf)
      | ((with_reducible refine Split.dec (fun _ => ?_) (fun _ => ?_)) <;> conv => whnf)
      | ((with_reducible refine Split.mk (fun _ => ?_) (fun _ => ?_)) <;> conv => whnf)
      | ((with_reducible refine NilK.mk (fun _ => ?_) ?_) <;> conv => whnf)
      | ((with_reducible refine AltK.l ?_); (conv => whnf); (with_reducible refine Need.mk ?_ ?_); (first | omega | (refine ⟨?_, ?_⟩ <;> simp <;> omega) | (simp; omega)); conv => whnf)
      | ((with_reducible refine Need.mk ?_ ?_); (first | omega | rfl | decide | (refine ⟨?_, ?_⟩ <;> simp <;> omega) | (simp; omega)); conv => whnf)
      | ((with_reducible refine Wr.quo ?_ ?_ ?_ ?_); omega; omega; omega; conv => whnf)
      | ((with_reducible refine Wr.inr ?_ ?_); (first | omega | (simp; omega)); conv => whnf)
      | ((with_reducible refine Wr.inu ?_ ?_); omega; conv => whnf)
      | (exfalso; first | omega | contradiction))
    exact ⟨⟨[], (by refine ⟨?_, ?_, rfl⟩ <;> (repeat' (first | exact True.intro | exact rfl | refine ⟨?_, ?_⟩ | (intro h; cases h; done) | (intro h; exact h) | exact map_snoc | (refine own_congr ?_; simp; done) | (refine int_congr ?_; (first | omega | (simp; omega))) | (simp; done) | (refine view_congr ?_ ?_ <;> (first | omega | (simp; done) | (simp; omega))))); done)⟩, rfl⟩
end Go.Proofs.Try
