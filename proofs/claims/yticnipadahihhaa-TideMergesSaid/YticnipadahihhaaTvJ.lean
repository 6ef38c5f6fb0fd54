import Derived.Test.YticnipadahihhaaTvH
import Derived.Test.YticnipadahihhaaTwG
namespace Go.Proofs.Try
open Go Go.Vm
set_option maxRecDepth 20000
set_option maxHeartbeats 8000000
/-! The reference's Merge. -/
open Classical in
noncomputable def mergeS (a b : Ga) : Ga × Int := if gErr a ≠ 0 then (gzG, gErr a) else if gErr b ≠ 0 then (gzG, gErr b) else if a.name ≠ b.name ∨ a.x ≠ b.x ∨ a.err ≠ b.err then (gzG, 10) else
  match mref a.marks b.marks with
  | none => (gzG, 22)
  | some L => if 400 < L.length then (gzG, 8) else ({ a with marks := L }, 0)
def mgD (p : Ga × Int) : D := .tup [gD p.1, .int .i64 p.2]
theorem mref_left {U : List Mk} {i : Nat} {x : Mk} {o : List Mk} (h : U[i]? = some x) {Z : List Mk} (hZ : Z = []) : (mref (U.drop i) Z).map (o ++ ·) = (mref (U.drop (i + 1)) Z).map (o ++ [x] ++ ·) := by
  subst hZ
  rw [nil_mref, nil_mref, drop_of h]; simp
theorem mref_right {Y : List Mk} {k : Nat} {y : Mk} {o : List Mk} (h : Y[k]? = some y) : (mref [] (Y.drop k)).map (o ++ ·) = (mref [] (Y.drop (k + 1))).map (o ++ [y] ++ ·) := by
  rw [mref_nil, mref_nil, drop_of h]; simp
theorem map_app {o : List Mk} {x : Mk} {q : Option (List Mk)} : (q.map (x :: ·)).map (o ++ ·) = q.map (o ++ [x] ++ ·) := by cases q <;> simp
theorem ev_MergeR (a b : Ga) : Ev Try.prog 7 [gD a, gD b] (mgD (mergeS a b)) := by
  have hla : (a.marks.map mD).length = a.marks.length := List.length_map _
  have hlb : (b.marks.map mD).length = b.marks.length := List.length_map _
  have c1 := ev_CheckGaugeR a
  have c2 := ev_CheckGaugeR b
  unfold mergeS
  by_cases h1 : gErr a ≠ 0
  · rw [if_pos h1]
    refine ev_of_awp tysOk mixed (fn := Try.f7) Try.func7 rfl rfl rfl ?_
    conv => whnf
    repeat' (first
      | ((with_reducible refine Split.of_true ?_); conv => whnf)
      | ((with_reducible refine Split.of_false ?_); conv => whnf)
      | ((with_reducible refine Split.neg ?_))
      | ((with_reducible refine Split.is_true ?_ ?_); decide; conv => whnf)
      | ((with_reducible refine Split.is_false ?_ ?_); decide; conv => whnf)
      | ((with_reducible refine Split.nez (fun _ => ?_) (fun _ => ?_)) <;> conv => whnf)
      | ((with_reducible refine Split.eqz (fun _ => ?_) (fun _ => ?_)) <;> conv => whnf)
      | ((with_reducible refine Split.and ?_))
      | ((with_reducible refine Split.or ?_))
      | ((with_reducible refine Split.streq (fun _ => ?_) (fun _ => ?_)) <;> conv => whnf)
      | ((with_reducible refine Split.dec (fun _ => ?_) (fun _ => ?_)) <;> conv => whnf)
      | ((with_reducible refine Split.mk (fun _ => ?_) (fun _ => ?_)) <;> conv => whnf)
      | ((with_reducible refine NilK.mk (fun _ => ?_) ?_) <;> conv => whnf)
      | ((with_reducible refine AltK.l ?_); (conv => whnf); (with_reducible refine Need.mk ?_ ?_); (first | omega | (refine ⟨?_, ?_⟩ <;> simp <;> omega) | (simp; omega)); conv => whnf)
      | ((with_reducible refine Need.mk ?_ ?_); (first | omega | rfl | decide | (refine ⟨?_, ?_⟩ <;> simp <;> omega) | (simp; omega)); conv => whnf)
      | ((with_reducible refine Wr.quo ?_ ?_ ?_ ?_); omega; omega; omega; conv => whnf)
      | ((with_reducible refine Wr.inr ?_ ?_); (first | omega | (simp; omega)); conv => whnf)
      | ((with_reducible refine Wr.inu ?_ ?_); omega; conv => whnf)
      | ((with_reducible refine AltK.l ?_); (conv => whnf); (first | (refine CallK.mk _ (c1) ?_)); conv => whnf)
      | (exfalso; first | omega | contradiction))
    all_goals first
      | contradiction
      | rfl
  have h1 : gErr a = 0 := by omega
  rw [h1] at c1
  rw [if_neg (by simp [h1])]
  by_cases h2 : gErr b ≠ 0
  · rw [if_pos h2]
    refine ev_of_awp tysOk mixed (fn := Try.f7) Try.func7 rfl rfl rfl ?_
    conv => whnf
    repeat' (first
      | ((with_reducible refine Split.of_true ?_); conv => whnf)
      | ((with_reducible refine Split.of_false ?_); conv => whnf)
      | ((with_reducible refine Split.neg ?_))
      | ((with_reducible refine Split.is_true ?_ ?_); decide; conv => whnf)
      | ((with_reducible refine Split.is_false ?_ ?_); decide; conv => whnf)
      | ((with_reducible refine Split.nez (fun _ => ?_) (fun _ => ?_)) <;> conv => whnf)
      | ((with_reducible refine Split.eqz (fun _ => ?_) (fun _ => ?_)) <;> conv => whnf)
      | ((with_reducible refine Split.and ?_))
      | ((with_reducible refine Split.or ?_))
      | ((with_reducible refine Split.streq (fun _ => ?_) (fun _ => ?_)) <;> conv => whnf)
      | ((with_reducible refine Split.dec (fun _ => ?_) (fun _ => ?_)) <;> conv => whnf)
      | ((with_reducible refine Split.mk (fun _ => ?_) (fun _ => ?_)) <;> conv => whnf)
      | ((with_reducible refine NilK.mk (fun _ => ?_) ?_) <;> conv => whnf)
      | ((with_reducible refine AltK.l ?_); (conv => whnf); (with_reducible refine Need.mk ?_ ?_); (first | omega | (refine ⟨?_, ?_⟩ <;> simp <;> omega) | (simp; omega)); conv => whnf)
      | ((with_reducible refine Need.mk ?_ ?_); (first | omega | rfl | decide | (refine ⟨?_, ?_⟩ <;> simp <;> omega) | (simp; omega)); conv => whnf)
      | ((with_reducible refine Wr.quo ?_ ?_ ?_ ?_); omega; omega; omega; conv => whnf)
      | ((with_reducible refine Wr.inr ?_ ?_); (first | omega | (simp; omega)); conv => whnf)
      | ((with_reducible refine Wr.inu ?_ ?_); omega; conv => whnf)
      | ((with_reducible refine AltK.l ?_); (conv => whnf); (first | (refine CallK.mk _ (c1) ?_) | (refine CallK.mk _ (c2) ?_)); conv => whnf)
      | (exfalso; first | omega | contradiction))
    all_goals first
      | contradiction
      | rfl
  have h2 : gErr b = 0 := by omega
  rw [h2] at c2
  rw [if_neg (by simp [h2])]
  have hGa := good_of h1
  have hGb := good_of h2
  have ka := hGa.len
  have kb := hGb.len
  by_cases h3 : a.name ≠ b.name ∨ a.x ≠ b.x ∨ a.err ≠ b.err
  · rw [if_pos h3]
    refine ev_of_awp tysOk mixed (fn := Try.f7) Try.func7 rfl rfl rfl ?_
    conv => whnf
    repeat' (first
      | ((with_reducible refine Split.of_true ?_); conv => whnf)
      | ((with_reducible refine Split.of_false ?_); conv => whnf)
      | ((with_reducible refine Split.neg ?_))
      | ((with_reducible refine Split.is_true ?_ ?_); decide; conv => whnf)
      | ((with_reducible refine Split.is_false ?_ ?_); decide; conv => whnf)
      | ((with_reducible refine Split.nez (fun _ => ?_) (fun _ => ?_)) <;> conv => whnf)
      | ((with_reducible refine Split.eqz (fun _ => ?_) (fun _ => ?_)) <;> conv => whnf)
      | ((with_reducible refine Split.and ?_))
      | ((with_reducible refine Split.or ?_))
      | ((with_reducible refine Split.streq (fun _ => ?_) (fun _ => ?_)) <;> conv => whnf)
      | ((with_reducible refine Split.dec (fun _ => ?_) (fun _ => ?_)) <;> conv => whnf)
      | ((with_reducible refine Split.mk (fun _ => ?_) (fun _ => ?_)) <;> conv => whnf)
      | ((with_reducible refine NilK.mk (fun _ => ?_) ?_) <;> conv => whnf)
      | ((with_reducible refine AltK.l ?_); (conv => whnf); (with_reducible refine Need.mk ?_ ?_); (first | omega | (refine ⟨?_, ?_⟩ <;> simp <;> omega) | (simp; omega)); conv => whnf)
      | ((with_reducible refine Need.mk ?_ ?_); (first | omega | rfl | decide | (refine ⟨?_, ?_⟩ <;> simp <;> omega) | (simp; omega)); conv => whnf)
      | ((with_reducible refine Wr.quo ?_ ?_ ?_ ?_); omega; omega; omega; conv => whnf)
      | ((with_reducible refine Wr.inr ?_ ?_); (first | omega | (simp; omega)); conv => whnf)
      | ((with_reducible refine Wr.inu ?_ ?_); omega; conv => whnf)
      | ((with_reducible refine AltK.l ?_); (conv => whnf); (first | (refine CallK.mk _ (c1) ?_) | (refine CallK.mk _ (c2) ?_)); conv => whnf)
      | (exfalso; first | omega | contradiction))
    all_goals first
      | rfl
      | (exfalso; rcases h3 with h | h | h <;> contradiction)
  rw [if_neg h3]
  have hn : a.name = b.name := Classical.byContradiction fun h => h3 (.inl h)
  have hx : a.x = b.x := Classical.byContradiction fun h => h3 (.inr (.inl h))
  have he : a.err = b.err := Classical.byContradiction fun h => h3 (.inr (.inr h))
  clear h3
  have hT0 : mref a.marks b.marks = (mref (a.marks.drop 0) (b.marks.drop 0)).map ([] ++ ·) := by simp
  generalize mref a.marks b.marks = T at *
  refine ev_of_awp tysOk mixed (fn := Try.f7) Try.func7 rfl rfl rfl ?_
  conv => whnf
  repeat' (first
    | ((with_reducible refine Split.of_true ?_); conv => whnf)
    | ((with_reducible refine Split.of_false ?_); conv => whnf)
    | ((with_reducible refine Split.neg ?_))
    | ((with_reducible refine Split.is_true ?_ ?_); decide; conv => whnf)
    | ((with_reducible refine Split.is_false ?_ ?_); decide; conv => whnf)
    | ((with_reducible refine Split.nez (fun _ => ?_) (fun _ => ?_)) <;> conv => whnf)
    | ((with_reducible refine Split.eqz (fun _ => ?_) (fun _ => ?_)) <;> conv => whnf)
    | ((with_reducible refine Split.and ?_))
    | ((with_reducible refine Split.or ?_))
    | ((with_reducible refine Split.streq (fun _ => ?_) (fun _ => ?_)) <;> conv => whnf)
    | ((with_reducible refine Split.dec (fun _ => ?_) (fun _ => ?_)) <;> conv => whnf)
    | ((with_reducible refine Split.mk (fun _ => ?_) (fun _ => ?_)) <;> conv => whnf)
    | ((with_reducible refine NilK.mk (fun _ => ?_) ?_) <;> conv => whnf)
    | ((with_reducible refine AltK.l ?_); (conv => whnf); (with_reducible refine Need.mk ?_ ?_); (first | omega | (refine ⟨?_, ?_⟩ <;> simp <;> omega) | (simp; omega)); conv => whnf)
    | ((with_reducible refine Need.mk ?_ ?_); (first | omega | rfl | decide | (refine ⟨?_, ?_⟩ <;> simp <;> omega) | (simp; omega)); conv => whnf)
    | ((with_reducible refine Wr.quo ?_ ?_ ?_ ?_); omega; omega; omega; conv => whnf)
    | ((with_reducible refine Wr.inr ?_ ?_); (first | omega | (simp; omega)); conv => whnf)
    | ((with_reducible refine Wr.inu ?_ ?_); omega; conv => whnf)
    | ((with_reducible refine AltK.l ?_); (conv => whnf); (first | (refine CallK.mk _ (c1) ?_) | (refine CallK.mk _ (c2) ?_)); conv => whnf)
    | (exfalso; first | omega | contradiction))
  refine LoopK.o3 (fun z : Nat × Nat × List Mk => z.1 ≤ a.marks.length ∧ z.2.1 ≤ b.marks.length ∧ z.2.2.length ≤ z.1 + z.2.1 ∧ T = (mref (a.marks.drop z.1) (b.marks.drop z.2.1)).map (z.2.2 ++ ·))
    (fun z => [(8, .own 200 2 (z.2.2.map mD).length), (9, .d (.int .i64 z.1)), (10, .d (.int .i64 z.2.1))]) (fun z => [(200, .row 41 2 (z.2.2.map mD) false)]) (fun z => a.marks.length - z.1 + (b.marks.length - z.2.1)) (0, 0, []) ⟨Nat.zero_le _, Nat.zero_le _, Nat.le_refl _, hT0⟩ (by refine ⟨?_, ?_, rfl⟩ <;> (repeat' (first | exact True.intro | exact rfl | refine ⟨?_, ?_⟩ | (intro h; cases h; done) | (intro h; exact h) | exact map_snoc | (refine own_congr ?_; simp; done) | (refine int_congr ?_; (first | omega | (simp; omega))) | (simp; done) | ((first | refine own_congr ?_ | refine int_congr ?_ | skip); simp [D.cells]; done) | ((first | refine own_congr ?_ | refine int_congr ?_); simp [D.cells]; omega) | (show @Eq (List Go.Vm.D) _ []; simp [D.cells]; done) | (simp [D.cells, D.cells]; done))); done) ?_
  rintro ⟨i, k, o⟩ ⟨hi, hk, hol, hT⟩
  dsimp only at hi hk hol hT ⊢
  have hlo : (o.map mD).length = o.length := List.length_map _
  by_cases hil : i < a.marks.length
  · obtain ⟨x, hx⟩ := some_of_lt hil
    by_cases hkl : k < b.marks.length
    · obtain ⟨y, hy⟩ := some_of_lt hkl
      rw [drop_of hx, drop_of hy, mref_cons, ← drop_of hx, ← drop_of hy] at hT
      by_cases e1 : x.m < y.m
      · rw [if_pos e1, map_app] at hT
        conv => whnf
        repeat' (first
          | ((refine PickE.map k hy (by omega) ?_); conv => whnf)
          | ((refine PickE.map i hx (by omega) ?_); conv => whnf)
          | ((with_reducible refine Split.of_true ?_); conv => whnf)
          | ((with_reducible refine Split.of_false ?_); conv => whnf)
          | ((with_reducible refine Split.neg ?_))
          | ((with_reducible refine Split.is_true ?_ ?_); decide; conv => whnf)
          | ((with_reducible refine Split.is_false ?_ ?_); decide; conv => whnf)
          | ((with_reducible refine Split.nez (fun _ => ?_) (fun _ => ?_)) <;> conv => whnf)
          | ((with_reducible refine Split.eqz (fun _ => ?_) (fun _ => ?_)) <;> conv => whnf)
          | ((with_reducible refine Split.and ?_))
          | ((with_reducible refine Split.or ?_))
          | ((with_reducible refine Split.streq (fun _ => ?_) (fun _ => ?_)) <;> conv => whnf)
          | ((with_reducible refine Split.dec (fun _ => ?_) (fun _ => ?_)) <;> conv => whnf)
          | ((with_reducible refine Split.mk (fun _ => ?_) (fun _ => ?_)) <;> conv => whnf)
          | ((with_reducible refine NilK.mk (fun _ => ?_) ?_) <;> conv => whnf)
          | ((with_reducible refine AltK.l ?_); (conv => whnf); (with_reducible refine Need.mk ?_ ?_); (first | omega | (refine ⟨?_, ?_⟩ <;> simp <;> omega) | (simp; omega)); conv => whnf)
          | ((with_reducible refine Need.mk ?_ ?_); (first | omega | rfl | decide | (refine ⟨?_, ?_⟩ <;> simp <;> omega) | (simp; omega)); conv => whnf)
          | ((with_reducible refine Wr.quo ?_ ?_ ?_ ?_); omega; omega; omega; conv => whnf)
          | ((with_reducible refine Wr.inr ?_ ?_); (first | omega | (simp; omega)); conv => whnf)
          | ((with_reducible refine Wr.inu ?_ ?_); omega; conv => whnf)
          | (exfalso; first | omega | contradiction))
        all_goals first
          | (exfalso; omega)
          | skip
        exact Again.au (i + 1, k, o ++ [x]) ⟨by dsimp only; omega, by dsimp only; omega, by dsimp only; rw [List.length_append, List.length_singleton]; omega, hT⟩ (by dsimp only; omega) (by refine ⟨?_, ?_, rfl⟩ <;> (repeat' (first | exact True.intro | exact rfl | refine ⟨?_, ?_⟩ | (intro h; cases h; done) | (intro h; exact h) | exact map_snoc | (refine own_congr ?_; simp; done) | (refine int_congr ?_; (first | omega | (simp; omega))) | (simp; done))); done)
      · rw [if_neg e1] at hT
        by_cases e2 : y.m < x.m
        · rw [if_pos e2, map_app] at hT
          conv => whnf
          repeat' (first
            | ((refine PickE.map k hy (by omega) ?_); conv => whnf)
            | ((refine PickE.map i hx (by omega) ?_); conv => whnf)
            | ((with_reducible refine Split.of_true ?_); conv => whnf)
            | ((with_reducible refine Split.of_false ?_); conv => whnf)
            | ((with_reducible refine Split.neg ?_))
            | ((with_reducible refine Split.is_true ?_ ?_); decide; conv => whnf)
            | ((with_reducible refine Split.is_false ?_ ?_); decide; conv => whnf)
            | ((with_reducible refine Split.nez (fun _ => ?_) (fun _ => ?_)) <;> conv => whnf)
            | ((with_reducible refine Split.eqz (fun _ => ?_) (fun _ => ?_)) <;> conv => whnf)
            | ((with_reducible refine Split.and ?_))
            | ((with_reducible refine Split.or ?_))
            | ((with_reducible refine Split.streq (fun _ => ?_) (fun _ => ?_)) <;> conv => whnf)
            | ((with_reducible refine Split.dec (fun _ => ?_) (fun _ => ?_)) <;> conv => whnf)
            | ((with_reducible refine Split.mk (fun _ => ?_) (fun _ => ?_)) <;> conv => whnf)
            | ((with_reducible refine NilK.mk (fun _ => ?_) ?_) <;> conv => whnf)
            | ((with_reducible refine AltK.l ?_); (conv => whnf); (with_reducible refine Need.mk ?_ ?_); (first | omega | (refine ⟨?_, ?_⟩ <;> simp <;> omega) | (simp; omega)); conv => whnf)
            | ((with_reducible refine Need.mk ?_ ?_); (first | omega | rfl | decide | (refine ⟨?_, ?_⟩ <;> simp <;> omega) | (simp; omega)); conv => whnf)
            | ((with_reducible refine Wr.quo ?_ ?_ ?_ ?_); omega; omega; omega; conv => whnf)
            | ((with_reducible refine Wr.inr ?_ ?_); (first | omega | (simp; omega)); conv => whnf)
            | ((with_reducible refine Wr.inu ?_ ?_); omega; conv => whnf)
            | (exfalso; first | omega | contradiction))
          all_goals first
            | (exfalso; omega)
            | skip
          exact Again.au (i, k + 1, o ++ [y]) ⟨by dsimp only; omega, by dsimp only; omega, by dsimp only; rw [List.length_append, List.length_singleton]; omega, hT⟩ (by dsimp only; omega) (by refine ⟨?_, ?_, rfl⟩ <;> (repeat' (first | exact True.intro | exact rfl | refine ⟨?_, ?_⟩ | (intro h; cases h; done) | (intro h; exact h) | exact map_snoc | (refine own_congr ?_; simp; done) | (refine int_congr ?_; (first | omega | (simp; omega))) | (simp; done))); done)
        · rw [if_neg e2] at hT
          by_cases e3 : x.l = y.l
          · rw [if_pos e3, map_app] at hT
            conv => whnf
            repeat' (first
              | ((refine PickE.map k hy (by omega) ?_); conv => whnf)
              | ((refine PickE.map i hx (by omega) ?_); conv => whnf)
              | ((with_reducible refine Split.of_true ?_); conv => whnf)
              | ((with_reducible refine Split.of_false ?_); conv => whnf)
              | ((with_reducible refine Split.neg ?_))
              | ((with_reducible refine Split.is_true ?_ ?_); decide; conv => whnf)
              | ((with_reducible refine Split.is_false ?_ ?_); decide; conv => whnf)
              | ((with_reducible refine Split.nez (fun _ => ?_) (fun _ => ?_)) <;> conv => whnf)
              | ((with_reducible refine Split.eqz (fun _ => ?_) (fun _ => ?_)) <;> conv => whnf)
              | ((with_reducible refine Split.and ?_))
              | ((with_reducible refine Split.or ?_))
              | ((with_reducible refine Split.streq (fun _ => ?_) (fun _ => ?_)) <;> conv => whnf)
              | ((with_reducible refine Split.dec (fun _ => ?_) (fun _ => ?_)) <;> conv => whnf)
              | ((with_reducible refine Split.mk (fun _ => ?_) (fun _ => ?_)) <;> conv => whnf)
              | ((with_reducible refine NilK.mk (fun _ => ?_) ?_) <;> conv => whnf)
              | ((with_reducible refine AltK.l ?_); (conv => whnf); (with_reducible refine Need.mk ?_ ?_); (first | omega | (refine ⟨?_, ?_⟩ <;> simp <;> omega) | (simp; omega)); conv => whnf)
              | ((with_reducible refine Need.mk ?_ ?_); (first | omega | rfl | decide | (refine ⟨?_, ?_⟩ <;> simp <;> omega) | (simp; omega)); conv => whnf)
              | ((with_reducible refine Wr.quo ?_ ?_ ?_ ?_); omega; omega; omega; conv => whnf)
              | ((with_reducible refine Wr.inr ?_ ?_); (first | omega | (simp; omega)); conv => whnf)
              | ((with_reducible refine Wr.inu ?_ ?_); omega; conv => whnf)
              | (exfalso; first | omega | contradiction))
            all_goals first
              | (exfalso; omega)
              | skip
            exact Again.au (i + 1, k + 1, o ++ [x]) ⟨by dsimp only; omega, by dsimp only; omega, by dsimp only; rw [List.length_append, List.length_singleton]; omega, hT⟩ (by dsimp only; omega) (by refine ⟨?_, ?_, rfl⟩ <;> (repeat' (first | exact True.intro | exact rfl | refine ⟨?_, ?_⟩ | (intro h; cases h; done) | (intro h; exact h) | exact map_snoc | (refine own_congr ?_; simp; done) | (refine int_congr ?_; (first | omega | (simp; omega))) | (simp; done))); done)
          · rw [if_neg e3] at hT
            rw [hT]
            conv => whnf
            repeat' (first
              | ((refine PickE.map k hy (by omega) ?_); conv => whnf)
              | ((refine PickE.map i hx (by omega) ?_); conv => whnf)
              | ((with_reducible refine Split.of_true ?_); conv => whnf)
              | ((with_reducible refine Split.of_false ?_); conv => whnf)
              | ((with_reducible refine Split.neg ?_))
              | ((with_reducible refine Split.is_true ?_ ?_); decide; conv => whnf)
              | ((with_reducible refine Split.is_false ?_ ?_); decide; conv => whnf)
              | ((with_reducible refine Split.nez (fun _ => ?_) (fun _ => ?_)) <;> conv => whnf)
              | ((with_reducible refine Split.eqz (fun _ => ?_) (fun _ => ?_)) <;> conv => whnf)
              | ((with_reducible refine Split.and ?_))
              | ((with_reducible refine Split.or ?_))
              | ((with_reducible refine Split.streq (fun _ => ?_) (fun _ => ?_)) <;> conv => whnf)
              | ((with_reducible refine Split.dec (fun _ => ?_) (fun _ => ?_)) <;> conv => whnf)
              | ((with_reducible refine Split.mk (fun _ => ?_) (fun _ => ?_)) <;> conv => whnf)
              | ((with_reducible refine NilK.mk (fun _ => ?_) ?_) <;> conv => whnf)
              | ((with_reducible refine AltK.l ?_); (conv => whnf); (with_reducible refine Need.mk ?_ ?_); (first | omega | (refine ⟨?_, ?_⟩ <;> simp <;> omega) | (simp; omega)); conv => whnf)
              | ((with_reducible refine Need.mk ?_ ?_); (first | omega | rfl | decide | (refine ⟨?_, ?_⟩ <;> simp <;> omega) | (simp; omega)); conv => whnf)
              | ((with_reducible refine Wr.quo ?_ ?_ ?_ ?_); omega; omega; omega; conv => whnf)
              | ((with_reducible refine Wr.inr ?_ ?_); (first | omega | (simp; omega)); conv => whnf)
              | ((with_reducible refine Wr.inu ?_ ?_); omega; conv => whnf)
              | (exfalso; first | omega | contradiction))
            all_goals first
              | (exfalso; omega)
              | skip
            rfl
    · have hT : T = (mref (a.marks.drop (i + 1)) (b.marks.drop k)).map (o ++ [x] ++ ·) := by rw [hT, List.drop_eq_nil_of_le (show b.marks.length ≤ k by omega), mref_left hx rfl]
      conv => whnf
      repeat' (first
        | ((refine PickE.map i hx (by omega) ?_); conv => whnf)
        | ((with_reducible refine Split.of_true ?_); conv => whnf)
        | ((with_reducible refine Split.of_false ?_); conv => whnf)
        | ((with_reducible refine Split.neg ?_))
        | ((with_reducible refine Split.is_true ?_ ?_); decide; conv => whnf)
        | ((with_reducible refine Split.is_false ?_ ?_); decide; conv => whnf)
        | ((with_reducible refine Split.nez (fun _ => ?_) (fun _ => ?_)) <;> conv => whnf)
        | ((with_reducible refine Split.eqz (fun _ => ?_) (fun _ => ?_)) <;> conv => whnf)
        | ((with_reducible refine Split.and ?_))
        | ((with_reducible refine Split.or ?_))
        | ((with_reducible refine Split.streq (fun _ => ?_) (fun _ => ?_)) <;> conv => whnf)
        | ((with_reducible refine Split.dec (fun _ => ?_) (fun _ => ?_)) <;> conv => whnf)
        | ((with_reducible refine Split.mk (fun _ => ?_) (fun _ => ?_)) <;> conv => whnf)
        | ((with_reducible refine NilK.mk (fun _ => ?_) ?_) <;> conv => whnf)
        | ((with_reducible refine AltK.l ?_); (conv => whnf); (with_reducible refine Need.mk ?_ ?_); (first | omega | (refine ⟨?_, ?_⟩ <;> simp <;> omega) | (simp; omega)); conv => whnf)
        | ((with_reducible refine Need.mk ?_ ?_); (first | omega | rfl | decide | (refine ⟨?_, ?_⟩ <;> simp <;> omega) | (simp; omega)); conv => whnf)
        | ((with_reducible refine Wr.quo ?_ ?_ ?_ ?_); omega; omega; omega; conv => whnf)
        | ((with_reducible refine Wr.inr ?_ ?_); (first | omega | (simp; omega)); conv => whnf)
        | ((with_reducible refine Wr.inu ?_ ?_); omega; conv => whnf)
        | (exfalso; first | omega | contradiction))
      all_goals first
        | (exfalso; omega)
        | skip
      all_goals exact Again.au (i + 1, k, o ++ [x]) ⟨by dsimp only; omega, by dsimp only; omega, by dsimp only; rw [List.length_append, List.length_singleton]; omega, hT⟩ (by dsimp only; omega) (by refine ⟨?_, ?_, rfl⟩ <;> (repeat' (first | exact True.intro | exact rfl | refine ⟨?_, ?_⟩ | (intro h; cases h; done) | (intro h; exact h) | exact map_snoc | (refine own_congr ?_; simp; done) | (refine int_congr ?_; (first | omega | (simp; omega))) | (simp; done))); done)
  · have hdn : a.marks.drop i = [] := List.drop_eq_nil_of_le (by omega)
    by_cases hkl : k < b.marks.length
    · obtain ⟨y, hy⟩ := some_of_lt hkl
      have hT : T = (mref (a.marks.drop i) (b.marks.drop (k + 1))).map (o ++ [y] ++ ·) := by rw [hT, hdn, mref_right hy]
      conv => whnf
      repeat' (first
        | ((refine PickE.map k hy (by omega) ?_); conv => whnf)
        | ((with_reducible refine Split.of_true ?_); conv => whnf)
        | ((with_reducible refine Split.of_false ?_); conv => whnf)
        | ((with_reducible refine Split.neg ?_))
        | ((with_reducible refine Split.is_true ?_ ?_); decide; conv => whnf)
        | ((with_reducible refine Split.is_false ?_ ?_); decide; conv => whnf)
        | ((with_reducible refine Split.nez (fun _ => ?_) (fun _ => ?_)) <;> conv => whnf)
        | ((with_reducible refine Split.eqz (fun _ => ?_) (fun _ => ?_)) <;> conv => whnf)
        | ((with_reducible refine Split.and ?_))
        | ((with_reducible refine Split.or ?_))
        | ((with_reducible refine Split.streq (fun _ => ?_) (fun _ => ?_)) <;> conv => whnf)
        | ((with_reducible refine Split.dec (fun _ => ?_) (fun _ => ?_)) <;> conv => whnf)
        | ((with_reducible refine Split.mk (fun _ => ?_) (fun _ => ?_)) <;> conv => whnf)
        | ((with_reducible refine NilK.mk (fun _ => ?_) ?_) <;> conv => whnf)
        | ((with_reducible refine AltK.l ?_); (conv => whnf); (with_reducible refine Need.mk ?_ ?_); (first | omega | (refine ⟨?_, ?_⟩ <;> simp <;> omega) | (simp; omega)); conv => whnf)
        | ((with_reducible refine Need.mk ?_ ?_); (first | omega | rfl | decide | (refine ⟨?_, ?_⟩ <;> simp <;> omega) | (simp; omega)); conv => whnf)
        | ((with_reducible refine Wr.quo ?_ ?_ ?_ ?_); omega; omega; omega; conv => whnf)
        | ((with_reducible refine Wr.inr ?_ ?_); (first | omega | (simp; omega)); conv => whnf)
        | ((with_reducible refine Wr.inu ?_ ?_); omega; conv => whnf)
        | (exfalso; first | omega | contradiction))
      all_goals first
        | (exfalso; omega)
        | skip
      all_goals exact Again.au (i, k + 1, o ++ [y]) ⟨by dsimp only; omega, by dsimp only; omega, by dsimp only; rw [List.length_append, List.length_singleton]; omega, hT⟩ (by dsimp only; omega) (by refine ⟨?_, ?_, rfl⟩ <;> (repeat' (first | exact True.intro | exact rfl | refine ⟨?_, ?_⟩ | (intro h; cases h; done) | (intro h; exact h) | exact map_snoc | (refine own_congr ?_; simp; done) | (refine int_congr ?_; (first | omega | (simp; omega))) | (simp; done))); done)
    · have hT : T = some o := by rw [hT, hdn, mref_nil, List.drop_eq_nil_of_le (show b.marks.length ≤ k by omega)]; simp
      rw [hT]
      dsimp only
      by_cases hL : 400 < o.length
      · rw [if_pos hL]
        conv => whnf
        repeat' (first
          | ((with_reducible refine Split.of_true ?_); conv => whnf)
          | ((with_reducible refine Split.of_false ?_); conv => whnf)
          | ((with_reducible refine Split.neg ?_))
          | ((with_reducible refine Split.is_true ?_ ?_); decide; conv => whnf)
          | ((with_reducible refine Split.is_false ?_ ?_); decide; conv => whnf)
          | ((with_reducible refine Split.nez (fun _ => ?_) (fun _ => ?_)) <;> conv => whnf)
          | ((with_reducible refine Split.eqz (fun _ => ?_) (fun _ => ?_)) <;> conv => whnf)
          | ((with_reducible refine Split.and ?_))
          | ((with_reducible refine Split.or ?_))
          | ((with_reducible refine Split.streq (fun _ => ?_) (fun _ => ?_)) <;> conv => whnf)
          | ((with_reducible refine Split.dec (fun _ => ?_) (fun _ => ?_)) <;> conv => whnf)
          | ((with_reducible refine Split.mk (fun _ => ?_) (fun _ => ?_)) <;> conv => whnf)
          | ((with_reducible refine NilK.mk (fun _ => ?_) ?_) <;> conv => whnf)
          | ((with_reducible refine AltK.l ?_); (conv => whnf); (with_reducible refine Need.mk ?_ ?_); (first | omega | (refine ⟨?_, ?_⟩ <;> simp <;> omega) | (simp; omega)); conv => whnf)
          | ((with_reducible refine Need.mk ?_ ?_); (first | omega | rfl | decide | (refine ⟨?_, ?_⟩ <;> simp <;> omega) | (simp; omega)); conv => whnf)
          | ((with_reducible refine Wr.quo ?_ ?_ ?_ ?_); omega; omega; omega; conv => whnf)
          | ((with_reducible refine Wr.inr ?_ ?_); (first | omega | (simp; omega)); conv => whnf)
          | ((with_reducible refine Wr.inu ?_ ?_); omega; conv => whnf)
          | (exfalso; first | omega | contradiction))
        all_goals first
          | (exfalso; omega)
          | rfl
      rw [if_neg hL]
      conv => whnf
      repeat' (first
        | ((with_reducible refine Split.of_true ?_); conv => whnf)
        | ((with_reducible refine Split.of_false ?_); conv => whnf)
        | ((with_reducible refine Split.neg ?_))
        | ((with_reducible refine Split.is_true ?_ ?_); decide; conv => whnf)
        | ((with_reducible refine Split.is_false ?_ ?_); decide; conv => whnf)
        | ((with_reducible refine Split.nez (fun _ => ?_) (fun _ => ?_)) <;> conv => whnf)
        | ((with_reducible refine Split.eqz (fun _ => ?_) (fun _ => ?_)) <;> conv => whnf)
        | ((with_reducible refine Split.and ?_))
        | ((with_reducible refine Split.or ?_))
        | ((with_reducible refine Split.streq (fun _ => ?_) (fun _ => ?_)) <;> conv => whnf)
        | ((with_reducible refine Split.dec (fun _ => ?_) (fun _ => ?_)) <;> conv => whnf)
        | ((with_reducible refine Split.mk (fun _ => ?_) (fun _ => ?_)) <;> conv => whnf)
        | ((with_reducible refine NilK.mk (fun _ => ?_) ?_) <;> conv => whnf)
        | ((with_reducible refine AltK.l ?_); (conv => whnf); (with_reducible refine Need.mk ?_ ?_); (first | omega | (refine ⟨?_, ?_⟩ <;> simp <;> omega) | (simp; omega)); conv => whnf)
        | ((with_reducible refine Need.mk ?_ ?_); (first | omega | rfl | decide | (refine ⟨?_, ?_⟩ <;> simp <;> omega) | (simp; omega)); conv => whnf)
        | ((with_reducible refine Wr.quo ?_ ?_ ?_ ?_); omega; omega; omega; conv => whnf)
        | ((with_reducible refine Wr.inr ?_ ?_); (first | omega | (simp; omega)); conv => whnf)
        | ((with_reducible refine Wr.inu ?_ ?_); omega; conv => whnf)
        | ((with_reducible refine AltK.l ?_); (conv => whnf); (first | (refine CallK.mk _ (ev_withR a o) ?_)); conv => whnf)
        | (exfalso; first | omega | contradiction))
      all_goals first
        | (exfalso; omega)
        | skip
      all_goals rfl
end Go.Proofs.Try
