import Derived.Test.YticnipadahihhaaTvJ
import Derived.Test.YticnipadahihhaaTvG
import Derived.Test.YticnipadahihhaaTvE
namespace Go.Proofs.Try
open Go Go.Vm
set_option maxRecDepth 20000
set_option maxHeartbeats 8000000
/-! tide.Merge. -/
theorem dup_none : ∀ {l : List Mk}, dupL l = false → ∀ (i : Nat) x y, l[i]? = some x → l[i + 1]? = some y → y.m ≠ x.m := by
  have key : ∀ (l : List Mk) (p : Mk), dupG p l = false → ∀ (i : Nat) x y, (p :: l)[i]? = some x → l[i]? = some y → y.m ≠ x.m := by
    intro l
    induction l with
    | nil => intro p _ i x y _ hy; cases hy
    | cons b r ih =>
      intro p h i x y hx hy
      rw [dupG, Bool.or_eq_false_iff] at h
      cases i with
      | zero => cases hx; cases hy; exact of_decide_eq_false h.1
      | succ i => exact ih b h.2 i x y (by simpa using hx) (by simpa using hy)
  intro l h i x y hx hy
  match l, h with
  | a :: r, h => exact key r a h i x y hx (by simpa using hy)
theorem dup_some : ∀ {l : List Mk}, dupL l = true → ∃ (i : Nat) (x y : Mk), l[i]? = some x ∧ l[i + 1]? = some y ∧ y.m = x.m := by
  have key : ∀ (l : List Mk) (p : Mk), dupG p l = true → ∃ (i : Nat) (x y : Mk), (p :: l)[i]? = some x ∧ l[i]? = some y ∧ y.m = x.m := by
    intro l
    induction l with
    | nil => intro p h; cases h
    | cons b r ih =>
      intro p h
      rw [dupG, Bool.or_eq_true] at h
      rcases h with h | h
      · exact ⟨0, p, b, rfl, rfl, of_decide_eq_true h⟩
      · obtain ⟨i, x, y, h1, h2, h3⟩ := ih b h
        exact ⟨i + 1, x, y, by simpa using h1, by simpa using h2, h3⟩
  intro l h
  match l, h with
  | a :: r, h =>
    obtain ⟨i, x, y, h1, h2, h3⟩ := key r a h
    exact ⟨i, x, y, h1, by simpa using h2, h3⟩
theorem ev_Merge (a b : Ga) : Ev Try.prog 6 [gD a, gD b] (mgD (mergeS a b)) := by
  have hla : (a.marks.map mD).length = a.marks.length := List.length_map _
  have hlb : (b.marks.map mD).length = b.marks.length := List.length_map _
  have c1 := ev_CheckGauge a
  have c2 := ev_CheckGauge b
  unfold mergeS
  by_cases h1 : gErr a ≠ 0
  · rw [if_pos h1]
    refine ev_of_awp tysOk mixed (fn := Try.f6) Try.func6 rfl rfl rfl ?_
    conv => whnf
    repeat' (first
      | ((with_reducible refine Split.of_true ?_); conv => whnf)
      | ((with_reducible refine Split.of_false ?_); conv => whnf)
      | ((with_reducible refine Split.neg ?_))
      | ((with_reducible refine Split.is_true ?_ ?_); decide; conv => whnf)
      | ((with_reducible refine Split.is_false ?_ ?_); decide; conv => whnf)
      | ((with_reducible refine Split.nez (fun _ => ?_) (fun _ => ?_)) <;> conv => whnf)
      | ((with_reducible refine Split.eqz (fun _ => ?_) (fun _ => ?_)) <;> conv => whnf)
      | ((with_reducible refine Split.and ?_))
      | ((with_reducible refine Split.or ?_))
      | ((with_reducible refine Split.streq (fun _ => ?_) (fun _ => ?_)) <;> conv => whnf)
      | ((with_reducible refine Split.dec (fun _ => ?_) (fun _ => ?_)) <;> conv => whnf)
      | ((with_reducible refine Split.mk (fun _ => ?_) (fun _ => ?_)) <;> conv => whnf)
      | ((with_reducible refine NilK.mk (fun _ => ?_) ?_) <;> conv => whnf)
      | ((with_reducible refine AltK.l ?_); (conv => whnf); (with_reducible refine Need.mk ?_ ?_); (first | omega | (refine ⟨?_, ?_⟩ <;> simp <;> omega) | (simp; omega)); conv => whnf)
      | ((with_reducible refine Need.mk ?_ ?_); (first | omega | rfl | decide | (refine ⟨?_, ?_⟩ <;> simp <;> omega) | (simp; omega)); conv => whnf)
      | ((with_reducible refine Wr.quo ?_ ?_ ?_ ?_); omega; omega; omega; conv => whnf)
      | ((with_reducible refine Wr.inr ?_ ?_); (first | omega | (simp; omega)); conv => whnf)
      | ((with_reducible refine Wr.inu ?_ ?_); omega; conv => whnf)
      | ((with_reducible refine AltK.l ?_); (conv => whnf); (first | (refine CallK.mk _ (c1) ?_)); conv => whnf)
      | (exfalso; first | omega | contradiction))
    all_goals first
      | contradiction
      | rfl
  have h1 : gErr a = 0 := by omega
  rw [h1] at c1
  rw [if_neg (by simp [h1])]
  by_cases h2 : gErr b ≠ 0
  · rw [if_pos h2]
    refine ev_of_awp tysOk mixed (fn := Try.f6) Try.func6 rfl rfl rfl ?_
    conv => whnf
    repeat' (first
      | ((with_reducible refine Split.of_true ?_); conv => whnf)
      | ((with_reducible refine Split.of_false ?_); conv => whnf)
      | ((with_reducible refine Split.neg ?_))
      | ((with_reducible refine Split.is_true ?_ ?_); decide; conv => whnf)
      | ((with_reducible refine Split.is_false ?_ ?_); decide; conv => whnf)
      | ((with_reducible refine Split.nez (fun _ => ?_) (fun _ => ?_)) <;> conv => whnf)
      | ((with_reducible refine Split.eqz (fun _ => ?_) (fun _ => ?_)) <;> conv => whnf)
      | ((with_reducible refine Split.and ?_))
      | ((with_reducible refine Split.or ?_))
      | ((with_reducible refine Split.streq (fun _ => ?_) (fun _ => ?_)) <;> conv => whnf)
      | ((with_reducible refine Split.dec (fun _ => ?_) (fun _ => ?_)) <;> conv => whnf)
      | ((with_reducible refine Split.mk (fun _ => ?_) (fun _ => ?_)) <;> conv => whnf)
      | ((with_reducible refine NilK.mk (fun _ => ?_) ?_) <;> conv => whnf)
      | ((with_reducible refine AltK.l ?_); (conv => whnf); (with_reducible refine Need.mk ?_ ?_); (first | omega | (refine ⟨?_, ?_⟩ <;> simp <;> omega) | (simp; omega)); conv => whnf)
      | ((with_reducible refine Need.mk ?_ ?_); (first | omega | rfl | decide | (refine ⟨?_, ?_⟩ <;> simp <;> omega) | (simp; omega)); conv => whnf)
      | ((with_reducible refine Wr.quo ?_ ?_ ?_ ?_); omega; omega; omega; conv => whnf)
      | ((with_reducible refine Wr.inr ?_ ?_); (first | omega | (simp; omega)); conv => whnf)
      | ((with_reducible refine Wr.inu ?_ ?_); omega; conv => whnf)
      | ((with_reducible refine AltK.l ?_); (conv => whnf); (first | (refine CallK.mk _ (c1) ?_) | (refine CallK.mk _ (c2) ?_)); conv => whnf)
      | (exfalso; first | omega | contradiction))
    all_goals first
      | contradiction
      | rfl
  have h2 : gErr b = 0 := by omega
  rw [h2] at c2
  rw [if_neg (by simp [h2])]
  have hGa := good_of h1
  have hGb := good_of h2
  have ka := hGa.len
  have kb := hGb.len
  have hC := xv_Concat47 a.marks b.marks (by omega) (by omega)
  have hin : inM (a.marks ++ b.marks) := by
    intro m hm
    rcases List.mem_append.1 hm with hm | hm
    · have := wrongB_false (hGa.ok m hm); omega
    · have := wrongB_false (hGb.ok m hm); omega
  have hln : (a.marks ++ b.marks).length = a.marks.length + b.marks.length := List.length_append
  have hS : EvX Try.prog 13 [.own 47 2 ((a.marks ++ b.marks).map mD).length, .d (.fn 14 [])] [(47, .row 41 2 ((a.marks ++ b.marks).map mD) false)] (.tup []) [(47, .row 41 2 ((srt kM (a.marks ++ b.marks)).map mD) false)] := (xv_sortStableM (a.marks ++ b.marks) hin (by omega)).at1t (xs := [.fn 14 []]) 47
  have hok := merged_ok hGa.asc hGb.asc (fun m hm => (wrongB_false (hGa.ok m hm)).1) (fun m hm => (wrongB_false (hGb.ok m hm)).1)
  have hsl : (srt kM (a.marks ++ b.marks)).length = a.marks.length + b.marks.length := by rw [srt_len, hln]
  have hml : ((a.marks ++ b.marks).map mD).length = ((srt kM (a.marks ++ b.marks)).map mD).length := by rw [List.length_map, List.length_map, srt_len]
  rw [hml] at hC hS
  generalize hZ : srt kM (a.marks ++ b.marks) = Z at *
  by_cases h3 : a.name ≠ b.name ∨ a.x ≠ b.x ∨ a.err ≠ b.err
  · rw [if_pos h3]
    refine ev_of_awp tysOk mixed (fn := Try.f6) Try.func6 rfl rfl rfl ?_
    conv => whnf
    repeat' (first
      | ((with_reducible refine Split.of_true ?_); conv => whnf)
      | ((with_reducible refine Split.of_false ?_); conv => whnf)
      | ((with_reducible refine Split.neg ?_))
      | ((with_reducible refine Split.is_true ?_ ?_); decide; conv => whnf)
      | ((with_reducible refine Split.is_false ?_ ?_); decide; conv => whnf)
      | ((with_reducible refine Split.nez (fun _ => ?_) (fun _ => ?_)) <;> conv => whnf)
      | ((with_reducible refine Split.eqz (fun _ => ?_) (fun _ => ?_)) <;> conv => whnf)
      | ((with_reducible refine Split.and ?_))
      | ((with_reducible refine Split.or ?_))
      | ((with_reducible refine Split.streq (fun _ => ?_) (fun _ => ?_)) <;> conv => whnf)
      | ((with_reducible refine Split.dec (fun _ => ?_) (fun _ => ?_)) <;> conv => whnf)
      | ((with_reducible refine Split.mk (fun _ => ?_) (fun _ => ?_)) <;> conv => whnf)
      | ((with_reducible refine NilK.mk (fun _ => ?_) ?_) <;> conv => whnf)
      | ((with_reducible refine AltK.l ?_); (conv => whnf); (with_reducible refine Need.mk ?_ ?_); (first | omega | (refine ⟨?_, ?_⟩ <;> simp <;> omega) | (simp; omega)); conv => whnf)
      | ((with_reducible refine Need.mk ?_ ?_); (first | omega | rfl | decide | (refine ⟨?_, ?_⟩ <;> simp <;> omega) | (simp; omega)); conv => whnf)
      | ((with_reducible refine Wr.quo ?_ ?_ ?_ ?_); omega; omega; omega; conv => whnf)
      | ((with_reducible refine Wr.inr ?_ ?_); (first | omega | (simp; omega)); conv => whnf)
      | ((with_reducible refine Wr.inu ?_ ?_); omega; conv => whnf)
      | ((with_reducible refine AltK.l ?_); (conv => whnf); (first | (refine CallK.mk _ (c1) ?_) | (refine CallK.mk _ (c2) ?_)); conv => whnf)
      | (exfalso; first | omega | contradiction))
    all_goals first
      | rfl
      | (exfalso; rcases h3 with h | h | h <;> contradiction)
  rw [if_neg h3]
  have hn : a.name = b.name := Classical.byContradiction fun h => h3 (.inl h)
  have hx : a.x = b.x := Classical.byContradiction fun h => h3 (.inr (.inl h))
  have he : a.err = b.err := Classical.byContradiction fun h => h3 (.inr (.inr h))
  clear h3
  by_cases hd : cmpL Z = Z
  · rw [hd] at hok
    have hZl : (Z.map mD).length = Z.length := List.length_map _
    have hK : EvX Try.prog 15 [.own 47 2 (Z.map mD).length] [(47, .row 41 2 (Z.map mD) false)] (.own 47 2 (Z.map mD).length) [(47, .row 41 2 (Z.map mD) false)] := (xv_CompactS Z (by omega) hd).at1o (xs := []) 47
    refine ev_of_awp tysOk mixed (fn := Try.f6) Try.func6 rfl rfl rfl ?_
    conv => whnf
    repeat' (first
      | ((with_reducible refine Split.of_true ?_); conv => whnf)
      | ((with_reducible refine Split.of_false ?_); conv => whnf)
      | ((with_reducible refine Split.neg ?_))
      | ((with_reducible refine Split.is_true ?_ ?_); decide; conv => whnf)
      | ((with_reducible refine Split.is_false ?_ ?_); decide; conv => whnf)
      | ((with_reducible refine Split.nez (fun _ => ?_) (fun _ => ?_)) <;> conv => whnf)
      | ((with_reducible refine Split.eqz (fun _ => ?_) (fun _ => ?_)) <;> conv => whnf)
      | ((with_reducible refine Split.and ?_))
      | ((with_reducible refine Split.or ?_))
      | ((with_reducible refine Split.streq (fun _ => ?_) (fun _ => ?_)) <;> conv => whnf)
      | ((with_reducible refine Split.dec (fun _ => ?_) (fun _ => ?_)) <;> conv => whnf)
      | ((with_reducible refine Split.mk (fun _ => ?_) (fun _ => ?_)) <;> conv => whnf)
      | ((with_reducible refine NilK.mk (fun _ => ?_) ?_) <;> conv => whnf)
      | ((with_reducible refine AltK.l ?_); (conv => whnf); (with_reducible refine Need.mk ?_ ?_); (first | omega | (refine ⟨?_, ?_⟩ <;> simp <;> omega) | (simp; omega)); conv => whnf)
      | ((with_reducible refine Need.mk ?_ ?_); (first | omega | rfl | decide | (refine ⟨?_, ?_⟩ <;> simp <;> omega) | (simp; omega)); conv => whnf)
      | ((with_reducible refine Wr.quo ?_ ?_ ?_ ?_); omega; omega; omega; conv => whnf)
      | ((with_reducible refine Wr.inr ?_ ?_); (first | omega | (simp; omega)); conv => whnf)
      | ((with_reducible refine Wr.inu ?_ ?_); omega; conv => whnf)
      | ((with_reducible refine AltK.r ?_); (conv => whnf); (first | (refine CallX.mk _ _ (hC) rfl ?_) | (refine CallX.mk _ _ (hS) rfl ?_) | (refine CallX.mk _ _ (hK) rfl ?_)); conv => whnf)
      | ((with_reducible refine AltK.l ?_); (conv => whnf); (first | (refine CallK.mk _ (c1) ?_) | (refine CallK.mk _ (c2) ?_)); conv => whnf)
      | (exfalso; first | omega | contradiction))
    refine LoopK.o3 (fun i : Nat => 1 ≤ i ∧ ∀ j x y, j + 1 < i → Z[j]? = some x → Z[j + 1]? = some y → y.m ≠ x.m) (fun i => [(9, .d (.int .i64 i))]) (fun _ => []) (fun i => Z.length - i) 1 ⟨Nat.le_refl _, fun j _ _ h => by omega⟩ (by refine ⟨?_, ?_, rfl⟩ <;> (repeat' (first | exact True.intro | exact rfl | refine ⟨?_, ?_⟩ | (intro h; cases h; done) | (intro h; exact h) | exact map_snoc | (refine own_congr ?_; simp; done) | (refine int_congr ?_; (first | omega | (simp; omega))) | (simp; done) | (refine view_congr ?_ ?_ <;> (first | omega | (simp; done) | (simp; omega))) | ((first | refine own_congr ?_ | refine int_congr ?_ | skip); simp [D.cells]; done) | ((first | refine own_congr ?_ | refine int_congr ?_); simp [D.cells]; omega) | (show @Eq (List Go.Vm.D) _ []; simp [D.cells]; done) | (simp [D.cells, D.cells]; done))); done) ?_
    rintro i ⟨hi1, hnd⟩
    by_cases hil : i < Z.length
    · obtain ⟨y, hy⟩ := some_of_lt hil
      obtain ⟨x, hxx⟩ := some_of_lt (show i - 1 < Z.length by omega)
      by_cases hyx : y.m = x.m
      · have hm : mref a.marks b.marks = none := by
          cases hm : mref a.marks b.marks with
          | none => rfl
          | some M =>
            rw [hm] at hok
            obtain ⟨rfl, hd2⟩ := hok
            exact absurd hyx (dup_none hd2 (i - 1) x y hxx (by rw [show i - 1 + 1 = i by omega]; exact hy))
        rw [hm]
        conv => whnf
        repeat' (first
          | ((refine PickE.map (i - 1) hxx (by omega) ?_); conv => whnf)
          | ((refine PickE.map i hy (by omega) ?_); conv => whnf)
          | ((with_reducible refine Split.of_true ?_); conv => whnf)
          | ((with_reducible refine Split.of_false ?_); conv => whnf)
          | ((with_reducible refine Split.neg ?_))
          | ((with_reducible refine Split.is_true ?_ ?_); decide; conv => whnf)
          | ((with_reducible refine Split.is_false ?_ ?_); decide; conv => whnf)
          | ((with_reducible refine Split.nez (fun _ => ?_) (fun _ => ?_)) <;> conv => whnf)
          | ((with_reducible refine Split.eqz (fun _ => ?_) (fun _ => ?_)) <;> conv => whnf)
          | ((with_reducible refine Split.and ?_))
          | ((with_reducible refine Split.or ?_))
          | ((with_reducible refine Split.streq (fun _ => ?_) (fun _ => ?_)) <;> conv => whnf)
          | ((with_reducible refine Split.dec (fun _ => ?_) (fun _ => ?_)) <;> conv => whnf)
          | ((with_reducible refine Split.mk (fun _ => ?_) (fun _ => ?_)) <;> conv => whnf)
          | ((with_reducible refine NilK.mk (fun _ => ?_) ?_) <;> conv => whnf)
          | ((with_reducible refine Need.mk ?_ ?_); (first | omega | rfl | decide | (refine ⟨?_, ?_⟩ <;> simp <;> omega) | (simp; omega)); conv => whnf)
          | ((with_reducible refine Wr.quo ?_ ?_ ?_ ?_); omega; omega; omega; conv => whnf)
          | ((with_reducible refine Wr.inr ?_ ?_); (first | omega | (simp; omega)); conv => whnf)
          | ((with_reducible refine Wr.inu ?_ ?_); omega; conv => whnf)
          | (exfalso; first | omega | contradiction))
        all_goals first
          | contradiction
          | (exfalso; omega)
          | rfl
      · conv => whnf
        repeat' (first
          | ((refine PickE.map (i - 1) hxx (by omega) ?_); conv => whnf)
          | ((refine PickE.map i hy (by omega) ?_); conv => whnf)
          | ((with_reducible refine Split.of_true ?_); conv => whnf)
          | ((with_reducible refine Split.of_false ?_); conv => whnf)
          | ((with_reducible refine Split.neg ?_))
          | ((with_reducible refine Split.is_true ?_ ?_); decide; conv => whnf)
          | ((with_reducible refine Split.is_false ?_ ?_); decide; conv => whnf)
          | ((with_reducible refine Split.nez (fun _ => ?_) (fun _ => ?_)) <;> conv => whnf)
          | ((with_reducible refine Split.eqz (fun _ => ?_) (fun _ => ?_)) <;> conv => whnf)
          | ((with_reducible refine Split.and ?_))
          | ((with_reducible refine Split.or ?_))
          | ((with_reducible refine Split.streq (fun _ => ?_) (fun _ => ?_)) <;> conv => whnf)
          | ((with_reducible refine Split.dec (fun _ => ?_) (fun _ => ?_)) <;> conv => whnf)
          | ((with_reducible refine Split.mk (fun _ => ?_) (fun _ => ?_)) <;> conv => whnf)
          | ((with_reducible refine NilK.mk (fun _ => ?_) ?_) <;> conv => whnf)
          | ((with_reducible refine Need.mk ?_ ?_); (first | omega | rfl | decide | (refine ⟨?_, ?_⟩ <;> simp <;> omega) | (simp; omega)); conv => whnf)
          | ((with_reducible refine Wr.quo ?_ ?_ ?_ ?_); omega; omega; omega; conv => whnf)
          | ((with_reducible refine Wr.inr ?_ ?_); (first | omega | (simp; omega)); conv => whnf)
          | ((with_reducible refine Wr.inu ?_ ?_); omega; conv => whnf)
          | (exfalso; first | omega | contradiction))
        all_goals first
          | contradiction
          | (exfalso; omega)
          | skip
        all_goals exact Again.av (i + 1) ⟨by omega, fun j x' y' hj hx' hy' => by
          by_cases hji : j + 1 < i
          · exact hnd j x' y' hji hx' hy'
          · obtain rfl : j = i - 1 := by omega
            rw [show i - 1 + 1 = i by omega, hy] at hy'
            rw [hxx] at hx'
            cases hx'; cases hy'; exact hyx⟩ (by omega) (by refine ⟨?_, ?_, rfl⟩ <;> (repeat' (first | exact True.intro | exact rfl | refine ⟨?_, ?_⟩ | (intro h; cases h; done) | (intro h; exact h) | exact map_snoc | (refine own_congr ?_; simp; done) | (refine int_congr ?_; (first | omega | (simp; omega))) | (simp; done) | (refine view_congr ?_ ?_ <;> (first | omega | (simp; done) | (simp; omega))) | ((first | refine own_congr ?_ | refine int_congr ?_ | skip); simp [D.cells]; done) | ((first | refine own_congr ?_ | refine int_congr ?_); simp [D.cells]; omega) | (show @Eq (List Go.Vm.D) _ []; simp [D.cells]; done) | (simp [D.cells, D.cells]; done))); done)
    · have hdf : dupL Z = false := by
        cases hdd : dupL Z with
        | false => rfl
        | true =>
          obtain ⟨j, x, y, g1, g2, g3⟩ := dup_some hdd
          have := lt_of_some g2
          exact absurd g3 (hnd j x y (by omega) g1 g2)
      have hm : mref a.marks b.marks = some Z := by
        cases hm : mref a.marks b.marks with
        | none => rw [hm] at hok; rw [show dupL Z = true from hok] at hdf; cases hdf
        | some M => rw [hm] at hok; rw [show Z = M from hok.1]
      rw [hm]
      dsimp only
      by_cases hL : 400 < Z.length
      · rw [if_pos hL]
        conv => whnf
        repeat' (first
          | ((with_reducible refine Split.of_true ?_); conv => whnf)
          | ((with_reducible refine Split.of_false ?_); conv => whnf)
          | ((with_reducible refine Split.neg ?_))
          | ((with_reducible refine Split.is_true ?_ ?_); decide; conv => whnf)
          | ((with_reducible refine Split.is_false ?_ ?_); decide; conv => whnf)
          | ((with_reducible refine Split.nez (fun _ => ?_) (fun _ => ?_)) <;> conv => whnf)
          | ((with_reducible refine Split.eqz (fun _ => ?_) (fun _ => ?_)) <;> conv => whnf)
          | ((with_reducible refine Split.and ?_))
          | ((with_reducible refine Split.or ?_))
          | ((with_reducible refine Split.streq (fun _ => ?_) (fun _ => ?_)) <;> conv => whnf)
          | ((with_reducible refine Split.dec (fun _ => ?_) (fun _ => ?_)) <;> conv => whnf)
          | ((with_reducible refine Split.mk (fun _ => ?_) (fun _ => ?_)) <;> conv => whnf)
          | ((with_reducible refine NilK.mk (fun _ => ?_) ?_) <;> conv => whnf)
          | ((with_reducible refine AltK.l ?_); (conv => whnf); (with_reducible refine Need.mk ?_ ?_); (first | omega | (refine ⟨?_, ?_⟩ <;> simp <;> omega) | (simp; omega)); conv => whnf)
          | ((with_reducible refine Need.mk ?_ ?_); (first | omega | rfl | decide | (refine ⟨?_, ?_⟩ <;> simp <;> omega) | (simp; omega)); conv => whnf)
          | ((with_reducible refine Wr.quo ?_ ?_ ?_ ?_); omega; omega; omega; conv => whnf)
          | ((with_reducible refine Wr.inr ?_ ?_); (first | omega | (simp; omega)); conv => whnf)
          | ((with_reducible refine Wr.inu ?_ ?_); omega; conv => whnf)
          | (exfalso; first | omega | contradiction))
        all_goals first
          | (exfalso; omega)
          | rfl
      rw [if_neg hL]
      conv => whnf
      repeat' (first
        | ((with_reducible refine Split.of_true ?_); conv => whnf)
        | ((with_reducible refine Split.of_false ?_); conv => whnf)
        | ((with_reducible refine Split.neg ?_))
        | ((with_reducible refine Split.is_true ?_ ?_); decide; conv => whnf)
        | ((with_reducible refine Split.is_false ?_ ?_); decide; conv => whnf)
        | ((with_reducible refine Split.nez (fun _ => ?_) (fun _ => ?_)) <;> conv => whnf)
        | ((with_reducible refine Split.eqz (fun _ => ?_) (fun _ => ?_)) <;> conv => whnf)
        | ((with_reducible refine Split.and ?_))
        | ((with_reducible refine Split.or ?_))
        | ((with_reducible refine Split.streq (fun _ => ?_) (fun _ => ?_)) <;> conv => whnf)
        | ((with_reducible refine Split.dec (fun _ => ?_) (fun _ => ?_)) <;> conv => whnf)
        | ((with_reducible refine Split.mk (fun _ => ?_) (fun _ => ?_)) <;> conv => whnf)
        | ((with_reducible refine NilK.mk (fun _ => ?_) ?_) <;> conv => whnf)
        | ((with_reducible refine AltK.l ?_); (conv => whnf); (with_reducible refine Need.mk ?_ ?_); (first | omega | (refine ⟨?_, ?_⟩ <;> simp <;> omega) | (simp; omega)); conv => whnf)
        | ((with_reducible refine Need.mk ?_ ?_); (first | omega | rfl | decide | (refine ⟨?_, ?_⟩ <;> simp <;> omega) | (simp; omega)); conv => whnf)
        | ((with_reducible refine Wr.quo ?_ ?_ ?_ ?_); omega; omega; omega; conv => whnf)
        | ((with_reducible refine Wr.inr ?_ ?_); (first | omega | (simp; omega)); conv => whnf)
        | ((with_reducible refine Wr.inu ?_ ?_); omega; conv => whnf)
        | ((with_reducible refine AltK.l ?_); (conv => whnf); (first | (refine CallK.mk _ (ev_with a Z) ?_)); conv => whnf)
        | (exfalso; first | omega | contradiction))
      all_goals first
        | (exfalso; omega)
        | rfl
  · have hK : EvX Try.prog 15 [.own 47 2 (Z.map mD).length] [(47, .row 41 2 (Z.map mD) false)] (.own 51 2 ((cmpL Z).map mD).length) [(47, .gone), (51, .row 41 2 ((cmpL Z).map mD) false)] := (xv_CompactM Z (by omega) hd).turn1 (xs := []) 47 51 rfl
    have hTl : (cmpL Z).length ≤ 800 := by
      match Z, hsl with
      | [], _ => simp [cmpL]
      | z :: Z, h => have := cmpG_len (l := Z) (p := z); simp only [cmpL, List.length_cons] at this h ⊢; omega
    generalize cmpL Z = T at *
    have hZl : (T.map mD).length = T.length := List.length_map _
    refine ev_of_awp tysOk mixed (fn := Try.f6) Try.func6 rfl rfl rfl ?_
    conv => whnf
    repeat' (first
      | ((with_reducible refine Split.of_true ?_); conv => whnf)
      | ((with_reducible refine Split.of_false ?_); conv => whnf)
      | ((with_reducible refine Split.neg ?_))
      | ((with_reducible refine Split.is_true ?_ ?_); decide; conv => whnf)
      | ((with_reducible refine Split.is_false ?_ ?_); decide; conv => whnf)
      | ((with_reducible refine Split.nez (fun _ => ?_) (fun _ => ?_)) <;> conv => whnf)
      | ((with_reducible refine Split.eqz (fun _ => ?_) (fun _ => ?_)) <;> conv => whnf)
      | ((with_reducible refine Split.and ?_))
      | ((with_reducible refine Split.or ?_))
      | ((with_reducible refine Split.streq (fun _ => ?_) (fun _ => ?_)) <;> conv => whnf)
      | ((with_reducible refine Split.dec (fun _ => ?_) (fun _ => ?_)) <;> conv => whnf)
      | ((with_reducible refine Split.mk (fun _ => ?_) (fun _ => ?_)) <;> conv => whnf)
      | ((with_reducible refine NilK.mk (fun _ => ?_) ?_) <;> conv => whnf)
      | ((with_reducible refine AltK.l ?_); (conv => whnf); (with_reducible refine Need.mk ?_ ?_); (first | omega | (refine ⟨?_, ?_⟩ <;> simp <;> omega) | (simp; omega)); conv => whnf)
      | ((with_reducible refine Need.mk ?_ ?_); (first | omega | rfl | decide | (refine ⟨?_, ?_⟩ <;> simp <;> omega) | (simp; omega)); conv => whnf)
      | ((with_reducible refine Wr.quo ?_ ?_ ?_ ?_); omega; omega; omega; conv => whnf)
      | ((with_reducible refine Wr.inr ?_ ?_); (first | omega | (simp; omega)); conv => whnf)
      | ((with_reducible refine Wr.inu ?_ ?_); omega; conv => whnf)
      | ((with_reducible refine AltK.r ?_); (conv => whnf); (first | (refine CallX.mk _ _ (hC) rfl ?_) | (refine CallX.mk _ _ (hS) rfl ?_) | (refine CallX.mk _ _ (hK) rfl ?_)); conv => whnf)
      | ((with_reducible refine AltK.l ?_); (conv => whnf); (first | (refine CallK.mk _ (c1) ?_) | (refine CallK.mk _ (c2) ?_)); conv => whnf)
      | (exfalso; first | omega | contradiction))
    refine LoopK.o3 (fun i : Nat => 1 ≤ i ∧ ∀ j x y, j + 1 < i → T[j]? = some x → T[j + 1]? = some y → y.m ≠ x.m) (fun i => [(9, .d (.int .i64 i))]) (fun _ => []) (fun i => T.length - i) 1 ⟨Nat.le_refl _, fun j _ _ h => by omega⟩ (by refine ⟨?_, ?_, rfl⟩ <;> (repeat' (first | exact True.intro | exact rfl | refine ⟨?_, ?_⟩ | (intro h; cases h; done) | (intro h; exact h) | exact map_snoc | (refine own_congr ?_; simp; done) | (refine int_congr ?_; (first | omega | (simp; omega))) | (simp; done) | (refine view_congr ?_ ?_ <;> (first | omega | (simp; done) | (simp; omega))) | ((first | refine own_congr ?_ | refine int_congr ?_ | skip); simp [D.cells]; done) | ((first | refine own_congr ?_ | refine int_congr ?_); simp [D.cells]; omega) | (show @Eq (List Go.Vm.D) _ []; simp [D.cells]; done) | (simp [D.cells, D.cells]; done))); done) ?_
    rintro i ⟨hi1, hnd⟩
    by_cases hil : i < T.length
    · obtain ⟨y, hy⟩ := some_of_lt hil
      obtain ⟨x, hxx⟩ := some_of_lt (show i - 1 < T.length by omega)
      by_cases hyx : y.m = x.m
      · have hm : mref a.marks b.marks = none := by
          cases hm : mref a.marks b.marks with
          | none => rfl
          | some M =>
            rw [hm] at hok
            obtain ⟨rfl, hd2⟩ := hok
            exact absurd hyx (dup_none hd2 (i - 1) x y hxx (by rw [show i - 1 + 1 = i by omega]; exact hy))
        rw [hm]
        conv => whnf
        repeat' (first
          | ((refine PickE.map (i - 1) hxx (by omega) ?_); conv => whnf)
          | ((refine PickE.map i hy (by omega) ?_); conv => whnf)
          | ((with_reducible refine Split.of_true ?_); conv => whnf)
          | ((with_reducible refine Split.of_false ?_); conv => whnf)
          | ((with_reducible refine Split.neg ?_))
          | ((with_reducible refine Split.is_true ?_ ?_); decide; conv => whnf)
          | ((with_reducible refine Split.is_false ?_ ?_); decide; conv => whnf)
          | ((with_reducible refine Split.nez (fun _ => ?_) (fun _ => ?_)) <;> conv => whnf)
          | ((with_reducible refine Split.eqz (fun _ => ?_) (fun _ => ?_)) <;> conv => whnf)
          | ((with_reducible refine Split.and ?_))
          | ((with_reducible refine Split.or ?_))
          | ((with_reducible refine Split.streq (fun _ => ?_) (fun _ => ?_)) <;> conv => whnf)
          | ((with_reducible refine Split.dec (fun _ => ?_) (fun _ => ?_)) <;> conv => whnf)
          | ((with_reducible refine Split.mk (fun _ => ?_) (fun _ => ?_)) <;> conv => whnf)
          | ((with_reducible refine NilK.mk (fun _ => ?_) ?_) <;> conv => whnf)
          | ((with_reducible refine Need.mk ?_ ?_); (first | omega | rfl | decide | (refine ⟨?_, ?_⟩ <;> simp <;> omega) | (simp; omega)); conv => whnf)
          | ((with_reducible refine Wr.quo ?_ ?_ ?_ ?_); omega; omega; omega; conv => whnf)
          | ((with_reducible refine Wr.inr ?_ ?_); (first | omega | (simp; omega)); conv => whnf)
          | ((with_reducible refine Wr.inu ?_ ?_); omega; conv => whnf)
          | (exfalso; first | omega | contradiction))
        all_goals first
          | contradiction
          | (exfalso; omega)
          | rfl
      · conv => whnf
        repeat' (first
          | ((refine PickE.map (i - 1) hxx (by omega) ?_); conv => whnf)
          | ((refine PickE.map i hy (by omega) ?_); conv => whnf)
          | ((with_reducible refine Split.of_true ?_); conv => whnf)
          | ((with_reducible refine Split.of_false ?_); conv => whnf)
          | ((with_reducible refine Split.neg ?_))
          | ((with_reducible refine Split.is_true ?_ ?_); decide; conv => whnf)
          | ((with_reducible refine Split.is_false ?_ ?_); decide; conv => whnf)
          | ((with_reducible refine Split.nez (fun _ => ?_) (fun _ => ?_)) <;> conv => whnf)
          | ((with_reducible refine Split.eqz (fun _ => ?_) (fun _ => ?_)) <;> conv => whnf)
          | ((with_reducible refine Split.and ?_))
          | ((with_reducible refine Split.or ?_))
          | ((with_reducible refine Split.streq (fun _ => ?_) (fun _ => ?_)) <;> conv => whnf)
          | ((with_reducible refine Split.dec (fun _ => ?_) (fun _ => ?_)) <;> conv => whnf)
          | ((with_reducible refine Split.mk (fun _ => ?_) (fun _ => ?_)) <;> conv => whnf)
          | ((with_reducible refine NilK.mk (fun _ => ?_) ?_) <;> conv => whnf)
          | ((with_reducible refine Need.mk ?_ ?_); (first | omega | rfl | decide | (refine ⟨?_, ?_⟩ <;> simp <;> omega) | (simp; omega)); conv => whnf)
          | ((with_reducible refine Wr.quo ?_ ?_ ?_ ?_); omega; omega; omega; conv => whnf)
          | ((with_reducible refine Wr.inr ?_ ?_); (first | omega | (simp; omega)); conv => whnf)
          | ((with_reducible refine Wr.inu ?_ ?_); omega; conv => whnf)
          | (exfalso; first | omega | contradiction))
        all_goals first
          | contradiction
          | (exfalso; omega)
          | skip
        all_goals exact Again.av (i + 1) ⟨by omega, fun j x' y' hj hx' hy' => by
          by_cases hji : j + 1 < i
          · exact hnd j x' y' hji hx' hy'
          · obtain rfl : j = i - 1 := by omega
            rw [show i - 1 + 1 = i by omega, hy] at hy'
            rw [hxx] at hx'
            cases hx'; cases hy'; exact hyx⟩ (by omega) (by refine ⟨?_, ?_, rfl⟩ <;> (repeat' (first | exact True.intro | exact rfl | refine ⟨?_, ?_⟩ | (intro h; cases h; done) | (intro h; exact h) | exact map_snoc | (refine own_congr ?_; simp; done) | (refine int_congr ?_; (first | omega | (simp; omega))) | (simp; done) | (refine view_congr ?_ ?_ <;> (first | omega | (simp; done) | (simp; omega))) | ((first | refine own_congr ?_ | refine int_congr ?_ | skip); simp [D.cells]; done) | ((first | refine own_congr ?_ | refine int_congr ?_); simp [D.cells]; omega) | (show @Eq (List Go.Vm.D) _ []; simp [D.cells]; done) | (simp [D.cells, D.cells]; done))); done)
    · have hdf : dupL T = false := by
        cases hdd : dupL T with
        | false => rfl
        | true =>
          obtain ⟨j, x, y, g1, g2, g3⟩ := dup_some hdd
          have := lt_of_some g2
          exact absurd g3 (hnd j x y (by omega) g1 g2)
      have hm : mref a.marks b.marks = some T := by
        cases hm : mref a.marks b.marks with
        | none => rw [hm] at hok; rw [show dupL T = true from hok] at hdf; cases hdf
        | some M => rw [hm] at hok; rw [show T = M from hok.1]
      rw [hm]
      dsimp only
      by_cases hL : 400 < T.length
      · rw [if_pos hL]
        conv => whnf
        repeat' (first
          | ((with_reducible refine Split.of_true ?_); conv => whnf)
          | ((with_reducible refine Split.of_false ?_); conv => whnf)
          | ((with_reducible refine Split.neg ?_))
          | ((with_reducible refine Split.is_true ?_ ?_); decide; conv => whnf)
          | ((with_reducible refine Split.is_false ?_ ?_); decide; conv => whnf)
          | ((with_reducible refine Split.nez (fun _ => ?_) (fun _ => ?_)) <;> conv => whnf)
          | ((with_reducible refine Split.eqz (fun _ => ?_) (fun _ => ?_)) <;> conv => whnf)
          | ((with_reducible refine Split.and ?_))
          | ((with_reducible refine Split.or ?_))
          | ((with_reducible refine Split.streq (fun _ => ?_) (fun _ => ?_)) <;> conv => whnf)
          | ((with_reducible refine Split.dec (fun _ => ?_) (fun _ => ?_)) <;> conv => whnf)
          | ((with_reducible refine Split.mk (fun _ => ?_) (fun _ => ?_)) <;> conv => whnf)
          | ((with_reducible refine NilK.mk (fun _ => ?_) ?_) <;> conv => whnf)
          | ((with_reducible refine AltK.l ?_); (conv => whnf); (with_reducible refine Need.mk ?_ ?_); (first | omega | (refine ⟨?_, ?_⟩ <;> simp <;> omega) | (simp; omega)); conv => whnf)
          | ((with_reducible refine Need.mk ?_ ?_); (first | omega | rfl | decide | (refine ⟨?_, ?_⟩ <;> simp <;> omega) | (simp; omega)); conv => whnf)
          | ((with_reducible refine Wr.quo ?_ ?_ ?_ ?_); omega; omega; omega; conv => whnf)
          | ((with_reducible refine Wr.inr ?_ ?_); (first | omega | (simp; omega)); conv => whnf)
          | ((with_reducible refine Wr.inu ?_ ?_); omega; conv => whnf)
          | (exfalso; first | omega | contradiction))
        all_goals first
          | (exfalso; omega)
          | rfl
      rw [if_neg hL]
      conv => whnf
      repeat' (first
        | ((with_reducible refine Split.of_true ?_); conv => whnf)
        | ((with_reducible refine Split.of_false ?_); conv => whnf)
        | ((with_reducible refine Split.neg ?_))
        | ((with_reducible refine Split.is_true ?_ ?_); decide; conv => whnf)
        | ((with_reducible refine Split.is_false ?_ ?_); decide; conv => whnf)
        | ((with_reducible refine Split.nez (fun _ => ?_) (fun _ => ?_)) <;> conv => whnf)
        | ((with_reducible refine Split.eqz (fun _ => ?_) (fun _ => ?_)) <;> conv => whnf)
        | ((with_reducible refine Split.and ?_))
        | ((with_reducible refine Split.or ?_))
        | ((with_reducible refine Split.streq (fun _ => ?_) (fun _ => ?_)) <;> conv => whnf)
        | ((with_reducible refine Split.dec (fun _ => ?_) (fun _ => ?_)) <;> conv => whnf)
        | ((with_reducible refine Split.mk (fun _ => ?_) (fun _ => ?_)) <;> conv => whnf)
        | ((with_reducible refine NilK.mk (fun _ => ?_) ?_) <;> conv => whnf)
        | ((with_reducible refine AltK.l ?_); (conv => whnf); (with_reducible refine Need.mk ?_ ?_); (first | omega | (refine ⟨?_, ?_⟩ <;> simp <;> omega) | (simp; omega)); conv => whnf)
        | ((with_reducible refine Need.mk ?_ ?_); (first | omega | rfl | decide | (refine ⟨?_, ?_⟩ <;> simp <;> omega) | (simp; omega)); conv => whnf)
        | ((with_reducible refine Wr.quo ?_ ?_ ?_ ?_); omega; omega; omega; conv => whnf)
        | ((with_reducible refine Wr.inr ?_ ?_); (first | omega | (simp; omega)); conv => whnf)
        | ((with_reducible refine Wr.inu ?_ ?_); omega; conv => whnf)
        | ((with_reducible refine AltK.l ?_); (conv => whnf); (first | (refine CallK.mk _ (ev_with a T) ?_)); conv => whnf)
        | (exfalso; first | omega | contradiction))
      all_goals first
        | (exfalso; omega)
        | rfl
end Go.Proofs.Try
