/- Texts SdJ SdP TwZ SdK SdQ SdHm SdO SdZ SdR SdM SdN SdU SdV SdY LyM SdF SdFb SdS, joined; what is not needed is left out. -/
import Derived.Test.YtkkngciaphfifaaGreatMpc
import Derived.Test.YtkkngciaphfifaaGreatMgI
import Derived.Test.YtkkngciaphfifaaGreatMpa
import Derived.Test.YtkkngciaphfifaaGreatMgJ
import Derived.Test.YtkkngciaphfifaaGreatProg
import Derived.Shelf.Lays
section
namespace Go.Proofs.Tryz
open Go Go.Vm Go.Sort
set_option maxRecDepth 20000
set_option maxHeartbeats 2000000
def gdD (p : Int × Int) : D := .agg [iD p.1, iD p.2]
theorem xv_SortG (l : List (Int × Int)) (hu : l.Pairwise fun a b => a.1 ≠ b.1) (hl : l.length ≤ 500) : EvX Tryz.prog 85 [.own 1000 2 (l.map gdD).length, .d (.fn 86 [])] [(1000, .row 127 2 (l.map gdD) false)] (.tup []) [(1000, .row 127 2 ((sortL (fun a b => cmpI a.1 b.1) l).map gdD) false)] := by
  have h := EvX.sortFunc ly_LyG gdD 2 (fun w => isAgg127 w) (fun w => sizeOf127 w) (fun _ => rfl) (fun x c hc => by
    simp only [gdD, D.cells, List.mem_cons, List.mem_nil_iff, or_false] at hc
    rcases hc with rfl | rfl <;> rfl) (fun x => ⟨_, rfl⟩) (fun a b => cmpI a.1 b.1) ⟨fun x => by simp only [cmpI_neg, decide_eq_false_iff_not]; omega, fun x y z => by simp only [cmpI_neg, decide_eq_true_eq]; omega, fun x y z => by simp only [cmpI_neg, decide_eq_false_iff_not]; omega⟩
    86 [] l (fun x hx y hy h1 h2 => by
      have e : x.1 = y.1 := by rw [cmpI_neg] at h1 h2; omega
      obtain ⟨i, hi, rfl⟩ := List.getElem_of_mem hx
      obtain ⟨j, hj, rfl⟩ := List.getElem_of_mem hy
      rcases Nat.lt_trichotomy i j with h3 | h3 | h3
      · exact absurd e (List.pairwise_iff_getElem.1 hu i j hi hj h3)
      · subst h3; rfl
      · exact absurd e.symm (List.pairwise_iff_getElem.1 hu j i hj hi h3)) (fun x _ y _ => ev_Thin3 x y) (by omega) 1000
  rw [List.length_map]
  exact h
theorem xv_SortI (l : List Int) (hl : l.length ≤ 500) : EvX Tryz.prog 84 [.own 1000 1 (l.map iD).length] [(1000, .row 3 1 (l.map iD) false)] (.tup []) [(1000, .row 3 1 ((sortZ l).map iD) false)] := by
  have h := EvX.sortInts ly_LyI 3 l (by omega) 1000
  rw [List.length_map]
  exact h
theorem ev_SortThin0 : Ev Tryz.prog 77 [.sl 5 [], .fn 78 []] (.tup []) := Ev.sortNone ly_LyS 5 _ _
theorem ev_SortG0 : Ev Tryz.prog 85 [.sl 2 [], .fn 86 []] (.tup []) := Ev.sortNone ly_LyG 2 _ _
theorem ev_SortI0 : Ev Tryz.prog 84 [.sl 1 []] (.tup []) := Ev.sortIntsNone ly_LyI
/-- One sounding more of a thinning: what is kept, and the guards. -/
def thinStep (r : Int) (st : List Sg × List (Int × Int)) (s : Sg) : List Sg × List (Int × Int) := match st.1.find? fun k => decide (sqS k s.x s.y ≤ r * r) with
  | none => (st.1 ++ [s], st.2)
  | some k => (st.1, st.2 ++ [(s.n, k.n)])
def thinO (r : Int) (o : List Sg) : List Sg × List (Int × Int) := o.foldl (thinStep r) ([], [])
def thinRes (l : List Sg) (r : Int) : List Int × List (Int × Int) × Int := if chkErr sgB Sg.n l ≠ 0 then ([], [], chkErr sgB Sg.n l) else if radB r ≠ 0 then ([], [], radB r) else
  (sortZ ((thinO r (sortL cfThin l)).1.map Sg.n), sortL (fun a b => cmpI a.1 b.1) (thinO r (sortL cfThin l)).2, 0)
def thD (k : List Int) (g : List (Int × Int)) : D := .agg [.sl 1 (k.map iD), .sl 2 (g.map gdD)]
def thE (x : List Int × List (Int × Int) × Int) : D := .tup [thD x.1 x.2.1, .int .i64 x.2.2]
theorem thinO_snoc (r : Int) {o : List Sg} {i : Nat} {s : Sg} (h : o[i]? = some s) : thinO r (o.take (i + 1)) = thinStep r (thinO r (o.take i)) s := by
  rw [thinO, take_snoc h, List.foldl_append]; rfl
theorem thinO_app (r : Int) (o : List Sg) (s : Sg) : thinO r (o ++ [s]) = thinStep r (thinO r o) s := by
  rw [thinO, List.foldl_append]; rfl
theorem list_snoc {α : Type} {P : List α → Prop} (h0 : P []) (h1 : ∀ l a, P l → P (l ++ [a])) (l : List α) : P l := by
  induction hn : l.length generalizing l with
  | zero => rw [List.eq_nil_of_length_eq_zero hn]; exact h0
  | succ n ih =>
    rcases nil_or_snoc l with rfl | ⟨r, a, rfl⟩
    · exact h0
    · exact h1 r a (ih r (by simpa using hn))
theorem thinO_sub (r : Int) (o : List Sg) : ∀ k ∈ (thinO r o).1, k ∈ o := by
  refine list_snoc (P := fun o => ∀ k ∈ (thinO r o).1, k ∈ o) (fun k h => (by cases h)) (fun o s ih k hk => ?_) o
  rw [thinO_app, thinStep] at hk
  rw [List.mem_append]
  split at hk
  · rcases List.mem_append.1 hk with h | h
    · exact .inl (ih k h)
    · exact .inr h
  · exact .inl (ih k hk)
theorem thinO_len (r : Int) (o : List Sg) : (thinO r o).1.length + (thinO r o).2.length = o.length := by
  refine list_snoc (P := fun o => (thinO r o).1.length + (thinO r o).2.length = o.length) rfl (fun o s ih => ?_) o
  rw [thinO_app, thinStep]
  split <;> simp <;> omega
theorem rad_bd {r : Int} (h : radB r = 0) : 0 ≤ r ∧ r ≤ 2000000 := by
  unfold radB outsideB at h
  split at h
  · cases h
  · rename_i h1; simp at h1; omega
theorem sg_place {s : Sg} (h : sgB s = true) : -1000000 ≤ s.x ∧ s.x ≤ 1000000 ∧ -1000000 ≤ s.y ∧ s.y ≤ 1000000 := by
  simp only [sgB, outsideB, Bool.and_eq_true, Bool.not_eq_true', Bool.or_eq_false_iff, decide_eq_false_iff_not] at h
  omega
theorem thinO_fst (r : Int) (o : List Sg) : ∀ p ∈ (thinO r o).2, ∃ s ∈ o, p.1 = s.n := by
  refine list_snoc (P := fun o => ∀ p ∈ (thinO r o).2, ∃ s ∈ o, p.1 = s.n) (fun k h => (by cases h)) (fun o s ih p hp => ?_) o
  rw [thinO_app, thinStep] at hp
  split at hp
  · obtain ⟨t, h1, h2⟩ := ih p hp; exact ⟨t, List.mem_append_left _ h1, h2⟩
  · rcases List.mem_append.1 hp with hp | hp
    · obtain ⟨t, h1, h2⟩ := ih p hp; exact ⟨t, List.mem_append_left _ h1, h2⟩
    · rw [List.mem_singleton.1 hp]; exact ⟨s, by simp, rfl⟩
theorem thinO_pairs (r : Int) (o : List Sg) : NoTwo o → (thinO r o).2.Pairwise fun a b => a.1 ≠ b.1 := by
  refine list_snoc (P := fun o => NoTwo o → (thinO r o).2.Pairwise fun a b => a.1 ≠ b.1) (fun _ => .nil) (fun o s ih hu => ?_) o
  obtain ⟨h1, _, h2⟩ := List.pairwise_append.1 hu
  rw [thinO_app, thinStep]
  split
  · exact ih h1
  · refine List.pairwise_append.2 ⟨ih h1, by simp, fun p hp q hq => ?_⟩
    rw [List.mem_singleton.1 hq]
    obtain ⟨t, h3, h4⟩ := thinO_fst r o p hp
    rw [h4]; exact h2 t h3 s (by simp)
theorem thin_pairs (r : Int) {l : List Sg} (hu : NoTwo l) : (thinO r (sortL cfThin l)).2.Pairwise fun a b => a.1 ≠ b.1 :=
  thinO_pairs r _ ((sortL_perm cfThin l).symm.pairwise hu fun h e => h e.symm)
theorem thinStep_none {r : Int} {kp : List Sg} {gs : List (Int × Int)} {s : Sg} (h : kp.findIdx? (fun k => decide (sqS k s.x s.y ≤ r * r)) = none) : thinStep r (kp, gs) s = (kp ++ [s], gs) := by
  have : kp.find? (fun k => decide (sqS k s.x s.y ≤ r * r)) = none := by
    rw [List.find?_eq_none]
    intro x hx
    rw [List.findIdx?_eq_none_iff.1 h x hx]; decide
  rw [thinStep]; simp only [this]
theorem thinStep_some {r : Int} {kp : List Sg} {gs : List (Int × Int)} {s : Sg} {j : Nat} (h : kp.findIdx? (fun k => decide (sqS k s.x s.y ≤ r * r)) = some j) : ∃ k, kp[j]? = some k ∧ thinStep r (kp, gs) s = (kp, gs ++ [(s.n, k.n)]) := by
  obtain ⟨h1, h2, h3⟩ := List.findIdx?_eq_some_iff_getElem.1 h
  refine ⟨kp[j], List.getElem?_eq_getElem h1, ?_⟩
  have : kp.find? (fun k => decide (sqS k s.x s.y ≤ r * r)) = some kp[j] := by
    rw [List.find?_eq_some_iff_getElem]
    exact ⟨h2, j, h1, rfl, fun i hi => by simpa using h3 i hi⟩
  rw [thinStep]; simp only [this]
theorem ev_Thin (l : List Sg) (r : Int) : Ev Tryz.prog 30 [.sl 5 (l.map sgD), iD r] (thE (thinRes l r)) := by
  have hlen : (l.map sgD).length = l.length := List.length_map _
  have h1 := ev_CheckS l
  have h2 := ev_checkRadius r
  by_cases c0 : chkErr sgB Sg.n l = 0
  · rw [thinRes, if_neg (by simpa using c0)]
    rw [c0] at h1
    by_cases r0 : radB r = 0
    · rw [if_neg (by simpa using r0)]
      rw [r0] at h2
      obtain ⟨hl5, hall, hu⟩ := chk_zero c0
      by_cases hn : l = []
      · subst hn
        refine ev_of_awp tysOk mixed (fn := Tryz.f30) Tryz.func30 rfl rfl rfl ?_
        conv => whnf
        repeat' (first
          | ((refine LoopK.unr 1 ?_); conv => whnf)
          | ((with_reducible refine Split.of_true ?_); conv => whnf)
          | ((with_reducible refine Split.of_false ?_); conv => whnf)
          | ((with_reducible refine Split.neg ?_))
          | ((with_reducible refine Split.is_true ?_ ?_); decide; conv => whnf)
          | ((with_reducible refine Split.is_false ?_ ?_); decide; conv => whnf)
          | ((with_reducible refine Split.nez (fun _ => ?_) (fun _ => ?_)) <;> conv => whnf)
          | ((with_reducible refine Split.eqz (fun _ => ?_) (fun _ => ?_)) <;> conv => whnf)
          | ((with_reducible refine Split.and ?_))
          | ((with_reducible refine Split.or ?_))
          | ((with_reducible refine Split.streq (fun _ => ?_) (fun _ => ?_)) <;> conv => whnf)
          | ((with_reducible refine Split.dec (fun _ => ?_) (fun _ => ?_)) <;> conv => whnf)
          | ((with_reducible refine Split.mk (fun _ => ?_) (fun _ => ?_)) <;> conv => whnf)
          | ((with_reducible refine NilK.mk (fun _ => ?_) ?_) <;> conv => whnf)
          | ((with_reducible refine AltK.l ?_); (conv => whnf); (with_reducible refine Need.mk ?_ ?_); (first | omega | (refine ⟨?_, ?_⟩ <;> simp <;> omega) | (simp; omega)); conv => whnf)
          | ((with_reducible refine Need.mk ?_ ?_); (first | omega | rfl | decide | (refine ⟨?_, ?_⟩ <;> simp <;> omega) | (simp; omega)); conv => whnf)
          | ((with_reducible refine Wr.quo ?_ ?_ ?_ ?_); omega; omega; omega; conv => whnf)
          | ((with_reducible refine Wr.inr ?_ ?_); (first | omega | (simp; omega)); conv => whnf)
          | ((with_reducible refine Wr.inu ?_ ?_); omega; conv => whnf)
          | ((with_reducible refine AltK.l ?_); (conv => whnf); (first | (refine CallK.mk _ (h1) ?_) | (refine CallK.mk _ (h2) ?_) | (refine CallK.mk _ (ev_cloneS [] (by simp)) ?_) | (refine CallK.mk _ (ev_SortThin0) ?_) | (refine CallK.mk _ (ev_SortG0) ?_) | (refine CallK.mk _ (ev_SortI0) ?_)); conv => whnf)
          | (exfalso; first | omega | contradiction))
        rw [show sortL cfThin ([] : List Sg) = [] from List.eq_nil_of_length_eq_zero (by rw [sortL_len]; rfl)]
        show _ = thE (sortZ [], sortL (fun a b => cmpI a.1 b.1) [], 0)
        rw [show sortZ [] = [] from List.eq_nil_of_length_eq_zero (by rw [sortZ_len]; rfl), show sortL (fun a b : Int × Int => cmpI a.1 b.1) [] = [] from List.eq_nil_of_length_eq_zero (by rw [sortL_len]; rfl)]
        rfl
      · have h3 := EvX.new1 (xs := [.sl 5 (l.map sgD)]) (xv_cloneS l (by have := List.length_pos_iff.2 hn; omega)) 27
        refine ev_of_awp tysOk mixed (fn := Tryz.f30) Tryz.func30 rfl rfl rfl ?_
        have h4 := EvX.at1t (xs := [.fn 78 []]) (xv_SortThin l hu hl5) 27
        have hr := rad_bd r0
        have ho : ∀ g ∈ sortL cfThin l, -1000000 ≤ g.x ∧ g.x ≤ 1000000 ∧ -1000000 ≤ g.y ∧ g.y ≤ 1000000 := fun g hg => sg_place (hall g ((sortL_perm cfThin l).subset hg))
        have hol : (sortL cfThin l).length = l.length := sortL_len _ _
        have hnk := thin_pairs r hu
        conv => whnf
        repeat' (first
          | ((with_reducible refine Split.of_true ?_); conv => whnf)
          | ((with_reducible refine Split.of_false ?_); conv => whnf)
          | ((with_reducible refine Split.neg ?_))
          | ((with_reducible refine Split.is_true ?_ ?_); decide; conv => whnf)
          | ((with_reducible refine Split.is_false ?_ ?_); decide; conv => whnf)
          | ((with_reducible refine Split.nez (fun _ => ?_) (fun _ => ?_)) <;> conv => whnf)
          | ((with_reducible refine Split.eqz (fun _ => ?_) (fun _ => ?_)) <;> conv => whnf)
          | ((with_reducible refine Split.and ?_))
          | ((with_reducible refine Split.or ?_))
          | ((with_reducible refine Split.streq (fun _ => ?_) (fun _ => ?_)) <;> conv => whnf)
          | ((with_reducible refine Split.dec (fun _ => ?_) (fun _ => ?_)) <;> conv => whnf)
          | ((with_reducible refine Split.mk (fun _ => ?_) (fun _ => ?_)) <;> conv => whnf)
          | ((with_reducible refine NilK.mk (fun _ => ?_) ?_) <;> conv => whnf)
          | ((with_reducible refine AltK.l ?_); (conv => whnf); (with_reducible refine Need.mk ?_ ?_); (first | omega | (refine ⟨?_, ?_⟩ <;> simp <;> omega) | (simp; omega)); conv => whnf)
          | ((with_reducible refine Need.mk ?_ ?_); (first | omega | rfl | decide | (refine ⟨?_, ?_⟩ <;> simp <;> omega) | (simp; omega)); conv => whnf)
          | ((with_reducible refine Wr.quo ?_ ?_ ?_ ?_); omega; omega; omega; conv => whnf)
          | ((with_reducible refine Wr.inr ?_ ?_); (first | omega | (simp; omega)); conv => whnf)
          | ((with_reducible refine Wr.inu ?_ ?_); omega; conv => whnf)
          | ((with_reducible refine AltK.r ?_); (conv => whnf); (first | (refine CallX.mk _ _ (h3) rfl ?_) | (refine CallX.mk _ _ (h4) rfl ?_)); conv => whnf)
          | ((with_reducible refine AltK.l ?_); (conv => whnf); (first | (refine CallK.mk _ (h1) ?_) | (refine CallK.mk _ (h2) ?_)); conv => whnf)
          | (exfalso; first | omega | contradiction))
        generalize sortL cfThin l = o at *
        have eo : (o.map sgD).length = o.length := List.length_map _
        refine LoopK.o2 (fun i : Nat => i ≤ o.length) (fun i => [(9, .own 200 5 ((thinO r (o.take i)).1.map sgD).length), (32, .d (.int .i64 i))])
          (fun i => [(3, .var [.d (iD r)] true), (200, .row 36 5 ((thinO r (o.take i)).1.map sgD) true), (10, .var [.own 201 1 (((thinO r (o.take i)).1.map Sg.n).map iD).length, .own 202 2 ((thinO r (o.take i)).2.map gdD).length] false),
            (201, .row 3 1 (((thinO r (o.take i)).1.map Sg.n).map iD) false), (202, .row 127 2 ((thinO r (o.take i)).2.map gdD) false)]) (fun i => o.length - i) 0 (by simp) (by refine ⟨?_, ?_, rfl⟩ <;> (repeat' (first | exact True.intro | exact rfl | refine ⟨?_, ?_⟩ | (intro h; cases h; done) | (intro h; exact h) | exact map_snoc | (refine own_congr ?_; simp; done) | (refine int_congr ?_; (first | omega | (simp; omega))) | (simp; done) | ((first | refine own_congr ?_ | refine int_congr ?_ | skip); simp [thinO]; done) | ((first | refine own_congr ?_ | refine int_congr ?_); simp [thinO]; omega) | (show @Eq (List Go.Vm.D) _ []; simp [thinO]; done) | (simp [D.cells, thinO]; done)))) ?_
        rintro i hi
        have hnx : (i : Int) < o.length → ∃ m, o[i]? = some m := fun h => some_of_lt (by omega)
        have hki := thinO_sub r (o.take i)
        have hgl := thinO_len r (o.take i)
        rw [List.length_take] at hgl
        conv => whnf
        repeat' (first
          | ((with_reducible refine Split.of_true ?_); conv => whnf)
          | ((with_reducible refine Split.of_false ?_); conv => whnf)
          | ((with_reducible refine Split.neg ?_))
          | ((with_reducible refine Split.is_true ?_ ?_); decide; conv => whnf)
          | ((with_reducible refine Split.is_false ?_ ?_); decide; conv => whnf)
          | ((with_reducible refine Split.nez (fun _ => ?_) (fun _ => ?_)) <;> conv => whnf)
          | ((with_reducible refine Split.eqz (fun _ => ?_) (fun _ => ?_)) <;> conv => whnf)
          | ((with_reducible refine Split.and ?_))
          | ((with_reducible refine Split.or ?_))
          | ((with_reducible refine Split.streq (fun _ => ?_) (fun _ => ?_)) <;> conv => whnf)
          | ((with_reducible refine Split.dec (fun _ => ?_) (fun _ => ?_)) <;> conv => whnf)
          | ((with_reducible refine Split.mk (fun _ => ?_) (fun _ => ?_)) <;> conv => whnf)
          | ((with_reducible refine NilK.mk (fun _ => ?_) ?_) <;> conv => whnf)
          | ((with_reducible refine AltK.l ?_); (conv => whnf); (with_reducible refine Need.mk ?_ ?_); (first | omega | (refine ⟨?_, ?_⟩ <;> simp <;> omega) | (simp; omega)); conv => whnf)
          | ((with_reducible refine Need.mk ?_ ?_); (first | omega | rfl | decide | (refine ⟨?_, ?_⟩ <;> simp <;> omega) | (simp; omega)); conv => whnf)
          | ((with_reducible refine Wr.quo ?_ ?_ ?_ ?_); omega; omega; omega; conv => whnf)
          | ((with_reducible refine Wr.inr ?_ ?_); (first | omega | (simp; omega)); conv => whnf)
          | ((with_reducible refine Wr.inu ?_ ?_); omega; conv => whnf)
          | (exfalso; first | omega | contradiction))
        · obtain ⟨s, hs⟩ := hnx (by omega)
          have hst := thinO_snoc r hs
          have hsp := ho s (List.mem_of_getElem? hs)
          generalize thinO r (o.take i) = q at *
          obtain ⟨kp, gs⟩ := q
          dsimp only at hki hgl hst ⊢
          have h5 := ev_IndexS kp 82 [.ref [iD s.n, iD s.x, iD s.y, iD s.lo, iD s.hi] 0, .ref [iD r] 0] (fun k => decide (sqS k s.x s.y ≤ r * r)) (by omega) (fun k hk => ev_Thin2 k s r (ho k (List.mem_of_mem_take (hki k hk))) hsp hr)
          cases hf : kp.findIdx? fun k => decide (sqS k s.x s.y ≤ r * r) with
          | none =>
            rw [thinStep_none hf] at hst
            rw [hf] at h5
            simp only at h5
            conv => whnf
            repeat' (first
              | ((refine PickE.map i hs (by omega) ?_); conv => whnf)
              | ((with_reducible refine Split.of_true ?_); conv => whnf)
              | ((with_reducible refine Split.of_false ?_); conv => whnf)
              | ((with_reducible refine Split.neg ?_))
              | ((with_reducible refine Split.is_true ?_ ?_); decide; conv => whnf)
              | ((with_reducible refine Split.is_false ?_ ?_); decide; conv => whnf)
              | ((with_reducible refine Split.nez (fun _ => ?_) (fun _ => ?_)) <;> conv => whnf)
              | ((with_reducible refine Split.eqz (fun _ => ?_) (fun _ => ?_)) <;> conv => whnf)
              | ((with_reducible refine Split.and ?_))
              | ((with_reducible refine Split.or ?_))
              | ((with_reducible refine Split.streq (fun _ => ?_) (fun _ => ?_)) <;> conv => whnf)
              | ((with_reducible refine Split.dec (fun _ => ?_) (fun _ => ?_)) <;> conv => whnf)
              | ((with_reducible refine Split.mk (fun _ => ?_) (fun _ => ?_)) <;> conv => whnf)
              | ((with_reducible refine NilK.mk (fun _ => ?_) ?_) <;> conv => whnf)
              | ((with_reducible refine AltK.l ?_); (conv => whnf); (with_reducible refine Need.mk ?_ ?_); (first | omega | (refine ⟨?_, ?_⟩ <;> simp <;> omega) | (simp; omega)); conv => whnf)
              | ((with_reducible refine Need.mk ?_ ?_); (first | omega | rfl | decide | (refine ⟨?_, ?_⟩ <;> simp <;> omega) | (simp; omega)); conv => whnf)
              | ((with_reducible refine Wr.quo ?_ ?_ ?_ ?_); omega; omega; omega; conv => whnf)
              | ((with_reducible refine Wr.inr ?_ ?_); (first | omega | (simp; omega)); conv => whnf)
              | ((with_reducible refine Wr.inu ?_ ?_); omega; conv => whnf)
              | ((with_reducible refine AltK.l ?_); (conv => whnf); (first | (refine CallK.mk _ (h5) ?_)); conv => whnf)
              | (exfalso; first | omega | contradiction))
            refine Again.au (i + 1) (by omega) (by omega) (by refine ⟨?_, ?_, rfl⟩ <;> (repeat' (first | exact True.intro | exact rfl | refine ⟨?_, ?_⟩ | (intro h; cases h; done) | (intro h; exact h) | exact map_snoc | (refine own_congr ?_; simp; done) | (refine int_congr ?_; (first | omega | (simp; omega))) | (simp; done) | ((first | refine own_congr ?_ | refine int_congr ?_ | skip); simp [hst,sgD]; done) | ((first | refine own_congr ?_ | refine int_congr ?_); simp [hst,sgD]; omega) | (show @Eq (List Go.Vm.D) _ []; simp [hst,sgD]; done) | (simp [D.cells, hst,sgD]; done))))
          | some j =>
            obtain ⟨k, hk, hst2⟩ := thinStep_some (gs := gs) hf
            rw [hst2] at hst
            have hjl : j < kp.length := (List.getElem?_eq_some_iff.1 hk).1
            rw [hf] at h5
            simp only at h5
            conv => whnf
            repeat' (first
              | ((refine PickE.map j hk (by omega) ?_); conv => whnf)
              | ((refine PickE.map i hs (by omega) ?_); conv => whnf)
              | ((with_reducible refine Split.of_true ?_); conv => whnf)
              | ((with_reducible refine Split.of_false ?_); conv => whnf)
              | ((with_reducible refine Split.neg ?_))
              | ((with_reducible refine Split.is_true ?_ ?_); decide; conv => whnf)
              | ((with_reducible refine Split.is_false ?_ ?_); decide; conv => whnf)
              | ((with_reducible refine Split.nez (fun _ => ?_) (fun _ => ?_)) <;> conv => whnf)
              | ((with_reducible refine Split.eqz (fun _ => ?_) (fun _ => ?_)) <;> conv => whnf)
              | ((with_reducible refine Split.and ?_))
              | ((with_reducible refine Split.or ?_))
              | ((with_reducible refine Split.streq (fun _ => ?_) (fun _ => ?_)) <;> conv => whnf)
              | ((with_reducible refine Split.dec (fun _ => ?_) (fun _ => ?_)) <;> conv => whnf)
              | ((with_reducible refine Split.mk (fun _ => ?_) (fun _ => ?_)) <;> conv => whnf)
              | ((with_reducible refine NilK.mk (fun _ => ?_) ?_) <;> conv => whnf)
              | ((with_reducible refine AltK.l ?_); (conv => whnf); (with_reducible refine Need.mk ?_ ?_); (first | omega | (refine ⟨?_, ?_⟩ <;> simp <;> omega) | (simp; omega)); conv => whnf)
              | ((with_reducible refine Need.mk ?_ ?_); (first | omega | rfl | decide | (refine ⟨?_, ?_⟩ <;> simp <;> omega) | (simp; omega)); conv => whnf)
              | ((with_reducible refine Wr.quo ?_ ?_ ?_ ?_); omega; omega; omega; conv => whnf)
              | ((with_reducible refine Wr.inr ?_ ?_); (first | omega | (simp; omega)); conv => whnf)
              | ((with_reducible refine Wr.inu ?_ ?_); omega; conv => whnf)
              | ((with_reducible refine AltK.l ?_); (conv => whnf); (first | (refine CallK.mk _ (h5) ?_)); conv => whnf)
              | (exfalso; first | omega | contradiction))
            refine Again.au (i + 1) (by omega) (by omega) (by refine ⟨?_, ?_, rfl⟩ <;> (repeat' (first | exact True.intro | exact rfl | refine ⟨?_, ?_⟩ | (intro h; cases h; done) | (intro h; exact h) | exact map_snoc | (refine own_congr ?_; simp; done) | (refine int_congr ?_; (first | omega | (simp; omega))) | (simp; done) | ((first | refine own_congr ?_ | refine int_congr ?_ | skip); simp [hst,gdD]; done) | ((first | refine own_congr ?_ | refine int_congr ?_); simp [hst,gdD]; omega) | (show @Eq (List Go.Vm.D) _ []; simp [hst,gdD]; done) | (simp [D.cells, hst,gdD]; done))))
        · have ei : i = o.length := by omega
          subst ei
          rw [List.take_length] at hgl ⊢
          have h6 := EvX.at1t (xs := []) (xv_SortI ((thinO r o).1.map Sg.n) (by rw [List.length_map]; omega)) 201
          have h7 := EvX.at1t (xs := [.fn 86 []]) (xv_SortG (thinO r o).2 hnk (by omega)) 202
          conv => whnf
          repeat' (first
            | ((with_reducible refine Split.of_true ?_); conv => whnf)
            | ((with_reducible refine Split.of_false ?_); conv => whnf)
            | ((with_reducible refine Split.neg ?_))
            | ((with_reducible refine Split.is_true ?_ ?_); decide; conv => whnf)
            | ((with_reducible refine Split.is_false ?_ ?_); decide; conv => whnf)
            | ((with_reducible refine Split.nez (fun _ => ?_) (fun _ => ?_)) <;> conv => whnf)
            | ((with_reducible refine Split.eqz (fun _ => ?_) (fun _ => ?_)) <;> conv => whnf)
            | ((with_reducible refine Split.and ?_))
            | ((with_reducible refine Split.or ?_))
            | ((with_reducible refine Split.streq (fun _ => ?_) (fun _ => ?_)) <;> conv => whnf)
            | ((with_reducible refine Split.dec (fun _ => ?_) (fun _ => ?_)) <;> conv => whnf)
            | ((with_reducible refine Split.mk (fun _ => ?_) (fun _ => ?_)) <;> conv => whnf)
            | ((with_reducible refine NilK.mk (fun _ => ?_) ?_) <;> conv => whnf)
            | ((with_reducible refine AltK.l ?_); (conv => whnf); (with_reducible refine Need.mk ?_ ?_); (first | omega | (refine ⟨?_, ?_⟩ <;> simp <;> omega) | (simp; omega)); conv => whnf)
            | ((with_reducible refine Need.mk ?_ ?_); (first | omega | rfl | decide | (refine ⟨?_, ?_⟩ <;> simp <;> omega) | (simp; omega)); conv => whnf)
            | ((with_reducible refine Wr.quo ?_ ?_ ?_ ?_); omega; omega; omega; conv => whnf)
            | ((with_reducible refine Wr.inr ?_ ?_); (first | omega | (simp; omega)); conv => whnf)
            | ((with_reducible refine Wr.inu ?_ ?_); omega; conv => whnf)
            | ((with_reducible refine AltK.r ?_); (conv => whnf); (first | (refine CallX.mk _ _ (h6) rfl ?_) | (refine CallX.mk _ _ (h7) rfl ?_)); conv => whnf)
            | (exfalso; first | omega | contradiction))
          rfl
    · rw [if_pos r0]
      refine ev_of_awp tysOk mixed (fn := Tryz.f30) Tryz.func30 rfl rfl rfl ?_
      conv => whnf
      repeat' (first
        | ((with_reducible refine Split.of_true ?_); conv => whnf)
        | ((with_reducible refine Split.of_false ?_); conv => whnf)
        | ((with_reducible refine Split.neg ?_))
        | ((with_reducible refine Split.is_true ?_ ?_); decide; conv => whnf)
        | ((with_reducible refine Split.is_false ?_ ?_); decide; conv => whnf)
        | ((with_reducible refine Split.nez (fun _ => ?_) (fun _ => ?_)) <;> conv => whnf)
        | ((with_reducible refine Split.eqz (fun _ => ?_) (fun _ => ?_)) <;> conv => whnf)
        | ((with_reducible refine Split.and ?_))
        | ((with_reducible refine Split.or ?_))
        | ((with_reducible refine Split.streq (fun _ => ?_) (fun _ => ?_)) <;> conv => whnf)
        | ((with_reducible refine Split.dec (fun _ => ?_) (fun _ => ?_)) <;> conv => whnf)
        | ((with_reducible refine Split.mk (fun _ => ?_) (fun _ => ?_)) <;> conv => whnf)
        | ((with_reducible refine NilK.mk (fun _ => ?_) ?_) <;> conv => whnf)
        | ((with_reducible refine AltK.l ?_); (conv => whnf); (with_reducible refine Need.mk ?_ ?_); (first | omega | (refine ⟨?_, ?_⟩ <;> simp <;> omega) | (simp; omega)); conv => whnf)
        | ((with_reducible refine Need.mk ?_ ?_); (first | omega | rfl | decide | (refine ⟨?_, ?_⟩ <;> simp <;> omega) | (simp; omega)); conv => whnf)
        | ((with_reducible refine Wr.quo ?_ ?_ ?_ ?_); omega; omega; omega; conv => whnf)
        | ((with_reducible refine Wr.inr ?_ ?_); (first | omega | (simp; omega)); conv => whnf)
        | ((with_reducible refine Wr.inu ?_ ?_); omega; conv => whnf)
        | ((with_reducible refine AltK.l ?_); (conv => whnf); (first | (refine CallK.mk _ (h1) ?_) | (refine CallK.mk _ (h2) ?_)); conv => whnf)
        | (exfalso; first | omega | contradiction))
      all_goals simp_all [retOf, thE, thD, iD]
  · rw [thinRes, if_pos c0]
    refine ev_of_awp tysOk mixed (fn := Tryz.f30) Tryz.func30 rfl rfl rfl ?_
    conv => whnf
    repeat' (first
      | ((with_reducible refine Split.of_true ?_); conv => whnf)
      | ((with_reducible refine Split.of_false ?_); conv => whnf)
      | ((with_reducible refine Split.neg ?_))
      | ((with_reducible refine Split.is_true ?_ ?_); decide; conv => whnf)
      | ((with_reducible refine Split.is_false ?_ ?_); decide; conv => whnf)
      | ((with_reducible refine Split.nez (fun _ => ?_) (fun _ => ?_)) <;> conv => whnf)
      | ((with_reducible refine Split.eqz (fun _ => ?_) (fun _ => ?_)) <;> conv => whnf)
      | ((with_reducible refine Split.and ?_))
      | ((with_reducible refine Split.or ?_))
      | ((with_reducible refine Split.streq (fun _ => ?_) (fun _ => ?_)) <;> conv => whnf)
      | ((with_reducible refine Split.dec (fun _ => ?_) (fun _ => ?_)) <;> conv => whnf)
      | ((with_reducible refine Split.mk (fun _ => ?_) (fun _ => ?_)) <;> conv => whnf)
      | ((with_reducible refine NilK.mk (fun _ => ?_) ?_) <;> conv => whnf)
      | ((with_reducible refine AltK.l ?_); (conv => whnf); (with_reducible refine Need.mk ?_ ?_); (first | omega | (refine ⟨?_, ?_⟩ <;> simp <;> omega) | (simp; omega)); conv => whnf)
      | ((with_reducible refine Need.mk ?_ ?_); (first | omega | rfl | decide | (refine ⟨?_, ?_⟩ <;> simp <;> omega) | (simp; omega)); conv => whnf)
      | ((with_reducible refine Wr.quo ?_ ?_ ?_ ?_); omega; omega; omega; conv => whnf)
      | ((with_reducible refine Wr.inr ?_ ?_); (first | omega | (simp; omega)); conv => whnf)
      | ((with_reducible refine Wr.inu ?_ ?_); omega; conv => whnf)
      | ((with_reducible refine AltK.l ?_); (conv => whnf); (first | (refine CallK.mk _ (h1) ?_) | (refine CallK.mk _ (h2) ?_)); conv => whnf)
      | (exfalso; first | omega | contradiction))
    all_goals simp_all [retOf, thE, thD, iD]
end Go.Proofs.Tryz
end

section
namespace Go.Proofs.Tryz
open Go Go.Vm Go.Sort
/-! Plain laws of sorted lists. -/
theorem sorted_unique {α : Type} {lt : α → α → Prop} (has : ∀ a b, lt a b → ¬ lt b a) : ∀ {l m : List α}, l.Perm m → l.Pairwise lt → m.Pairwise lt → l = m
  | [], m, hp, _, _ => by rw [List.nil_perm.1 hp]
  | a :: l, [], hp, _, _ => by have := hp.length_eq; simp at this
  | a :: l, b :: m, hp, hl, hm => by
    have hab : a = b := by
      have h1 : a ∈ b :: m := hp.subset List.mem_cons_self
      have h2 : b ∈ a :: l := hp.symm.subset List.mem_cons_self
      rcases List.mem_cons.1 h1 with h1 | h1
      · exact h1
      · rcases List.mem_cons.1 h2 with h2 | h2
        · exact h2.symm
        · exact absurd ((List.pairwise_cons.1 hl).1 b h2) (has b a ((List.pairwise_cons.1 hm).1 a h1))
    subst hab
    rw [sorted_unique has (List.Perm.cons_inv hp) (List.pairwise_cons.1 hl).2 (List.pairwise_cons.1 hm).2]
theorem sortL_sorted {α : Type} {cf : α → α → Int} (hO : SWO fun x y => decide (cf x y < 0)) (l : List α) : (sortL cf l).Pairwise fun a b => ¬ cf b a < 0 := by
  have h := List.pairwise_mergeSort (le := fun x y => !decide (cf y x < 0)) (fun a b c h1 h2 => by
    simp only [Bool.not_eq_true', decide_eq_false_iff_not] at h1 h2 ⊢
    have := hO.ntrans c b a (by simpa using h2) (by simpa using h1)
    simpa using this) (fun a b => by
    simp only [Bool.or_eq_true, Bool.not_eq_true', decide_eq_false_iff_not]
    by_cases h : cf b a < 0
    · right
      intro h'
      have := hO.trans a b a (by simpa using h') (by simpa using h)
      rw [hO.irrefl] at this; cases this
    · exact .inl h) l
  refine h.imp fun {a b} h => ?_
  simpa using h
theorem sortL_strict {α : Type} {cf : α → α → Int} (hO : SWO fun x y => decide (cf x y < 0)) {l : List α} (hn : l.Nodup) (hT : ∀ x ∈ l, ∀ y ∈ l, ¬ cf x y < 0 → ¬ cf y x < 0 → x = y) : (sortL cf l).Pairwise fun a b => cf a b < 0 := by
  have hnd : (sortL cf l).Nodup := (sortL_perm cf l).nodup_iff.2 hn
  have h := (sortL_sorted hO l).and hnd
  refine List.Pairwise.imp_of_mem ?_ h
  intro a b ha hb ⟨h1, h2⟩
  have ha := (sortL_perm cf l).subset ha
  have hb := (sortL_perm cf l).subset hb
  by_cases h3 : cf a b < 0
  · exact h3
  · exact absurd (hT a ha b hb h3 h1) h2
theorem sortL_eq {α : Type} {cf : α → α → Int} (hO : SWO fun x y => decide (cf x y < 0)) {l m : List α} (hp : m.Perm l) (hs : m.Pairwise fun a b => cf a b < 0) : m = sortL cf l := by
  have has : ∀ a b, cf a b < 0 → ¬ cf b a < 0 := fun a b h1 h2 => by
    have := hO.trans a b a (by simpa using h1) (by simpa using h2)
    rw [hO.irrefl] at this; cases this
  have hn : m.Nodup := hs.imp fun {a b} h (e : a = b) => by subst e; exact has a a h h
  have hln : l.Nodup := hp.nodup_iff.1 hn
  refine sorted_unique has (hp.trans (sortL_perm cf l).symm) hs (sortL_strict hO hln fun x hx y hy h1 h2 => ?_)
  have hx := hp.symm.subset hx
  have hy := hp.symm.subset hy
  obtain ⟨i, hi, rfl⟩ := List.getElem_of_mem hx
  obtain ⟨j, hj, rfl⟩ := List.getElem_of_mem hy
  rcases Nat.lt_trichotomy i j with h3 | h3 | h3
  · exact absurd (List.pairwise_iff_getElem.1 hs i j hi hj h3) h1
  · subst h3; rfl
  · exact absurd (List.pairwise_iff_getElem.1 hs j i hj hi h3) h2
theorem sortZ_perm (l : List Int) : (sortZ l).Perm l := List.mergeSort_perm _ _
theorem sortZ_sorted (l : List Int) : (sortZ l).Pairwise fun a b => a ≤ b := by
  have h := List.pairwise_mergeSort (le := fun x y : Int => decide (x ≤ y)) (fun a b c h1 h2 => by simp at h1 h2 ⊢; omega) (fun a b => by simp; omega) l
  exact h.imp fun {a b} h => by simpa using h
theorem sortedZ_unique : ∀ {l m : List Int}, l.Perm m → l.Pairwise (fun a b => a ≤ b) → m.Pairwise (fun a b => a ≤ b) → l = m
  | [], m, hp, _, _ => by rw [List.nil_perm.1 hp]
  | a :: l, [], hp, _, _ => by have := hp.length_eq; simp at this
  | a :: l, b :: m, hp, hl, hm => by
    have hab : a = b := by
      have h1 : a ∈ b :: m := hp.subset List.mem_cons_self
      have h2 : b ∈ a :: l := hp.symm.subset List.mem_cons_self
      rcases List.mem_cons.1 h1 with h1 | h1
      · exact h1
      · rcases List.mem_cons.1 h2 with h2 | h2
        · exact h2.symm
        · have := (List.pairwise_cons.1 hl).1 b h2
          have := (List.pairwise_cons.1 hm).1 a h1
          omega
    subst hab
    rw [sortedZ_unique (List.Perm.cons_inv hp) (List.pairwise_cons.1 hl).2 (List.pairwise_cons.1 hm).2]
theorem sortZ_eq {l m : List Int} (hp : m.Perm l) (hs : m.Pairwise fun a b => a ≤ b) : m = sortZ l := sortedZ_unique (hp.trans (sortZ_perm l).symm) hs (sortZ_sorted l)
end Go.Proofs.Tryz
end

section
/- Openings of typed arguments: marks, gauges. -/
namespace Go.Proofs.Tryz
open Go Go.Vm
theorem int_of {k : IntKind} {d : D} (h : Ty (.int k) d) : ∃ n, d = .int k n ∧ (Lit.int k n).wf = true := by cases h; exact ⟨_, rfl, by assumption⟩
theorem sl_of {agg : Bool} {cs : List Cs} {d : D} (h : Ty (.sl agg cs) d) : ∃ es, d = .sl cs.length es ∧ (∀ e ∈ es, TyV (agg, cs) e) ∧ es.length ≤ 9223372036854775807 := by
  cases h with
  | sl hk hl h hn => exact ⟨_, rfl, fun e he => ⟨hk e he, hl e he, h e he⟩, hn⟩
theorem agg_of {cs : List Cs} {d : D} (h : TyV (true, cs) d) : ∃ ds, d = .agg ds ∧ ds.length = cs.length ∧ ∀ (j : Nat) c e, cs[j]? = some c → ds[j]? = some e → Ty c e := by
  obtain ⟨ds, rfl⟩ := h.1.1 rfl
  exact ⟨ds, rfl, h.2.1, h.2.2⟩
theorem one_of {c : Cs} {d : D} (h : TyV (false, [c]) d) : Ty c d := by
  have h1 := h.1.2 rfl
  have := h.2.2 0 c d rfl
  rw [(one_cells h1).1] at this
  exact this rfl
theorem map_of {α : Type} {f : α → D} {Q : D → Prop} (hf : ∀ d, Q d → ∃ a, d = f a) : ∀ {es : List D}, (∀ e ∈ es, Q e) → ∃ l : List α, es = l.map f
  | [], _ => ⟨[], rfl⟩
  | e :: es, h => by
    obtain ⟨a, rfl⟩ := hf e (h e (List.mem_cons_self ..))
    obtain ⟨l, rfl⟩ := map_of hf (fun e he => h e (List.mem_cons_of_mem _ he))
    exact ⟨a :: l, rfl⟩
end Go.Proofs.Tryz
end

section
namespace Go.Proofs.Tryz
open Go Go.Vm Go.Sort
set_option maxRecDepth 20000
set_option maxHeartbeats 2000000
def exS : List Sg := [⟨1, 0, 0, -510, -500⟩, ⟨2, 30, 40, -480, -470⟩, ⟨3, 60, 80, -460, -450⟩, ⟨4, 900, 0, -900, -890⟩]
theorem ev_example : Ev Tryz.prog 65 [] (.sl 5 (exS.map sgD)) := by
  refine ev_of_awp tysOk mixed (fn := Tryz.f65) Tryz.func65 rfl rfl rfl ?_
  conv => whnf
  repeat' (first
    | ((with_reducible refine Split.of_true ?_); conv => whnf)
    | ((with_reducible refine Split.of_false ?_); conv => whnf)
    | ((with_reducible refine Split.neg ?_))
    | ((with_reducible refine Split.is_true ?_ ?_); decide; conv => whnf)
    | ((with_reducible refine Split.is_false ?_ ?_); decide; conv => whnf)
    | ((with_reducible refine Split.nez (fun _ => ?_) (fun _ => ?_)) <;> conv => whnf)
    | ((with_reducible refine Split.eqz (fun _ => ?_) (fun _ => ?_)) <;> conv => whnf)
    | ((with_reducible refine Split.and ?_))
    | ((with_reducible refine Split.or ?_))
    | ((with_reducible refine Split.streq (fun _ => ?_) (fun _ => ?_)) <;> conv => whnf)
    | ((with_reducible refine Split.dec (fun _ => ?_) (fun _ => ?_)) <;> conv => whnf)
    | ((with_reducible refine Split.mk (fun _ => ?_) (fun _ => ?_)) <;> conv => whnf)
    | ((with_reducible refine NilK.mk (fun _ => ?_) ?_) <;> conv => whnf)
    | ((with_reducible refine AltK.l ?_); (conv => whnf); (with_reducible refine Need.mk ?_ ?_); (first | omega | (refine ⟨?_, ?_⟩ <;> simp <;> omega) | (simp; omega)); conv => whnf)
    | ((with_reducible refine Need.mk ?_ ?_); (first | omega | rfl | decide | (refine ⟨?_, ?_⟩ <;> simp <;> omega) | (simp; omega)); conv => whnf)
    | ((with_reducible refine Wr.quo ?_ ?_ ?_ ?_); omega; omega; omega; conv => whnf)
    | ((with_reducible refine Wr.inr ?_ ?_); (first | omega | (simp; omega)); conv => whnf)
    | ((with_reducible refine Wr.inu ?_ ?_); omega; conv => whnf)
    | (exfalso; first | omega | contradiction))
  rfl
theorem exS_sorted : sortL cfThin exS = [⟨3, 60, 80, -460, -450⟩, ⟨2, 30, 40, -480, -470⟩, ⟨1, 0, 0, -510, -500⟩, ⟨4, 900, 0, -900, -890⟩] :=
  (sortL_eq swoThin (by decide) (by decide)).symm
theorem exS_thin : thinRes exS 50 = ([1, 3, 4], [(2, 3)], 0) := by
  have e1 : (thinO 50 (sortL cfThin exS)) = ([⟨3, 60, 80, -460, -450⟩, ⟨1, 0, 0, -510, -500⟩, ⟨4, 900, 0, -900, -890⟩], [(2, 3)]) := by rw [exS_sorted]; decide
  rw [thinRes, if_neg (by decide), if_neg (by decide), e1]
  have e2 : [1, 3, 4] = sortZ ([⟨3, 60, 80, -460, -450⟩, ⟨1, 0, 0, -510, -500⟩, ⟨4, 900, 0, -900, -890⟩].map Sg.n) := sortZ_eq (by decide) (by decide)
  have e3 : [((2 : Int), (3 : Int))] = sortL (fun a b => cmpI a.1 b.1) [(2, 3)] := sortL_eq ⟨fun x => by simp only [cmpI_neg, decide_eq_false_iff_not]; omega, fun x y z => by simp only [cmpI_neg, decide_eq_true_eq]; omega, fun x y z => by simp only [cmpI_neg, decide_eq_false_iff_not]; omega⟩ (.refl _) (by decide)
  rw [← e2, ← e3]
def pierS : Ga := ⟨⟨#[112, 105, 101, 114]⟩, 0, 5, [⟨0, 100⟩, ⟨20, 100⟩]⟩
def rawS : Rw := ⟨7, 10, 0, 0, 500, 40, 10⟩
theorem pier_red : rdE [pierS] rawS = (⟨7, 0, 0, -455, -425⟩, 0) := by decide
theorem ev_awake3 : Ev Tryz.prog 18 [] (.bool true) := by
  have h := ev_Reduce [pierS] rawS
  have h2 := ev_Thin exS 50
  rw [pier_red] at h
  rw [exS_thin] at h2
  refine ev_of_awp tysOk mixed (fn := Tryz.f18) Tryz.func18 rfl rfl rfl ?_
  conv => whnf
  repeat' (first
    | ((refine PickE.mk _ rfl ?_); conv => whnf)
    | ((with_reducible refine Split.of_true ?_); conv => whnf)
    | ((with_reducible refine Split.of_false ?_); conv => whnf)
    | ((with_reducible refine Split.neg ?_))
    | ((with_reducible refine Split.is_true ?_ ?_); decide; conv => whnf)
    | ((with_reducible refine Split.is_false ?_ ?_); decide; conv => whnf)
    | ((with_reducible refine Split.nez (fun _ => ?_) (fun _ => ?_)) <;> conv => whnf)
    | ((with_reducible refine Split.eqz (fun _ => ?_) (fun _ => ?_)) <;> conv => whnf)
    | ((with_reducible refine Split.and ?_))
    | ((with_reducible refine Split.or ?_))
    | ((with_reducible refine Split.streq (fun _ => ?_) (fun _ => ?_)) <;> conv => whnf)
    | ((with_reducible refine Split.dec (fun _ => ?_) (fun _ => ?_)) <;> conv => whnf)
    | ((with_reducible refine Split.mk (fun _ => ?_) (fun _ => ?_)) <;> conv => whnf)
    | ((with_reducible refine NilK.mk (fun _ => ?_) ?_) <;> conv => whnf)
    | ((with_reducible refine AltK.l ?_); (conv => whnf); (with_reducible refine Need.mk ?_ ?_); (first | omega | (refine ⟨?_, ?_⟩ <;> simp <;> omega) | (simp; omega)); conv => whnf)
    | ((with_reducible refine Need.mk ?_ ?_); (first | omega | rfl | decide | (refine ⟨?_, ?_⟩ <;> simp <;> omega) | (simp; omega)); conv => whnf)
    | ((with_reducible refine Wr.quo ?_ ?_ ?_ ?_); omega; omega; omega; conv => whnf)
    | ((with_reducible refine Wr.inr ?_ ?_); (first | omega | (simp; omega)); conv => whnf)
    | ((with_reducible refine Wr.inu ?_ ?_); omega; conv => whnf)
    | ((with_reducible refine AltK.l ?_); (conv => whnf); (first | (refine CallK.mk _ (h) ?_) | (refine CallK.mk _ (ev_example) ?_) | (refine CallK.mk _ (h2) ?_) | (refine CallK.mk _ (ev_Ints [1, 3, 4] [1, 3, 4] (by simp)) ?_)); conv => whnf)
    | (exfalso; first | omega | contradiction))
  rfl
end Go.Proofs.Tryz
end

section
namespace Go.Proofs.Tryz
open Go Go.Vm Go.Sort
/-! Plain laws of thinnings. -/
end Go.Proofs.Tryz
end

section
namespace Go.Proofs.Tryz
open Go Go.Vm
set_option maxRecDepth 20000
set_option maxHeartbeats 2000000
/-! IndexFunc and DeleteFunc by a function that has captured a map. -/
end Go.Proofs.Tryz
end

section
namespace Go.Proofs.Tryz
open Go Go.Vm Go.Sort
set_option maxRecDepth 20000
set_option maxHeartbeats 4000000
/-! Sheets by numbers; kept soundings. -/
end Go.Proofs.Tryz
end

section
/- Openings of typed arguments: raw soundings, soundings, lists of numbers, thinnings, grids. -/
namespace Go.Proofs.Tryz
open Go Go.Vm
def cSg : List Cs := [.int .i64, .int .i64, .int .i64, .int .i64, .int .i64]
theorem sg_of {d : D} (h : TyV (true, cSg) d) : ∃ r, d = sgD r := by
  obtain ⟨ds, rfl, hl, hc⟩ := agg_of h
  match ds, hl with
  | [a, b, c, e, f], _ =>
    obtain ⟨x0, rfl, -⟩ := int_of (hc 0 _ a rfl rfl)
    obtain ⟨x1, rfl, -⟩ := int_of (hc 1 _ b rfl rfl)
    obtain ⟨x2, rfl, -⟩ := int_of (hc 2 _ c rfl rfl)
    obtain ⟨x3, rfl, -⟩ := int_of (hc 3 _ e rfl rfl)
    obtain ⟨x4, rfl, -⟩ := int_of (hc 4 _ f rfl rfl)
    exact ⟨⟨x0, x1, x2, x3, x4⟩, rfl⟩
theorem sgs_of {d : D} (h : Ty (.sl true cSg) d) : ∃ l : List Sg, d = .sl 5 (l.map sgD) := by
  obtain ⟨es, rfl, he, -⟩ := sl_of h
  obtain ⟨l, rfl⟩ := map_of (fun d hd => sg_of hd) he
  exact ⟨l, rfl⟩
theorem ints_of {d : D} (h : Ty (.sl false [.int .i64]) d) : ∃ l : List Int, d = .sl 1 (l.map iD) := by
  obtain ⟨es, rfl, he, -⟩ := sl_of h
  obtain ⟨l, rfl⟩ := map_of (f := iD) (fun d hd => by
    obtain ⟨n, rfl, -⟩ := int_of (one_of hd)
    exact ⟨n, rfl⟩) he
  exact ⟨l, rfl⟩
end Go.Proofs.Tryz
end

section
namespace Go.Proofs.Tryz
open Go Go.Vm Go.Sort
set_option maxRecDepth 20000
set_option maxHeartbeats 4000000
/-! The reference's Keep; SoundingThins. -/
def longB (n : Nat) : Bool := (decide (25 < n) && decide (n ≤ 500)) || decide (600 < n)
theorem ev_long (l : List Sg) : Ev Tryz.prog 29 [.sl 5 (l.map sgD)] (.bool (longB l.length)) := by
  have hlen : (l.map sgD).length = l.length := List.length_map _
  refine ev_of_awp tysOk mixed (fn := Tryz.f29) Tryz.func29 rfl rfl rfl ?_
  conv => whnf
  repeat' (first
    | ((with_reducible refine Split.of_true ?_); conv => whnf)
    | ((with_reducible refine Split.of_false ?_); conv => whnf)
    | ((with_reducible refine Split.neg ?_))
    | ((with_reducible refine Split.is_true ?_ ?_); decide; conv => whnf)
    | ((with_reducible refine Split.is_false ?_ ?_); decide; conv => whnf)
    | ((with_reducible refine Split.nez (fun _ => ?_) (fun _ => ?_)) <;> conv => whnf)
    | ((with_reducible refine Split.eqz (fun _ => ?_) (fun _ => ?_)) <;> conv => whnf)
    | ((with_reducible refine Split.and ?_))
    | ((with_reducible refine Split.or ?_))
    | ((with_reducible refine Split.streq (fun _ => ?_) (fun _ => ?_)) <;> conv => whnf)
    | ((with_reducible refine Split.dec (fun _ => ?_) (fun _ => ?_)) <;> conv => whnf)
    | ((with_reducible refine Split.mk (fun _ => ?_) (fun _ => ?_)) <;> conv => whnf)
    | ((with_reducible refine NilK.mk (fun _ => ?_) ?_) <;> conv => whnf)
    | ((with_reducible refine AltK.l ?_); (conv => whnf); (with_reducible refine Need.mk ?_ ?_); (first | omega | (refine ⟨?_, ?_⟩ <;> simp <;> omega) | (simp; omega)); conv => whnf)
    | ((with_reducible refine Need.mk ?_ ?_); (first | omega | rfl | decide | (refine ⟨?_, ?_⟩ <;> simp <;> omega) | (simp; omega)); conv => whnf)
    | ((with_reducible refine Wr.quo ?_ ?_ ?_ ?_); omega; omega; omega; conv => whnf)
    | ((with_reducible refine Wr.inr ?_ ?_); (first | omega | (simp; omega)); conv => whnf)
    | ((with_reducible refine Wr.inu ?_ ?_); omega; conv => whnf)
    | (exfalso; first | omega | contradiction))
  all_goals
    have e : longB l.length = true ∨ longB l.length = false := by cases longB l.length <;> simp
    rcases e with e | e <;> rw [e] <;> simp [retOf, longB] at e ⊢ <;> omega
end Go.Proofs.Tryz
end

section
namespace Go.Proofs.Tryz
open Go Go.Vm Go.Sort
set_option maxRecDepth 20000
set_option maxHeartbeats 2000000
theorem ev_ModB (a b : Int) (hb : 0 < b ∧ b ≤ 1000000000000000000) : Ev Tryz.prog 21 [iD a, iD b] (iD (a % b)) := by
  have h1 := Int.tmod_eq_emod (a := a) (b := b)
  have h2 := Int.emod_nonneg a (Int.ne_of_gt hb.1)
  have h3 := Int.emod_lt_of_pos a hb.1
  have hn : (b.natAbs : Int) = b := by omega
  have hbd : -1000000000000000000 ≤ a.tmod b ∧ a.tmod b ≤ 1000000000000000000 := by rw [h1]; split <;> omega
  have h : (if a.tmod b < 0 then a.tmod b + b else a.tmod b) = a % b := by
    rw [h1]
    split <;> split <;> omega
  clear h1
  refine ev_of_awp tysOk mixed (fn := Tryz.f21) Tryz.func21 rfl rfl rfl ?_
  conv => whnf
  repeat' (first
    | ((with_reducible refine Split.of_true ?_); conv => whnf)
    | ((with_reducible refine Split.of_false ?_); conv => whnf)
    | ((with_reducible refine Split.neg ?_))
    | ((with_reducible refine Split.is_true ?_ ?_); decide; conv => whnf)
    | ((with_reducible refine Split.is_false ?_ ?_); decide; conv => whnf)
    | ((with_reducible refine Split.nez (fun _ => ?_) (fun _ => ?_)) <;> conv => whnf)
    | ((with_reducible refine Split.eqz (fun _ => ?_) (fun _ => ?_)) <;> conv => whnf)
    | ((with_reducible refine Split.and ?_))
    | ((with_reducible refine Split.or ?_))
    | ((with_reducible refine Split.streq (fun _ => ?_) (fun _ => ?_)) <;> conv => whnf)
    | ((with_reducible refine Split.dec (fun _ => ?_) (fun _ => ?_)) <;> conv => whnf)
    | ((with_reducible refine Split.mk (fun _ => ?_) (fun _ => ?_)) <;> conv => whnf)
    | ((with_reducible refine NilK.mk (fun _ => ?_) ?_) <;> conv => whnf)
    | ((with_reducible refine AltK.l ?_); (conv => whnf); (with_reducible refine Need.mk ?_ ?_); (first | omega | (refine ⟨?_, ?_⟩ <;> simp <;> omega) | (simp; omega)); conv => whnf)
    | ((with_reducible refine Need.mk ?_ ?_); (first | omega | rfl | decide | (refine ⟨?_, ?_⟩ <;> simp <;> omega) | (simp; omega)); conv => whnf)
    | ((with_reducible refine Wr.quo ?_ ?_ ?_ ?_); omega; omega; omega; conv => whnf)
    | ((with_reducible refine Wr.inr ?_ ?_); (first | omega | (simp; omega)); conv => whnf)
    | ((with_reducible refine Wr.inu ?_ ?_); omega; conv => whnf)
    | (exfalso; first | omega | contradiction))
  · rw [if_pos (by assumption)] at h; rw [← h]; rfl
  · rw [if_neg (by assumption)] at h; rw [← h]; rfl
end Go.Proofs.Tryz
end

section
namespace Go.Proofs.Tryz
open Go Go.Vm Go.Sort
set_option maxRecDepth 20000
set_option maxHeartbeats 4000000
/-! Nearest soundings. -/
end Go.Proofs.Tryz
end

section
namespace Go.Proofs.Tryz
open Go Go.Vm Go.Sort
set_option maxRecDepth 20000
set_option maxHeartbeats 4000000
/-! The reference's nearest soundings: it takes the least one that is left, again and again. -/
end Go.Proofs.Tryz
end

section
namespace Go.Proofs.Tryz
open Go Go.Vm Go.Sort
set_option maxRecDepth 20000
set_option maxHeartbeats 4000000
/-! Near. -/
end Go.Proofs.Tryz
end

section
namespace Go.Proofs.Tryz
open Go Go.Vm Go.Sort
set_option maxRecDepth 20000
set_option maxHeartbeats 4000000
/-! Spikes. -/
theorem ev_FloorB (a b : Int) (hb : 0 < b ∧ b ≤ 1000000000000) (ha : -1000000000000000 ≤ a ∧ a ≤ 1000000000000000) : Ev Tryz.prog 122 [iD a, iD b] (iD (a / b)) := by
  have h := ev_ModB a b ⟨hb.1, by omega⟩
  have e1 := Int.emod_nonneg a (Int.ne_of_gt hb.1)
  have e2 := Int.emod_lt_of_pos a hb.1
  have e3 : (a - a % b).tdiv b = a / b := by
    have : a - a % b = b * (a / b) := by have := Int.mul_ediv_add_emod a b; omega
    rw [this, Int.mul_tdiv_cancel_left _ (Int.ne_of_gt hb.1)]
  have e4 := ediv_bd (a := a) (b := b) (M := 1000000000000000) hb.1 (by omega)
  generalize a % b = m at *
  refine ev_of_awp tysOk mixed (fn := Tryz.f122) Tryz.func122 rfl rfl rfl ?_
  conv => whnf
  repeat' (first
    | (((rw [e3])); conv => whnf)
    | ((with_reducible refine Split.of_true ?_); conv => whnf)
    | ((with_reducible refine Split.of_false ?_); conv => whnf)
    | ((with_reducible refine Split.neg ?_))
    | ((with_reducible refine Split.is_true ?_ ?_); decide; conv => whnf)
    | ((with_reducible refine Split.is_false ?_ ?_); decide; conv => whnf)
    | ((with_reducible refine Split.nez (fun _ => ?_) (fun _ => ?_)) <;> conv => whnf)
    | ((with_reducible refine Split.eqz (fun _ => ?_) (fun _ => ?_)) <;> conv => whnf)
    | ((with_reducible refine Split.and ?_))
    | ((with_reducible refine Split.or ?_))
    | ((with_reducible refine Split.streq (fun _ => ?_) (fun _ => ?_)) <;> conv => whnf)
    | ((with_reducible refine Split.dec (fun _ => ?_) (fun _ => ?_)) <;> conv => whnf)
    | ((with_reducible refine Split.mk (fun _ => ?_) (fun _ => ?_)) <;> conv => whnf)
    | ((with_reducible refine NilK.mk (fun _ => ?_) ?_) <;> conv => whnf)
    | ((with_reducible refine AltK.l ?_); (conv => whnf); (with_reducible refine Need.mk ?_ ?_); (first | omega | (refine ⟨?_, ?_⟩ <;> simp <;> omega) | (simp; omega)); conv => whnf)
    | ((with_reducible refine Need.mk ?_ ?_); (first | omega | rfl | decide | (refine ⟨?_, ?_⟩ <;> simp <;> omega) | (simp; omega)); conv => whnf)
    | ((with_reducible refine Wr.quo ?_ ?_ ?_ ?_); omega; omega; omega; conv => whnf)
    | ((with_reducible refine Wr.inr ?_ ?_); (first | omega | (simp; omega)); conv => whnf)
    | ((with_reducible refine Wr.inu ?_ ?_); omega; conv => whnf)
    | ((with_reducible refine AltK.l ?_); (conv => whnf); (first | (refine CallK.mk _ (h) ?_)); conv => whnf)
    | (exfalso; first | omega | contradiction))
  rfl
end Go.Proofs.Tryz
end

section
/- A library function of the seat, laid (written by lay.sh). -/
open Go Go.Shelf
namespace Go.Proofs
def ly_LyM_ren : Shelf.Ren := ⟨fun | 212 => 183 | 263 => 196 | 264 => 197 | n => n, fun | 46 => 184 | 51 => 204 | 146 => 232 | 53 => 206 | 148 => 234 | n => n, fun | n => n⟩
theorem ly_LyM : Go.Proofs.Lays.n212 Tryz.prog ly_LyM_ren where
  mixed := by kernel_rfl
  f212 := Tryz.func183.trans (congrArg some (by kernel_rfl))
  f263 := Tryz.func196.trans (congrArg some (by kernel_rfl))
  f264 := Tryz.func197.trans (congrArg some (by kernel_rfl))
  t46 := Tryz.underlying184
  a46 := Tryz.isAgg184
  z46 := Tryz.sizeOf184
  v46 := Tryz.zeroValue184
  t51 := Tryz.underlying204
  a51 := Tryz.isAgg204
  z51 := Tryz.sizeOf204
  v51 := Tryz.zeroValue204
  t53 := Tryz.underlying206
  a53 := Tryz.isAgg206
  z53 := Tryz.sizeOf206
  v53 := Tryz.zeroValue206
  t146 := Tryz.underlying232
  a146 := Tryz.isAgg232
  z146 := Tryz.sizeOf232
  v146 := Tryz.zeroValue232
  t148 := Tryz.underlying234
  a148 := Tryz.isAgg234
  z148 := Tryz.sizeOf234
  v148 := Tryz.zeroValue234
end Go.Proofs
end

section
namespace Go.Proofs.Tryz
open Go Go.Vm Go.Sort
set_option maxRecDepth 20000
set_option maxHeartbeats 4000000
/-! Grids: cells, slices.Repeat. -/
theorem ev_MulU (x y : Int) (hx : 0 ≤ x ∧ x < 18446744073709551616) (hy : 0 ≤ y ∧ y < 18446744073709551616) (h : x * y < 18446744073709551616) : Ev Tryz.prog 183 [.int .u64 x, .int .u64 y] (.tup [.int .u64 0, .int .u64 (x * y)]) := Ev.mulU ly_LyM x y hx hy h
structure Gr where
  x : Int
  y : Int
  side : Int
  cols : Int
  rows : Int
  lv : List Int
def grD (g : Gr) : D := .agg [iD g.x, iD g.y, iD g.side, iD g.cols, iD g.rows, .sl 1 (g.lv.map iD)]
def frBad (g : Gr) : Bool := outsideB g.x (-1000000) 1000000 || outsideB g.y (-1000000) 1000000 || outsideB g.side 100 10000 || decide (g.cols < 1) || decide (g.rows < 1)
def frLarge (g : Gr) : Bool := decide (g.cols > 1024) || decide (g.rows > 1024) || decide (g.cols * g.rows > 1024)
def frErr (g : Gr) : Int := if frBad g = true then 2 else if frLarge g = true then 8 else 0
structure FrOk (g : Gr) : Prop where
  x : -1000000 ≤ g.x ∧ g.x ≤ 1000000
  y : -1000000 ≤ g.y ∧ g.y ≤ 1000000
  side : 100 ≤ g.side ∧ g.side ≤ 10000
  cols : 1 ≤ g.cols ∧ g.cols ≤ 1024
  rows : 1 ≤ g.rows ∧ g.rows ≤ 1024
  all : 1 ≤ g.cols * g.rows ∧ g.cols * g.rows ≤ 1024
theorem fr_ok {g : Gr} (h : frErr g = 0) : FrOk g := by
  unfold frErr at h
  split at h
  · cases h
  · rename_i h1
    split at h
    · cases h
    · rename_i h2
      simp only [frBad, frLarge, outsideB, Bool.not_eq_true, Bool.or_eq_false_iff, decide_eq_false_iff_not] at h1 h2
      refine ⟨by omega, by omega, by omega, by omega, by omega, ?_, by omega⟩
      have := Int.mul_le_mul (show 1 ≤ g.cols by omega) (show 1 ≤ g.rows by omega) (by omega) (by omega)
      omega
theorem ev_checkCells (g : Gr) : Ev Tryz.prog 120 [grD g] (iD (frErr g)) := by
  have h1 := ev_w2 g.x g.y (-1000000) 1000000
  have h2 := ev_w1 g.side 100 10000
  by_cases hc : 1 ≤ g.cols ∧ g.cols ≤ 1024 ∧ 1 ≤ g.rows ∧ g.rows ≤ 1024
  · have m := mul_bd (x := g.cols) (y := g.rows) (X := 1024) (Y := 1024) (by omega) (by omega)
    unfold frErr frBad frLarge
    generalize outsideB g.x (-1000000) 1000000 = b1 at *
    generalize outsideB g.y (-1000000) 1000000 = b2 at *
    generalize outsideB g.side 100 10000 = b3 at *
    cases b1 <;> cases b2 <;> cases b3
    all_goals
      refine ev_of_awp tysOk mixed (fn := Tryz.f120) Tryz.func120 rfl rfl rfl ?_
      conv => whnf
      repeat' (first
        | ((with_reducible refine Split.of_true ?_); conv => whnf)
        | ((with_reducible refine Split.of_false ?_); conv => whnf)
        | ((with_reducible refine Split.neg ?_))
        | ((with_reducible refine Split.is_true ?_ ?_); decide; conv => whnf)
        | ((with_reducible refine Split.is_false ?_ ?_); decide; conv => whnf)
        | ((with_reducible refine Split.nez (fun _ => ?_) (fun _ => ?_)) <;> conv => whnf)
        | ((with_reducible refine Split.eqz (fun _ => ?_) (fun _ => ?_)) <;> conv => whnf)
        | ((with_reducible refine Split.and ?_))
        | ((with_reducible refine Split.or ?_))
        | ((with_reducible refine Split.streq (fun _ => ?_) (fun _ => ?_)) <;> conv => whnf)
        | ((with_reducible refine Split.dec (fun _ => ?_) (fun _ => ?_)) <;> conv => whnf)
        | ((with_reducible refine Split.mk (fun _ => ?_) (fun _ => ?_)) <;> conv => whnf)
        | ((with_reducible refine NilK.mk (fun _ => ?_) ?_) <;> conv => whnf)
        | ((with_reducible refine AltK.l ?_); (conv => whnf); (with_reducible refine Need.mk ?_ ?_); (first | omega | (refine ⟨?_, ?_⟩ <;> simp <;> omega) | (simp; omega)); conv => whnf)
        | ((with_reducible refine Need.mk ?_ ?_); (first | omega | rfl | decide | (refine ⟨?_, ?_⟩ <;> simp <;> omega) | (simp; omega)); conv => whnf)
        | ((with_reducible refine Wr.quo ?_ ?_ ?_ ?_); omega; omega; omega; conv => whnf)
        | ((with_reducible refine Wr.inr ?_ ?_); (first | omega | (simp; omega)); conv => whnf)
        | ((with_reducible refine Wr.inu ?_ ?_); omega; conv => whnf)
        | ((with_reducible refine AltK.l ?_); (conv => whnf); (first | (refine CallK.mk _ (h1) ?_) | (refine CallK.mk _ (h2) ?_)); conv => whnf)
        | (exfalso; first | omega | contradiction))
      all_goals (simp_all [retOf, iD] <;> omega)
  · unfold frErr frBad frLarge
    generalize outsideB g.x (-1000000) 1000000 = b1 at *
    generalize outsideB g.y (-1000000) 1000000 = b2 at *
    generalize outsideB g.side 100 10000 = b3 at *
    cases b1 <;> cases b2 <;> cases b3
    all_goals
      refine ev_of_awp tysOk mixed (fn := Tryz.f120) Tryz.func120 rfl rfl rfl ?_
      conv => whnf
      repeat' (first
        | ((with_reducible refine Split.of_true ?_); conv => whnf)
        | ((with_reducible refine Split.of_false ?_); conv => whnf)
        | ((with_reducible refine Split.neg ?_))
        | ((with_reducible refine Split.is_true ?_ ?_); decide; conv => whnf)
        | ((with_reducible refine Split.is_false ?_ ?_); decide; conv => whnf)
        | ((with_reducible refine Split.nez (fun _ => ?_) (fun _ => ?_)) <;> conv => whnf)
        | ((with_reducible refine Split.eqz (fun _ => ?_) (fun _ => ?_)) <;> conv => whnf)
        | ((with_reducible refine Split.and ?_))
        | ((with_reducible refine Split.or ?_))
        | ((with_reducible refine Split.streq (fun _ => ?_) (fun _ => ?_)) <;> conv => whnf)
        | ((with_reducible refine Split.dec (fun _ => ?_) (fun _ => ?_)) <;> conv => whnf)
        | ((with_reducible refine Split.mk (fun _ => ?_) (fun _ => ?_)) <;> conv => whnf)
        | ((with_reducible refine NilK.mk (fun _ => ?_) ?_) <;> conv => whnf)
        | ((with_reducible refine AltK.l ?_); (conv => whnf); (with_reducible refine Need.mk ?_ ?_); (first | omega | (refine ⟨?_, ?_⟩ <;> simp <;> omega) | (simp; omega)); conv => whnf)
        | ((with_reducible refine Need.mk ?_ ?_); (first | omega | rfl | decide | (refine ⟨?_, ?_⟩ <;> simp <;> omega) | (simp; omega)); conv => whnf)
        | ((with_reducible refine Wr.quo ?_ ?_ ?_ ?_); omega; omega; omega; conv => whnf)
        | ((with_reducible refine Wr.inr ?_ ?_); (first | omega | (simp; omega)); conv => whnf)
        | ((with_reducible refine Wr.inu ?_ ?_); omega; conv => whnf)
        | ((with_reducible refine AltK.l ?_); (conv => whnf); (first | (refine CallK.mk _ (h1) ?_) | (refine CallK.mk _ (h2) ?_)); conv => whnf)
        | (exfalso; first | omega | contradiction))
      all_goals (simp_all [retOf, iD] <;> omega)
theorem ev_CheckFrame (g : Gr) : Ev Tryz.prog 117 [grD g] (iD (frErr g)) := by
  have h1 := ev_Within g.x (-1000000) 1000000
  have h2 := ev_Within g.y (-1000000) 1000000
  have h3 := ev_Within g.side 100 10000
  by_cases hc : 1 ≤ g.cols ∧ g.cols ≤ 1024 ∧ 1 ≤ g.rows ∧ g.rows ≤ 1024
  · have m := mul_bd (x := g.cols) (y := g.rows) (X := 1024) (Y := 1024) (by omega) (by omega)
    unfold frErr frBad frLarge
    generalize outsideB g.x (-1000000) 1000000 = b1 at *
    generalize outsideB g.y (-1000000) 1000000 = b2 at *
    generalize outsideB g.side 100 10000 = b3 at *
    cases b1 <;> cases b2 <;> cases b3
    all_goals
      refine ev_of_awp tysOk mixed (fn := Tryz.f117) Tryz.func117 rfl rfl rfl ?_
      conv => whnf
      repeat' (first
        | ((with_reducible refine Split.of_true ?_); conv => whnf)
        | ((with_reducible refine Split.of_false ?_); conv => whnf)
        | ((with_reducible refine Split.neg ?_))
        | ((with_reducible refine Split.is_true ?_ ?_); decide; conv => whnf)
        | ((with_reducible refine Split.is_false ?_ ?_); decide; conv => whnf)
        | ((with_reducible refine Split.nez (fun _ => ?_) (fun _ => ?_)) <;> conv => whnf)
        | ((with_reducible refine Split.eqz (fun _ => ?_) (fun _ => ?_)) <;> conv => whnf)
        | ((with_reducible refine Split.and ?_))
        | ((with_reducible refine Split.or ?_))
        | ((with_reducible refine Split.streq (fun _ => ?_) (fun _ => ?_)) <;> conv => whnf)
        | ((with_reducible refine Split.dec (fun _ => ?_) (fun _ => ?_)) <;> conv => whnf)
        | ((with_reducible refine Split.mk (fun _ => ?_) (fun _ => ?_)) <;> conv => whnf)
        | ((with_reducible refine NilK.mk (fun _ => ?_) ?_) <;> conv => whnf)
        | ((with_reducible refine AltK.l ?_); (conv => whnf); (with_reducible refine Need.mk ?_ ?_); (first | omega | (refine ⟨?_, ?_⟩ <;> simp <;> omega) | (simp; omega)); conv => whnf)
        | ((with_reducible refine Need.mk ?_ ?_); (first | omega | rfl | decide | (refine ⟨?_, ?_⟩ <;> simp <;> omega) | (simp; omega)); conv => whnf)
        | ((with_reducible refine Wr.quo ?_ ?_ ?_ ?_); omega; omega; omega; conv => whnf)
        | ((with_reducible refine Wr.inr ?_ ?_); (first | omega | (simp; omega)); conv => whnf)
        | ((with_reducible refine Wr.inu ?_ ?_); omega; conv => whnf)
        | ((with_reducible refine AltK.l ?_); (conv => whnf); (first | (refine CallK.mk _ (h1) ?_) | (refine CallK.mk _ (h2) ?_) | (refine CallK.mk _ (h3) ?_)); conv => whnf)
        | (exfalso; first | omega | contradiction))
      all_goals (simp_all [retOf, iD] <;> omega)
  · unfold frErr frBad frLarge
    generalize outsideB g.x (-1000000) 1000000 = b1 at *
    generalize outsideB g.y (-1000000) 1000000 = b2 at *
    generalize outsideB g.side 100 10000 = b3 at *
    cases b1 <;> cases b2 <;> cases b3
    all_goals
      refine ev_of_awp tysOk mixed (fn := Tryz.f117) Tryz.func117 rfl rfl rfl ?_
      conv => whnf
      repeat' (first
        | ((with_reducible refine Split.of_true ?_); conv => whnf)
        | ((with_reducible refine Split.of_false ?_); conv => whnf)
        | ((with_reducible refine Split.neg ?_))
        | ((with_reducible refine Split.is_true ?_ ?_); decide; conv => whnf)
        | ((with_reducible refine Split.is_false ?_ ?_); decide; conv => whnf)
        | ((with_reducible refine Split.nez (fun _ => ?_) (fun _ => ?_)) <;> conv => whnf)
        | ((with_reducible refine Split.eqz (fun _ => ?_) (fun _ => ?_)) <;> conv => whnf)
        | ((with_reducible refine Split.and ?_))
        | ((with_reducible refine Split.or ?_))
        | ((with_reducible refine Split.streq (fun _ => ?_) (fun _ => ?_)) <;> conv => whnf)
        | ((with_reducible refine Split.dec (fun _ => ?_) (fun _ => ?_)) <;> conv => whnf)
        | ((with_reducible refine Split.mk (fun _ => ?_) (fun _ => ?_)) <;> conv => whnf)
        | ((with_reducible refine NilK.mk (fun _ => ?_) ?_) <;> conv => whnf)
        | ((with_reducible refine AltK.l ?_); (conv => whnf); (with_reducible refine Need.mk ?_ ?_); (first | omega | (refine ⟨?_, ?_⟩ <;> simp <;> omega) | (simp; omega)); conv => whnf)
        | ((with_reducible refine Need.mk ?_ ?_); (first | omega | rfl | decide | (refine ⟨?_, ?_⟩ <;> simp <;> omega) | (simp; omega)); conv => whnf)
        | ((with_reducible refine Wr.quo ?_ ?_ ?_ ?_); omega; omega; omega; conv => whnf)
        | ((with_reducible refine Wr.inr ?_ ?_); (first | omega | (simp; omega)); conv => whnf)
        | ((with_reducible refine Wr.inu ?_ ?_); omega; conv => whnf)
        | ((with_reducible refine AltK.l ?_); (conv => whnf); (first | (refine CallK.mk _ (h1) ?_) | (refine CallK.mk _ (h2) ?_) | (refine CallK.mk _ (h3) ?_)); conv => whnf)
        | (exfalso; first | omega | contradiction))
      all_goals (simp_all [retOf, iD] <;> omega)
/-- The cell of a place, -1 if there is none. -/
def cellI (g : Gr) (s : Sg) : Int := if s.x - g.x < 0 ∨ s.y - g.y < 0 ∨ g.cols * g.side ≤ s.x - g.x ∨ g.rows * g.side ≤ s.y - g.y then -1 else (s.y - g.y) / g.side * g.cols + (s.x - g.x) / g.side
theorem div_in {a b n : Int} (hb : 0 < b) (h0 : 0 ≤ a) (h : a < n * b) : 0 ≤ a / b ∧ a / b < n := ⟨Int.ediv_nonneg h0 (by omega), Int.ediv_lt_of_lt_mul hb h⟩
theorem cell_in {g : Gr} (h : FrOk g) {s : Sg} (hc : cellI g s ≠ -1) : 0 ≤ cellI g s ∧ cellI g s < g.cols * g.rows := by
  unfold cellI at *
  split at hc
  · contradiction
  · rename_i h1
    rw [if_neg h1]
    have hs := h.side
    have hco := h.cols
    obtain ⟨a1, a2⟩ := div_in (a := s.x - g.x) (b := g.side) (n := g.cols) (by omega) (by omega) (by omega)
    obtain ⟨b1, b2⟩ := div_in (a := s.y - g.y) (b := g.side) (n := g.rows) (by omega) (by omega) (by omega)
    have m1 := Int.mul_nonneg b1 (show 0 ≤ g.cols by omega)
    have m2 := Int.mul_le_mul_of_nonneg_right (show (s.y - g.y) / g.side ≤ g.rows - 1 by omega) (show 0 ≤ g.cols by omega)
    rw [Int.sub_mul, Int.one_mul, Int.mul_comm g.rows] at m2
    omega
theorem ev_cell (g : Gr) (s : Sg) (h : FrOk g) (hs : -1000000 ≤ s.x ∧ s.x ≤ 1000000 ∧ -1000000 ≤ s.y ∧ s.y ≤ 1000000) : Ev Tryz.prog 121 [grD g, sgD s] (.tup [iD (if cellI g s = -1 then 0 else cellI g s), .bool (decide (cellI g s ≠ -1))]) := by
  have m1 := mul_bd (x := g.cols) (y := g.side) (X := 1024) (Y := 10000) (by have := h.cols; omega) (by have := h.side; omega)
  have m2 := mul_bd (x := g.rows) (y := g.side) (X := 1024) (Y := 10000) (by have := h.rows; omega) (by have := h.side; omega)
  have hx := h.x
  have hy := h.y
  have hsd := h.side
  have hco := h.cols
  have hro := h.rows
  by_cases hin : s.x - g.x < 0 ∨ s.y - g.y < 0 ∨ g.cols * g.side ≤ s.x - g.x ∨ g.rows * g.side ≤ s.y - g.y
  · have e : cellI g s = -1 := by rw [cellI, if_pos hin]
    rw [e]
    refine ev_of_awp tysOk mixed (fn := Tryz.f121) Tryz.func121 rfl rfl rfl ?_
    conv => whnf
    repeat' (first
      | ((with_reducible refine Split.of_true ?_); conv => whnf)
      | ((with_reducible refine Split.of_false ?_); conv => whnf)
      | ((with_reducible refine Split.neg ?_))
      | ((with_reducible refine Split.is_true ?_ ?_); decide; conv => whnf)
      | ((with_reducible refine Split.is_false ?_ ?_); decide; conv => whnf)
      | ((with_reducible refine Split.nez (fun _ => ?_) (fun _ => ?_)) <;> conv => whnf)
      | ((with_reducible refine Split.eqz (fun _ => ?_) (fun _ => ?_)) <;> conv => whnf)
      | ((with_reducible refine Split.and ?_))
      | ((with_reducible refine Split.or ?_))
      | ((with_reducible refine Split.streq (fun _ => ?_) (fun _ => ?_)) <;> conv => whnf)
      | ((with_reducible refine Split.dec (fun _ => ?_) (fun _ => ?_)) <;> conv => whnf)
      | ((with_reducible refine Split.mk (fun _ => ?_) (fun _ => ?_)) <;> conv => whnf)
      | ((with_reducible refine NilK.mk (fun _ => ?_) ?_) <;> conv => whnf)
      | ((with_reducible refine AltK.l ?_); (conv => whnf); (with_reducible refine Need.mk ?_ ?_); (first | omega | (refine ⟨?_, ?_⟩ <;> simp <;> omega) | (simp; omega)); conv => whnf)
      | ((with_reducible refine Need.mk ?_ ?_); (first | omega | rfl | decide | (refine ⟨?_, ?_⟩ <;> simp <;> omega) | (simp; omega)); conv => whnf)
      | ((with_reducible refine Wr.quo ?_ ?_ ?_ ?_); omega; omega; omega; conv => whnf)
      | ((with_reducible refine Wr.inr ?_ ?_); (first | omega | (simp; omega)); conv => whnf)
      | ((with_reducible refine Wr.inu ?_ ?_); omega; conv => whnf)
      | (exfalso; first | omega | contradiction))
    all_goals rfl
  · obtain ⟨a1, a2⟩ := div_in (a := s.x - g.x) (b := g.side) (n := g.cols) (by omega) (by omega) (by omega)
    obtain ⟨b1, b2⟩ := div_in (a := s.y - g.y) (b := g.side) (n := g.rows) (by omega) (by omega) (by omega)
    have m3 := mul_bd (x := (s.y - g.y) / g.side) (y := g.cols) (X := 1024) (Y := 1024) (by omega) (by omega)
    have m4 := Int.mul_nonneg b1 (show 0 ≤ g.cols by omega)
    have e : cellI g s = (s.y - g.y) / g.side * g.cols + (s.x - g.x) / g.side := by rw [cellI, if_neg hin]
    have e2 : cellI g s ≠ -1 := by omega
    rw [if_neg e2, decide_eq_true e2, e]
    refine ev_of_awp tysOk mixed (fn := Tryz.f121) Tryz.func121 rfl rfl rfl ?_
    conv => whnf
    repeat' (first
      | ((with_reducible refine Split.of_true ?_); conv => whnf)
      | ((with_reducible refine Split.of_false ?_); conv => whnf)
      | ((with_reducible refine Split.neg ?_))
      | ((with_reducible refine Split.is_true ?_ ?_); decide; conv => whnf)
      | ((with_reducible refine Split.is_false ?_ ?_); decide; conv => whnf)
      | ((with_reducible refine Split.nez (fun _ => ?_) (fun _ => ?_)) <;> conv => whnf)
      | ((with_reducible refine Split.eqz (fun _ => ?_) (fun _ => ?_)) <;> conv => whnf)
      | ((with_reducible refine Split.and ?_))
      | ((with_reducible refine Split.or ?_))
      | ((with_reducible refine Split.streq (fun _ => ?_) (fun _ => ?_)) <;> conv => whnf)
      | ((with_reducible refine Split.dec (fun _ => ?_) (fun _ => ?_)) <;> conv => whnf)
      | ((with_reducible refine Split.mk (fun _ => ?_) (fun _ => ?_)) <;> conv => whnf)
      | ((with_reducible refine NilK.mk (fun _ => ?_) ?_) <;> conv => whnf)
      | ((with_reducible refine AltK.l ?_); (conv => whnf); (with_reducible refine Need.mk ?_ ?_); (first | omega | (refine ⟨?_, ?_⟩ <;> simp <;> omega) | (simp; omega)); conv => whnf)
      | ((with_reducible refine Need.mk ?_ ?_); (first | omega | rfl | decide | (refine ⟨?_, ?_⟩ <;> simp <;> omega) | (simp; omega)); conv => whnf)
      | ((with_reducible refine Wr.quo ?_ ?_ ?_ ?_); omega; omega; omega; conv => whnf)
      | ((with_reducible refine Wr.inr ?_ ?_); (first | omega | (simp; omega)); conv => whnf)
      | ((with_reducible refine Wr.inu ?_ ?_); omega; conv => whnf)
      | (exfalso; first | omega | contradiction))
    all_goals rfl
theorem ev_Cell (g : Gr) (x y : Int) (h : FrOk g) (hs : -1000000 ≤ x ∧ x ≤ 1000000 ∧ -1000000 ≤ y ∧ y ≤ 1000000) : Ev Tryz.prog 56 [grD g, iD x, iD y] (iD (cellI g ⟨0, x, y, 0, 0⟩)) := by
  have hx := h.x
  have hy := h.y
  have hsd := h.side
  have hco := h.cols
  have hro := h.rows
  have h1 := ev_FloorB (x - g.x) g.side (by omega) (by omega)
  have h2 := ev_FloorB (y - g.y) g.side (by omega) (by omega)
  have h3 := ev_Within ((x - g.x) / g.side) 0 (g.cols - 1)
  have h4 := ev_Within ((y - g.y) / g.side) 0 (g.rows - 1)
  have d1 := ediv_bd (a := x - g.x) (b := g.side) (M := 2000000) (by omega) (by omega)
  have d2 := ediv_bd (a := y - g.y) (b := g.side) (M := 2000000) (by omega) (by omega)
  have k1 : ∀ (a n : Int), (0 ≤ a / g.side ∧ a / g.side ≤ n - 1) ↔ (0 ≤ a ∧ a < n * g.side) := by
    intro a n
    constructor
    · rintro ⟨q1, q2⟩
      have r1 := Int.ediv_mul_le a (show g.side ≠ 0 by omega)
      have r2 := Int.lt_ediv_add_one_mul_self a (show 0 < g.side by omega)
      have r3 := Int.mul_nonneg q1 (show 0 ≤ g.side by omega)
      have r4 := Int.mul_le_mul_of_nonneg_right (show a / g.side + 1 ≤ n by omega) (show 0 ≤ g.side by omega)
      omega
    · rintro ⟨q1, q2⟩
      have := div_in (a := a) (b := g.side) (n := n) (by omega) q1 q2
      omega
  have kx := k1 (x - g.x) g.cols
  have ky := k1 (y - g.y) g.rows
  have e : cellI g ⟨0, x, y, 0, 0⟩ = if outsideB ((x - g.x) / g.side) 0 (g.cols - 1) = false ∧ outsideB ((y - g.y) / g.side) 0 (g.rows - 1) = false then (y - g.y) / g.side * g.cols + (x - g.x) / g.side else -1 := by
    have o1 : outsideB ((x - g.x) / g.side) 0 (g.cols - 1) = false ↔ (0 ≤ (x - g.x) / g.side ∧ (x - g.x) / g.side ≤ g.cols - 1) := by simp [outsideB]
    have o2 : outsideB ((y - g.y) / g.side) 0 (g.rows - 1) = false ↔ (0 ≤ (y - g.y) / g.side ∧ (y - g.y) / g.side ≤ g.rows - 1) := by simp [outsideB]
    unfold cellI
    dsimp only
    by_cases hin : x - g.x < 0 ∨ y - g.y < 0 ∨ g.cols * g.side ≤ x - g.x ∨ g.rows * g.side ≤ y - g.y
    · have : ¬ (outsideB ((x - g.x) / g.side) 0 (g.cols - 1) = false ∧ outsideB ((y - g.y) / g.side) 0 (g.rows - 1) = false) := by rw [o1, o2, kx, ky]; omega
      rw [if_pos hin, if_neg this]
    · have : outsideB ((x - g.x) / g.side) 0 (g.cols - 1) = false ∧ outsideB ((y - g.y) / g.side) 0 (g.rows - 1) = false := by rw [o1, o2, kx, ky]; omega
      rw [if_neg hin, if_pos this]
  rw [e]
  have kx2 : outsideB ((x - g.x) / g.side) 0 (g.cols - 1) = false → 0 ≤ (x - g.x) / g.side ∧ (x - g.x) / g.side ≤ g.cols - 1 := by simp [outsideB]
  have ky2 : outsideB ((y - g.y) / g.side) 0 (g.rows - 1) = false → 0 ≤ (y - g.y) / g.side ∧ (y - g.y) / g.side ≤ g.rows - 1 := by simp [outsideB]
  clear kx ky k1 e
  generalize outsideB ((x - g.x) / g.side) 0 (g.cols - 1) = b1 at *
  generalize outsideB ((y - g.y) / g.side) 0 (g.rows - 1) = b2 at *
  generalize (x - g.x) / g.side = c at *
  generalize (y - g.y) / g.side = r at *
  cases b1 with
  | true =>
    rw [if_neg (by simp)]
    refine ev_of_awp tysOk mixed (fn := Tryz.f56) Tryz.func56 rfl rfl rfl ?_
    conv => whnf
    repeat' (first
      | ((with_reducible refine Split.of_true ?_); conv => whnf)
      | ((with_reducible refine Split.of_false ?_); conv => whnf)
      | ((with_reducible refine Split.neg ?_))
      | ((with_reducible refine Split.is_true ?_ ?_); decide; conv => whnf)
      | ((with_reducible refine Split.is_false ?_ ?_); decide; conv => whnf)
      | ((with_reducible refine Split.nez (fun _ => ?_) (fun _ => ?_)) <;> conv => whnf)
      | ((with_reducible refine Split.eqz (fun _ => ?_) (fun _ => ?_)) <;> conv => whnf)
      | ((with_reducible refine Split.and ?_))
      | ((with_reducible refine Split.or ?_))
      | ((with_reducible refine Split.streq (fun _ => ?_) (fun _ => ?_)) <;> conv => whnf)
      | ((with_reducible refine Split.dec (fun _ => ?_) (fun _ => ?_)) <;> conv => whnf)
      | ((with_reducible refine Split.mk (fun _ => ?_) (fun _ => ?_)) <;> conv => whnf)
      | ((with_reducible refine NilK.mk (fun _ => ?_) ?_) <;> conv => whnf)
      | ((with_reducible refine AltK.l ?_); (conv => whnf); (with_reducible refine Need.mk ?_ ?_); (first | omega | (refine ⟨?_, ?_⟩ <;> simp <;> omega) | (simp; omega)); conv => whnf)
      | ((with_reducible refine Need.mk ?_ ?_); (first | omega | rfl | decide | (refine ⟨?_, ?_⟩ <;> simp <;> omega) | (simp; omega)); conv => whnf)
      | ((with_reducible refine Wr.quo ?_ ?_ ?_ ?_); omega; omega; omega; conv => whnf)
      | ((with_reducible refine Wr.inr ?_ ?_); (first | omega | (simp; omega)); conv => whnf)
      | ((with_reducible refine Wr.inu ?_ ?_); omega; conv => whnf)
      | ((with_reducible refine AltK.l ?_); (conv => whnf); (first | (refine CallK.mk _ (h1) ?_) | (refine CallK.mk _ (h2) ?_) | (refine CallK.mk _ (h3) ?_)); conv => whnf)
      | (exfalso; first | omega | contradiction))
    rfl
  | false =>
    cases b2 with
    | true =>
      rw [if_neg (by simp)]
      refine ev_of_awp tysOk mixed (fn := Tryz.f56) Tryz.func56 rfl rfl rfl ?_
      conv => whnf
      repeat' (first
        | ((with_reducible refine Split.of_true ?_); conv => whnf)
        | ((with_reducible refine Split.of_false ?_); conv => whnf)
        | ((with_reducible refine Split.neg ?_))
        | ((with_reducible refine Split.is_true ?_ ?_); decide; conv => whnf)
        | ((with_reducible refine Split.is_false ?_ ?_); decide; conv => whnf)
        | ((with_reducible refine Split.nez (fun _ => ?_) (fun _ => ?_)) <;> conv => whnf)
        | ((with_reducible refine Split.eqz (fun _ => ?_) (fun _ => ?_)) <;> conv => whnf)
        | ((with_reducible refine Split.and ?_))
        | ((with_reducible refine Split.or ?_))
        | ((with_reducible refine Split.streq (fun _ => ?_) (fun _ => ?_)) <;> conv => whnf)
        | ((with_reducible refine Split.dec (fun _ => ?_) (fun _ => ?_)) <;> conv => whnf)
        | ((with_reducible refine Split.mk (fun _ => ?_) (fun _ => ?_)) <;> conv => whnf)
        | ((with_reducible refine NilK.mk (fun _ => ?_) ?_) <;> conv => whnf)
        | ((with_reducible refine AltK.l ?_); (conv => whnf); (with_reducible refine Need.mk ?_ ?_); (first | omega | (refine ⟨?_, ?_⟩ <;> simp <;> omega) | (simp; omega)); conv => whnf)
        | ((with_reducible refine Need.mk ?_ ?_); (first | omega | rfl | decide | (refine ⟨?_, ?_⟩ <;> simp <;> omega) | (simp; omega)); conv => whnf)
        | ((with_reducible refine Wr.quo ?_ ?_ ?_ ?_); omega; omega; omega; conv => whnf)
        | ((with_reducible refine Wr.inr ?_ ?_); (first | omega | (simp; omega)); conv => whnf)
        | ((with_reducible refine Wr.inu ?_ ?_); omega; conv => whnf)
        | ((with_reducible refine AltK.l ?_); (conv => whnf); (first | (refine CallK.mk _ (h1) ?_) | (refine CallK.mk _ (h2) ?_) | (refine CallK.mk _ (h3) ?_) | (refine CallK.mk _ (h4) ?_)); conv => whnf)
        | (exfalso; first | omega | contradiction))
      rfl
    | false =>
      rw [if_pos ⟨rfl, rfl⟩]
      have q1 := kx2 rfl
      have q2 := ky2 rfl
      have m3 := mul_bd (x := r) (y := g.cols) (X := 1024) (Y := 1024) (by omega) (by omega)
      refine ev_of_awp tysOk mixed (fn := Tryz.f56) Tryz.func56 rfl rfl rfl ?_
      conv => whnf
      repeat' (first
        | ((with_reducible refine Split.of_true ?_); conv => whnf)
        | ((with_reducible refine Split.of_false ?_); conv => whnf)
        | ((with_reducible refine Split.neg ?_))
        | ((with_reducible refine Split.is_true ?_ ?_); decide; conv => whnf)
        | ((with_reducible refine Split.is_false ?_ ?_); decide; conv => whnf)
        | ((with_reducible refine Split.nez (fun _ => ?_) (fun _ => ?_)) <;> conv => whnf)
        | ((with_reducible refine Split.eqz (fun _ => ?_) (fun _ => ?_)) <;> conv => whnf)
        | ((with_reducible refine Split.and ?_))
        | ((with_reducible refine Split.or ?_))
        | ((with_reducible refine Split.streq (fun _ => ?_) (fun _ => ?_)) <;> conv => whnf)
        | ((with_reducible refine Split.dec (fun _ => ?_) (fun _ => ?_)) <;> conv => whnf)
        | ((with_reducible refine Split.mk (fun _ => ?_) (fun _ => ?_)) <;> conv => whnf)
        | ((with_reducible refine NilK.mk (fun _ => ?_) ?_) <;> conv => whnf)
        | ((with_reducible refine AltK.l ?_); (conv => whnf); (with_reducible refine Need.mk ?_ ?_); (first | omega | (refine ⟨?_, ?_⟩ <;> simp <;> omega) | (simp; omega)); conv => whnf)
        | ((with_reducible refine Need.mk ?_ ?_); (first | omega | rfl | decide | (refine ⟨?_, ?_⟩ <;> simp <;> omega) | (simp; omega)); conv => whnf)
        | ((with_reducible refine Wr.quo ?_ ?_ ?_ ?_); omega; omega; omega; conv => whnf)
        | ((with_reducible refine Wr.inr ?_ ?_); (first | omega | (simp; omega)); conv => whnf)
        | ((with_reducible refine Wr.inu ?_ ?_); omega; conv => whnf)
        | ((with_reducible refine AltK.l ?_); (conv => whnf); (first | (refine CallK.mk _ (h1) ?_) | (refine CallK.mk _ (h2) ?_) | (refine CallK.mk _ (h3) ?_) | (refine CallK.mk _ (h4) ?_)); conv => whnf)
        | (exfalso; first | omega | contradiction))
      rfl
theorem cell_xy (g : Gr) (s : Sg) : cellI g ⟨0, s.x, s.y, 0, 0⟩ = cellI g s := rfl
def repE (v : Int) (n m : Nat) : List D := List.replicate m (iD v) ++ List.replicate (n - m) (D.int .i64 0)
theorem repE_len (v : Int) {n m : Nat} (h : m ≤ n) : (repE v n m).length = n := by simp [repE]; omega
theorem rep_first (v : Int) {n : Nat} (h : 1 ≤ n) : cpy (List.replicate n (D.int .i64 0)) 0 (n - 0) [iD v] = repE v n 1 := by
  simp only [cpy, repE, List.take_zero, List.nil_append, List.drop_replicate]
  rw [show min (n - 0) [iD v].length = 1 by simp; omega, List.take_of_length_le (by simp; omega)]
  simp
theorem rep_step (v : Int) {n m : Nat} (_h : m < n) : cpy (repE v n m) m (n - m) (((repE v n m).take m).drop 0) = repE v n (m + min (n - m) m) := by
  have e1 : (repE v n m).take m = List.replicate m (iD v) := by simp [repE]
  have e2 : ∀ k, m ≤ k → (repE v n m).drop k = List.replicate (n - k) (D.int .i64 0) := by
    intro k hk
    rw [repE, List.drop_append, List.drop_replicate, List.drop_replicate, List.length_replicate]
    rw [show m - k = 0 by omega, show n - m - (k - m) = n - k by omega]; rfl
  rw [cpy, e1, List.drop_zero, List.length_replicate, e2 _ (by omega), List.take_replicate, repE, List.replicate_append_replicate]
theorem xv_Repeat (v : Int) (n : Nat) (hn : 1 ≤ n ∧ n ≤ 1024) : EvX Tryz.prog 146 [.own 1000 1 1, .d (iD n)] [(1000, .row 3 1 [iD v] false)] (.own 9 1 n) [(1000, .row 3 1 [iD v] false), (9, .row 3 1 (List.replicate n (iD v)) false)] := by
  have h1 := ev_MulU 1 n (by omega) (by omega) (by omega)
  rw [Int.one_mul] at h1
  refine evx_of_awp tysOk mixed (fn := Tryz.f146) Tryz.func146 rfl rfl rfl ?_
  conv => whnf
  repeat' (first
    | ((with_reducible refine Wr.inu (by first | omega | simp) ?_); conv => whnf)
    | ((with_reducible refine Split.of_true ?_); conv => whnf)
    | ((with_reducible refine Split.of_false ?_); conv => whnf)
    | ((with_reducible refine Split.neg ?_))
    | ((with_reducible refine Split.is_true ?_ ?_); decide; conv => whnf)
    | ((with_reducible refine Split.is_false ?_ ?_); decide; conv => whnf)
    | ((with_reducible refine Split.nez (fun _ => ?_) (fun _ => ?_)) <;> conv => whnf)
    | ((with_reducible refine Split.eqz (fun _ => ?_) (fun _ => ?_)) <;> conv => whnf)
    | ((with_reducible refine Split.and ?_))
    | ((with_reducible refine Split.or ?_))
    | ((with_reducible refine Split.streq (fun _ => ?_) (fun _ => ?_)) <;> conv => whnf)
    | ((with_reducible refine Split.dec (fun _ => ?_) (fun _ => ?_)) <;> conv => whnf)
    | ((with_reducible refine Split.mk (fun _ => ?_) (fun _ => ?_)) <;> conv => whnf)
    | ((with_reducible refine NilK.mk (fun _ => ?_) ?_) <;> conv => whnf)
    | ((with_reducible refine AltK.l ?_); (conv => whnf); (with_reducible refine Need.mk ?_ ?_); (first | omega | (refine ⟨?_, ?_⟩ <;> simp <;> omega) | (simp; omega)); conv => whnf)
    | ((with_reducible refine Need.mk ?_ ?_); (first | omega | rfl | decide | (refine ⟨?_, ?_⟩ <;> simp <;> omega) | (simp; omega)); conv => whnf)
    | ((with_reducible refine Wr.quo ?_ ?_ ?_ ?_); omega; omega; omega; conv => whnf)
    | ((with_reducible refine Wr.inr ?_ ?_); (first | omega | (simp; omega)); conv => whnf)
    | ((with_reducible refine Wr.inu ?_ ?_); omega; conv => whnf)
    | ((with_reducible refine AltK.l ?_); (conv => whnf); (first | (refine CallK.mk _ (h1) ?_)); conv => whnf)
    | (exfalso; first | omega | contradiction))
  have hmp1 : cpy (List.replicate ((n : Int)).toNat (D.int .i64 0)) 0 ((List.replicate ((n : Int)).toNat (D.int .i64 0)).length - 0) [iD v] = repE v n 1 := by
    rw [Int.toNat_natCast, List.length_replicate]; exact rep_first v hn.1
  refine LoopK.o2 (fun m : Nat => 1 ≤ m ∧ m ≤ n) (fun m => [(8, .d (.int .i64 m))]) (fun m => [(30, .row 3 1 (repE v n m) false)]) (fun m => n - m) 1 ⟨by omega, by omega⟩ (by refine ⟨?_, ?_, rfl⟩ <;> (repeat' (first | exact True.intro | exact rfl | refine ⟨?_, ?_⟩ | (intro h; cases h; done) | (intro h; exact h) | exact map_snoc | (refine own_congr ?_; simp; done) | (refine int_congr ?_; (first | omega | (simp; omega))) | (simp; done) | exact hmp1 | ((first | refine own_congr ?_ | refine int_congr ?_ | skip); simp [D.cells]; done) | ((first | refine own_congr ?_ | refine int_congr ?_); simp [D.cells]; omega) | (show @Eq (List Go.Vm.D) _ []; simp [D.cells]; done) | (simp [D.cells, D.cells]; done)))) ?_
  rintro m ⟨hm1, hm2⟩
  have hl := repE_len v hm2
  by_cases hmn : m < n
  · conv => whnf
    repeat' (first
      | ((with_reducible refine Split.of_true ?_); conv => whnf)
      | ((with_reducible refine Split.of_false ?_); conv => whnf)
      | ((with_reducible refine Split.neg ?_))
      | ((with_reducible refine Split.is_true ?_ ?_); decide; conv => whnf)
      | ((with_reducible refine Split.is_false ?_ ?_); decide; conv => whnf)
      | ((with_reducible refine Split.nez (fun _ => ?_) (fun _ => ?_)) <;> conv => whnf)
      | ((with_reducible refine Split.eqz (fun _ => ?_) (fun _ => ?_)) <;> conv => whnf)
      | ((with_reducible refine Split.and ?_))
      | ((with_reducible refine Split.or ?_))
      | ((with_reducible refine Split.streq (fun _ => ?_) (fun _ => ?_)) <;> conv => whnf)
      | ((with_reducible refine Split.dec (fun _ => ?_) (fun _ => ?_)) <;> conv => whnf)
      | ((with_reducible refine Split.mk (fun _ => ?_) (fun _ => ?_)) <;> conv => whnf)
      | ((with_reducible refine NilK.mk (fun _ => ?_) ?_) <;> conv => whnf)
      | ((with_reducible refine Need.mk ?_ ?_); (first | omega | rfl | decide | (refine ⟨?_, ?_⟩ <;> simp <;> omega) | (simp; omega)); conv => whnf)
      | ((with_reducible refine Wr.quo ?_ ?_ ?_ ?_); omega; omega; omega; conv => whnf)
      | ((with_reducible refine Wr.inr ?_ ?_); (first | omega | (simp; omega)); conv => whnf)
      | ((with_reducible refine Wr.inu ?_ ?_); omega; conv => whnf)
      | (exfalso; first | omega | contradiction))
    refine AltK.r (AltK.l ?_)
    conv => whnf
    conv => whnf
    repeat' (first
      | ((with_reducible refine Split.of_true ?_); conv => whnf)
      | ((with_reducible refine Split.of_false ?_); conv => whnf)
      | ((with_reducible refine Split.neg ?_))
      | ((with_reducible refine Split.is_true ?_ ?_); decide; conv => whnf)
      | ((with_reducible refine Split.is_false ?_ ?_); decide; conv => whnf)
      | ((with_reducible refine Split.nez (fun _ => ?_) (fun _ => ?_)) <;> conv => whnf)
      | ((with_reducible refine Split.eqz (fun _ => ?_) (fun _ => ?_)) <;> conv => whnf)
      | ((with_reducible refine Split.and ?_))
      | ((with_reducible refine Split.or ?_))
      | ((with_reducible refine Split.streq (fun _ => ?_) (fun _ => ?_)) <;> conv => whnf)
      | ((with_reducible refine Split.dec (fun _ => ?_) (fun _ => ?_)) <;> conv => whnf)
      | ((with_reducible refine Split.mk (fun _ => ?_) (fun _ => ?_)) <;> conv => whnf)
      | ((with_reducible refine NilK.mk (fun _ => ?_) ?_) <;> conv => whnf)
      | ((with_reducible refine Need.mk ?_ ?_); (first | omega | rfl | decide | (refine ⟨?_, ?_⟩ <;> simp <;> omega) | (simp; omega)); conv => whnf)
      | ((with_reducible refine Wr.quo ?_ ?_ ?_ ?_); omega; omega; omega; conv => whnf)
      | ((with_reducible refine Wr.inr ?_ ?_); (first | omega | (simp; omega)); conv => whnf)
      | ((with_reducible refine Wr.inu ?_ ?_); omega; conv => whnf)
      | (exfalso; first | omega | contradiction))
    refine AltK.r (AltK.l ?_)
    conv => whnf
    conv => whnf
    repeat' (first
      | ((with_reducible refine Split.of_true ?_); conv => whnf)
      | ((with_reducible refine Split.of_false ?_); conv => whnf)
      | ((with_reducible refine Split.neg ?_))
      | ((with_reducible refine Split.is_true ?_ ?_); decide; conv => whnf)
      | ((with_reducible refine Split.is_false ?_ ?_); decide; conv => whnf)
      | ((with_reducible refine Split.nez (fun _ => ?_) (fun _ => ?_)) <;> conv => whnf)
      | ((with_reducible refine Split.eqz (fun _ => ?_) (fun _ => ?_)) <;> conv => whnf)
      | ((with_reducible refine Split.and ?_))
      | ((with_reducible refine Split.or ?_))
      | ((with_reducible refine Split.streq (fun _ => ?_) (fun _ => ?_)) <;> conv => whnf)
      | ((with_reducible refine Split.dec (fun _ => ?_) (fun _ => ?_)) <;> conv => whnf)
      | ((with_reducible refine Split.mk (fun _ => ?_) (fun _ => ?_)) <;> conv => whnf)
      | ((with_reducible refine NilK.mk (fun _ => ?_) ?_) <;> conv => whnf)
      | ((with_reducible refine Need.mk ?_ ?_); (first | omega | rfl | decide | (refine ⟨?_, ?_⟩ <;> simp <;> omega) | (simp; omega)); conv => whnf)
      | ((with_reducible refine Wr.quo ?_ ?_ ?_ ?_); omega; omega; omega; conv => whnf)
      | ((with_reducible refine Wr.inr ?_ ?_); (first | omega | (simp; omega)); conv => whnf)
      | ((with_reducible refine Wr.inu ?_ ?_); omega; conv => whnf)
      | (exfalso; first | omega | contradiction))
    have hmin : min (((repE v n m).length : Int).toNat - (m : Int).toNat) (((repE v n m).take (m : Int).toNat).drop (Int.toNat 0)).length = min (n - m) m := by
      rw [Int.toNat_natCast, Int.toNat_natCast, hl, show Int.toNat 0 = 0 from rfl, List.drop_zero, List.length_take, hl, Nat.min_eq_left hm2]
    have hmp3 : cpy (repE v n m) (m : Int).toNat (((repE v n m).length : Int).toNat - (m : Int).toNat) (((repE v n m).take (m : Int).toNat).drop (Int.toNat 0)) = repE v n (m + min (n - m) m) := by
      rw [Int.toNat_natCast, Int.toNat_natCast, hl]; exact rep_step v hmn
    have hmp4 : AV.d (.int .i64 ((m : Int) + ((min (((repE v n m).length : Int).toNat - (m : Int).toNat) (((repE v n m).take (m : Int).toNat).drop (Int.toNat 0)).length : Nat) : Int))) = AV.d (.int .i64 ((m + min (n - m) m : Nat) : Int)) := by
      rw [hmin]; congr 2
    exact Again.au (m + min (n - m) m) ⟨by omega, by omega⟩ (by omega) (by refine ⟨?_, ?_, rfl⟩ <;> (repeat' (first | exact True.intro | exact rfl | refine ⟨?_, ?_⟩ | (intro h; cases h; done) | (intro h; exact h) | exact map_snoc | (refine own_congr ?_; simp; done) | (refine int_congr ?_; (first | omega | (simp; omega))) | (simp; done) | exact hmp3 | exact hmp4 | ((first | refine own_congr ?_ | refine int_congr ?_ | skip); simp [D.cells]; done) | ((first | refine own_congr ?_ | refine int_congr ?_); simp [D.cells]; omega) | (show @Eq (List Go.Vm.D) _ []; simp [D.cells]; done) | (simp [D.cells, D.cells]; done))))
  · conv => whnf
    repeat' (first
      | ((with_reducible refine Split.of_true ?_); conv => whnf)
      | ((with_reducible refine Split.of_false ?_); conv => whnf)
      | ((with_reducible refine Split.neg ?_))
      | ((with_reducible refine Split.is_true ?_ ?_); decide; conv => whnf)
      | ((with_reducible refine Split.is_false ?_ ?_); decide; conv => whnf)
      | ((with_reducible refine Split.nez (fun _ => ?_) (fun _ => ?_)) <;> conv => whnf)
      | ((with_reducible refine Split.eqz (fun _ => ?_) (fun _ => ?_)) <;> conv => whnf)
      | ((with_reducible refine Split.and ?_))
      | ((with_reducible refine Split.or ?_))
      | ((with_reducible refine Split.streq (fun _ => ?_) (fun _ => ?_)) <;> conv => whnf)
      | ((with_reducible refine Split.dec (fun _ => ?_) (fun _ => ?_)) <;> conv => whnf)
      | ((with_reducible refine Split.mk (fun _ => ?_) (fun _ => ?_)) <;> conv => whnf)
      | ((with_reducible refine NilK.mk (fun _ => ?_) ?_) <;> conv => whnf)
      | ((with_reducible refine AltK.l ?_); (conv => whnf); (with_reducible refine Need.mk ?_ ?_); (first | omega | (refine ⟨?_, ?_⟩ <;> simp <;> omega) | (simp; omega)); conv => whnf)
      | ((with_reducible refine Need.mk ?_ ?_); (first | omega | rfl | decide | (refine ⟨?_, ?_⟩ <;> simp <;> omega) | (simp; omega)); conv => whnf)
      | ((with_reducible refine Wr.quo ?_ ?_ ?_ ?_); omega; omega; omega; conv => whnf)
      | ((with_reducible refine Wr.inr ?_ ?_); (first | omega | (simp; omega)); conv => whnf)
      | ((with_reducible refine Wr.inu ?_ ?_); omega; conv => whnf)
      | (exfalso; first | omega | contradiction))
    have e : m = n := by omega
    subst e
    have hmp5 : repE v m m = List.replicate m (iD v) := by simp [repE]
    exact ⟨⟨[(9, some 30)], (by refine ⟨?_, ?_, rfl⟩ <;> (repeat' (first | exact True.intro | exact rfl | refine ⟨?_, ?_⟩ | (intro h; cases h; done) | (intro h; exact h) | exact map_snoc | (refine own_congr ?_; simp; done) | (refine int_congr ?_; (first | omega | (simp; omega))) | (simp; done) | exact hmp5 | ((first | refine own_congr ?_ | refine int_congr ?_ | skip); simp [D.cells]; done) | ((first | refine own_congr ?_ | refine int_congr ?_); simp [D.cells]; omega) | (show @Eq (List Go.Vm.D) _ []; simp [D.cells]; done) | (simp [D.cells, D.cells]; done))))⟩, rfl⟩
end Go.Proofs.Tryz
end

section
namespace Go.Proofs.Tryz
open Go Go.Vm Go.Sort
set_option maxRecDepth 20000
set_option maxHeartbeats 4000000
/-! Binning: the greatest value of each cell. -/
def zget (es : List (Int × Int)) (k : Int) : Option Int := match es with
  | [] => none
  | p :: r => if k = p.1 then some p.2 else zget r k
def zput : List (Int × Int) → Int → Int → List (Int × Int)
  | [], k, x => [(k, x)]
  | p :: r, k, x => if k = p.1 then (k, x) :: r else p :: zput r k x
def zD (es : List (Int × Int)) : List (D × D) := es.map fun p => (iD p.1, iD p.2)
theorem mget_z (k : Int) : ∀ es : List (Int × Int), mget (zD es) (iD k) = (zget es k).map iD
  | [] => rfl
  | p :: r => by
    have ih := mget_z k r
    simp only [zD, List.map_cons] at ih ⊢
    rw [mget, ih, zget]
    by_cases h : k = p.1 <;> simp [keyEq, iD, h]
theorem mput_z (k x : Int) : ∀ es : List (Int × Int), mput (zD es) (iD k) (iD x) = zD (zput es k x)
  | [] => rfl
  | p :: r => by
    have ih := mput_z k x r
    simp only [zD, List.map_cons] at ih ⊢
    rw [mput, ih, zput]
    by_cases h : k = p.1 <;> simp [keyEq, iD, h]
theorem zget_put (k x j : Int) : ∀ es : List (Int × Int), zget (zput es k x) j = if j = k then some x else zget es j
  | [] => by simp only [zput, zget]
  | p :: r => by
    have ih := zget_put k x j r
    rw [zput]
    by_cases h : k = p.1
    · rw [if_pos h, zget, zget, h]
      split <;> rfl
    · rw [if_neg h, zget, zget, ih]
      by_cases h2 : j = p.1
      · subst h2; rw [if_pos rfl, if_pos rfl, if_neg (Ne.symm h)]
      · rw [if_neg h2, if_neg h2]
theorem zput_keys (k x : Int) : ∀ es : List (Int × Int), ∀ p ∈ zput es k x, p.1 = k ∨ p.1 ∈ es.map Prod.fst
  | [], p, h => by simp [zput] at h; left; rw [h]
  | q :: r, p, h => by
    rw [zput] at h
    split at h
    · rcases List.mem_cons.1 h with rfl | h
      · exact .inl rfl
      · right; simp; right; exact ⟨p.2, h⟩
    · rcases List.mem_cons.1 h with rfl | h
      · right; simp
      · rcases zput_keys k x r p h with h | h
        · exact .inl h
        · right; rw [List.map_cons]; exact List.mem_cons_of_mem _ h
theorem zput_nodup (k x : Int) : ∀ es : List (Int × Int), es.Pairwise (fun a b => a.1 ≠ b.1) → (zput es k x).Pairwise fun a b => a.1 ≠ b.1
  | [], _ => by simp [zput]
  | p :: r, h => by
    obtain ⟨h1, h2⟩ := List.pairwise_cons.1 h
    rw [zput]
    split
    · rename_i e
      exact List.pairwise_cons.2 ⟨fun q hq => by rw [e]; exact h1 q hq, h2⟩
    · rename_i e
      refine List.pairwise_cons.2 ⟨fun q hq => ?_, zput_nodup k x r h2⟩
      rcases zput_keys k x r q hq with h3 | h3
      · rw [h3]; exact Ne.symm e
      · obtain ⟨t, ht, e2⟩ := List.mem_map.1 h3
        rw [← e2]; exact h1 t ht
theorem zget_mem : ∀ {es : List (Int × Int)}, es.Pairwise (fun a b => a.1 ≠ b.1) → ∀ p ∈ es, zget es p.1 = some p.2
  | [], _, p, h => by cases h
  | q :: r, h, p, hp => by
    obtain ⟨h1, h2⟩ := List.pairwise_cons.1 h
    rw [zget]
    rcases List.mem_cons.1 hp with rfl | hp
    · rw [if_pos rfl]
    · rw [if_neg (Ne.symm (h1 p hp))]; exact zget_mem h2 p hp
theorem zget_some : ∀ {es : List (Int × Int)} {k x : Int}, zget es k = some x → (k, x) ∈ es
  | [], k, x, h => by cases h
  | q :: r, k, x, h => by
    rw [zget] at h
    split at h
    · rename_i e; cases h; rw [e]; exact List.mem_cons_self
    · exact List.mem_cons_of_mem _ (zget_some h)
def bnStep (g : Gr) (v : Sg → Int) (es : List (Int × Int)) (s : Sg) : List (Int × Int) := if cellI g s = -1 then es else match zget es (cellI g s) with
  | some o => if v s > o then zput es (cellI g s) (v s) else es
  | none => zput es (cellI g s) (v s)
def bnS (g : Gr) (v : Sg → Int) (m : List Sg) : List (Int × Int) := m.foldl (bnStep g v) []
def mxStep (g : Gr) (v : Sg → Int) (i : Int) (o : Option Int) (s : Sg) : Option Int := if cellI g s = i then (match o with
  | some x => some (if v s > x then v s else x)
  | none => some (v s)) else o
def maxO (g : Gr) (v : Sg → Int) (m : List Sg) (i : Int) : Option Int := m.foldl (mxStep g v i) none
theorem bn_snoc (g : Gr) (v : Sg → Int) {m : List Sg} {i : Nat} {s : Sg} (h : m[i]? = some s) : bnS g v (m.take (i + 1)) = bnStep g v (bnS g v (m.take i)) s := by
  rw [bnS, take_snoc h, List.foldl_append]; rfl
structure BnOk (g : Gr) (v : Sg → Int) (m : List Sg) : Prop where
  get : ∀ i, i ≠ -1 → zget (bnS g v m) i = maxO g v m i
  nod : (bnS g v m).Pairwise fun a b => a.1 ≠ b.1
  key : ∀ p ∈ bnS g v m, ∃ s ∈ m, p.1 = cellI g s ∧ cellI g s ≠ -1
theorem bn_ok (g : Gr) (v : Sg → Int) (m : List Sg) : BnOk g v m := by
  refine list_snoc (P := BnOk g v) ⟨fun _ _ => rfl, .nil, fun p h => (by cases h)⟩ (fun m s ih => ?_) m
  have e1 : bnS g v (m ++ [s]) = bnStep g v (bnS g v m) s := by rw [bnS, List.foldl_append]; rfl
  have e2 : ∀ i, maxO g v (m ++ [s]) i = mxStep g v i (maxO g v m i) s := fun i => by rw [maxO, List.foldl_append]; rfl
  obtain ⟨h1, h2, h3⟩ := ih
  have h3' : ∀ p ∈ bnS g v m, ∃ t ∈ m ++ [s], p.1 = cellI g t ∧ cellI g t ≠ -1 := fun p hp => by
    obtain ⟨t, ht, h⟩ := h3 p hp
    exact ⟨t, List.mem_append_left _ ht, h⟩
  have hput : cellI g s ≠ -1 → ∀ p ∈ zput (bnS g v m) (cellI g s) (v s), ∃ t ∈ m ++ [s], p.1 = cellI g t ∧ cellI g t ≠ -1 := by
    intro hc p hp
    rcases zput_keys _ _ _ p hp with h | h
    · exact ⟨s, by simp, h, hc⟩
    · obtain ⟨q, hq, e⟩ := List.mem_map.1 h
      rw [← e]; exact h3' q hq
  constructor
  · intro i hi
    rw [e1, e2, bnStep]
    unfold mxStep
    by_cases hc : cellI g s = -1
    · rw [if_pos hc, if_neg (by omega), h1 i hi]
    · rw [if_neg hc]
      have hz := h1 (cellI g s) hc
      by_cases hci : cellI g s = i
      · rw [if_pos hci]
        subst hci
        rw [← hz]
        cases hq : zget (bnS g v m) (cellI g s) with
        | none => simp only [zget_put, if_pos]
        | some o =>
          simp only
          split
          · rw [zget_put, if_pos rfl]
          · exact hq
      · rw [if_neg hci, ← h1 i hi]
        cases hq : zget (bnS g v m) (cellI g s) with
        | none => simp only [zget_put]; rw [if_neg (Ne.symm hci)]
        | some o =>
          simp only
          split
          · rw [zget_put, if_neg (Ne.symm hci)]
          · rfl
  · rw [e1, bnStep]
    repeat' split
    all_goals first | exact h2 | exact zput_nodup _ _ _ h2
  · rw [e1, bnStep]
    split
    · exact h3'
    · rename_i hc
      repeat' split
      all_goals first | exact hput hc | exact h3'
def cellsN (g : Gr) : Nat := (g.cols * g.rows).toNat
def levS (g : Gr) (v : Sg → Int) (l : List Sg) : List Int := (List.range (cellsN g)).map fun i : Nat => (maxO g v l (i : Int)).getD 30000
def badO : Option Int → Bool
  | some x => outsideB x (-20000) 20000
  | none => false
def badS (g : Gr) (v : Sg → Int) (l : List Sg) : Bool := (List.range (cellsN g)).any fun i : Nat => badO (maxO g v l (i : Int))
def gr0 : Gr := ⟨0, 0, 0, 0, 0, []⟩
def binRes (g : Gr) (v : Sg → Int) (l : List Sg) : Gr × Int := if chkErr sgB Sg.n l ≠ 0 then (gr0, chkErr sgB Sg.n l) else if frErr g ≠ 0 then (gr0, frErr g) else if badS g v l = true then (gr0, 2) else ({ g with lv := levS g v l }, 0)
def grE (x : Gr × Int) : D := .tup [grD x.1, iD x.2]
theorem bad_lv {g : Gr} {v : Sg → Int} {l : List Sg} (hF : FrOk g) : badS g v l = (bnS g v l).any fun p => outsideB p.2 (-20000) 20000 := by
  obtain ⟨h1, h2, h3⟩ := bn_ok g v l
  rw [Bool.eq_iff_iff, badS, List.any_eq_true, List.any_eq_true]
  constructor
  · rintro ⟨i, hi, hb⟩
    rw [← h1 i (by omega)] at hb
    cases hz : zget (bnS g v l) i with
    | none => rw [hz] at hb; cases hb
    | some x => rw [hz] at hb; exact ⟨_, zget_some hz, hb⟩
  · rintro ⟨p, hp, hb⟩
    obtain ⟨s, _, e, hc⟩ := h3 p hp
    have hin := cell_in hF hc
    refine ⟨p.1.toNat, by rw [List.mem_range]; unfold cellsN; omega, ?_⟩
    have e2 : ((p.1.toNat : Nat) : Int) = p.1 := by omega
    rw [e2, ← h1 p.1 (by omega), zget_mem h2 p hp]
    exact hb
def rowOf (lv : List (Int × Int)) (n : Nat) (seen : List Nat) : List Int := seen.foldr (fun j row => match lv[j]? with
  | some p => row.set p.1.toNat p.2
  | none => row) (List.replicate n 30000)
theorem rowOf_len (lv : List (Int × Int)) (n : Nat) : ∀ seen, (rowOf lv n seen).length = n
  | [] => by simp [rowOf]
  | j :: seen => by
    have := rowOf_len lv n seen
    rw [rowOf, List.foldr_cons]
    rw [rowOf] at this
    split <;> simp [this]
theorem rowOf_get {lv : List (Int × Int)} {n : Nat} (hk : ∀ p ∈ lv, 0 ≤ p.1) {i : Nat} (hi : i < n) : ∀ seen, (rowOf lv n seen)[i]? = some (match (seen.filterMap fun j => lv[j]?).find? (fun p => p.1 == (i : Int)) with
    | some p => p.2
    | none => 30000)
  | [] => by simp [rowOf, hi]
  | j :: seen => by
    have ih := rowOf_get hk hi seen
    have hl := rowOf_len lv n seen
    rw [rowOf, List.foldr_cons]
    rw [rowOf] at ih hl
    cases hj : lv[j]? with
    | none => simp only [List.filterMap_cons, hj]; exact ih
    | some p =>
      have h0 := hk p (List.mem_of_getElem? hj)
      simp only [List.filterMap_cons, hj, List.find?_cons]
      by_cases e : p.1 = (i : Int)
      · have e2 : p.1.toNat = i := by omega
        have e3 : (p.1 == (i : Int)) = true := by simpa using e
        rw [e3, e2, List.getElem?_set]; simp [hl, hi]
      · have e2 : p.1.toNat ≠ i := by omega
        have e3 : (p.1 == (i : Int)) = false := by simpa using e
        rw [e3, List.getElem?_set_ne e2]; exact ih
theorem rowOf_all {g : Gr} {v : Sg → Int} {l : List Sg} (hF : FrOk g) {seen : List Nat} (h : ∀ j, j < (bnS g v l).length → j ∈ seen) : rowOf (bnS g v l) (cellsN g) seen = levS g v l := by
  obtain ⟨h1, h2, h3⟩ := bn_ok g v l
  have hk : ∀ p ∈ bnS g v l, 0 ≤ p.1 := fun p hp => by
    obtain ⟨s, _, e, hc⟩ := h3 p hp
    have := cell_in hF hc
    omega
  apply List.ext_getElem?
  intro i
  by_cases hi : i < cellsN g
  · rw [rowOf_get hk hi, levS, List.getElem?_map, List.getElem?_range hi, Option.map_some]
    congr 1
    rw [← h1 i (by omega)]
    cases hf : (seen.filterMap fun j => (bnS g v l)[j]?).find? fun p => p.1 == (i : Int) with
    | some p =>
      have hm := List.mem_of_find?_eq_some hf
      have he : p.1 = i := by simpa using List.find?_some hf
      obtain ⟨j, _, hj⟩ := List.mem_filterMap.1 hm
      rw [← he, zget_mem h2 p (List.mem_of_getElem? hj)]; rfl
    | none =>
      cases hz : zget (bnS g v l) i with
      | none => rfl
      | some x =>
        have hx := zget_some hz
        obtain ⟨j, hj, e⟩ := List.getElem_of_mem hx
        have := List.find?_eq_none.1 hf ((i : Int), x) (List.mem_filterMap.2 ⟨j, h j hj, by rw [List.getElem?_eq_getElem hj, e]⟩)
        simp at this
  · rw [List.getElem?_eq_none (by rw [rowOf_len]; omega), List.getElem?_eq_none (by rw [levS, List.length_map, List.length_range]; omega)]
end Go.Proofs.Tryz
end

section
namespace Go.Proofs.Tryz
open Go Go.Vm Go.Sort
set_option maxRecDepth 20000
set_option maxHeartbeats 8000000
/-! Right thinnings. -/
/-- What is kept so far: in order, out of the sheet, under the numbers that were read. -/
structure KOk (l : List Sg) (k : List Int) (i : Nat) (o : List Sg) : Prop where
  nums : o.map Sg.n = k.take i
  sub : ∀ s ∈ o, s ∈ l
  up : o.Pairwise fun a b => a.n < b.n
theorem KOk.len {l : List Sg} {k : List Int} {i : Nat} {o : List Sg} (h : KOk l k i o) : o.length = min i k.length := by
  have := congrArg List.length h.nums
  rwa [List.length_map, List.length_take] at this
theorem nodup_len : ∀ (n : Nat) (l : List Nat), l.Nodup → (∀ x ∈ l, x < n) → l.length ≤ n
  | 0, l, _, h => by
    cases l with
    | nil => simp
    | cons a r => have := h a (by simp); omega
  | n + 1, l, hn, h => by
    by_cases hm : n ∈ l
    · have := nodup_len n (l.erase n) (hn.erase n) fun x hx => by
        have h1 := h x (List.mem_of_mem_erase hx)
        have h2 : x ≠ n := ((hn.mem_erase_iff).1 hx).1
        omega
      rw [List.length_erase_of_mem hm] at this
      omega
    · have := nodup_len n l hn fun x hx => by
        have h1 := h x hx
        have : x ≠ n := by rintro rfl; exact hm hx
        omega
      omega
end Go.Proofs.Tryz
end
