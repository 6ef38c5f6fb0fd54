/- Texts SdI SdJ, joined. -/
import Derived.Test.YtkkngciaphfifaaGreatMgT
import Derived.Test.YtkkngciaphfifaaGreatMgS
import Derived.Test.YtkkngciaphfifaaGreatMgI
section
namespace Go.Proofs.Tryz
open Go Go.Vm Go.Sort
set_option maxRecDepth 20000
set_option maxHeartbeats 2000000
theorem orI4 (a b c d : Int) : orI [a, b, c, d] < 0 ↔ a < 0 ∨ a = 0 ∧ (b < 0 ∨ b = 0 ∧ (c < 0 ∨ c = 0 ∧ d < 0)) := by
  simp only [orI]
  repeat' split
  all_goals omega
theorem cmpI_neg (x y : Int) : cmpI x y < 0 ↔ x < y := by
  unfold cmpI
  repeat' split
  all_goals omega
theorem cmpI_zero (x y : Int) : cmpI x y = 0 ↔ x = y := by
  unfold cmpI
  repeat' split
  all_goals omega
theorem cfThin_lt (a b : Sg) : cfThin a b < 0 ↔ b.hi < a.hi ∨ b.hi = a.hi ∧ (a.x < b.x ∨ a.x = b.x ∧ (a.y < b.y ∨ a.y = b.y ∧ a.n < b.n)) := by
  unfold cfThin
  rw [orI4]
  simp only [cmpI_neg, cmpI_zero]
theorem swoThin : SWO fun x y => decide (cfThin x y < 0) where
  irrefl x := by simp only [cfThin_lt, decide_eq_false_iff_not]; omega
  trans x y z := by simp only [cfThin_lt, decide_eq_true_eq]; omega
  ntrans x y z := by simp only [cfThin_lt, decide_eq_false_iff_not]; omega
def NoTwo (l : List Sg) : Prop := l.Pairwise fun a b => a.n ≠ b.n
theorem noTwo_eq {l : List Sg} (h : NoTwo l) : ∀ x ∈ l, ∀ y ∈ l, x.n = y.n → x = y := by
  intro x hx y hy e
  obtain ⟨i, hi, rfl⟩ := List.getElem_of_mem hx
  obtain ⟨j, hj, rfl⟩ := List.getElem_of_mem hy
  rcases Nat.lt_trichotomy i j with h1 | h1 | h1
  · exact absurd e (List.pairwise_iff_getElem.1 h i j hi hj h1)
  · subst h1; rfl
  · exact absurd e.symm (List.pairwise_iff_getElem.1 h j i hj hi h1)
theorem xv_SortThin (l : List Sg) (hu : NoTwo l) (hl : l.length ≤ 500) : EvX Tryz.prog 77 [.own 1000 5 (l.map sgD).length, .d (.fn 78 [])] [(1000, .row 36 5 (l.map sgD) false)] (.tup []) [(1000, .row 36 5 ((sortL cfThin l).map sgD) false)] := by
  have h := EvX.sortFunc ly_LyS sgD 5 (fun w => isAgg36 w) (fun w => sizeOf36 w) (fun _ => rfl) (fun x c hc => by
    simp only [sgD, D.cells, List.mem_cons, List.mem_nil_iff, or_false] at hc
    rcases hc with rfl | rfl | rfl | rfl | rfl <;> rfl) (fun x => ⟨_, rfl⟩) cfThin swoThin 78 [] l (fun x hx y hy h1 h2 => noTwo_eq hu x hx y hy (by
    rw [cfThin_lt] at h1 h2; omega)) (fun x _ y _ => ev_Thin1 x y) (by omega) 1000
  rw [List.length_map]
  exact h
theorem ev_Thin2 (k s : Sg) (r : Int) (hk : -1000000 ≤ k.x ∧ k.x ≤ 1000000 ∧ -1000000 ≤ k.y ∧ k.y ≤ 1000000) (hs : -1000000 ≤ s.x ∧ s.x ≤ 1000000 ∧ -1000000 ≤ s.y ∧ s.y ≤ 1000000) (hr : 0 ≤ r ∧ r ≤ 2000000) :
    Ev Tryz.prog 82 [sgD k, .ref [iD s.n, iD s.x, iD s.y, iD s.lo, iD s.hi] 0, .ref [iD r] 0] (.bool (decide (sqS k s.x s.y ≤ r * r))) := by
  have h := ev_square k s.x s.y hk hs
  have m := mul_bd (x := r) (y := r) (X := 2000000) (Y := 2000000) (by omega) (by omega)
  refine ev_of_awp tysOk mixed (fn := Tryz.f82) Tryz.func82 rfl rfl rfl ?_
  conv => whnf
  repeat' (first
    | ((with_reducible refine Split.of_true ?_); conv => whnf)
    | ((with_reducible refine Split.of_false ?_); conv => whnf)
    | ((with_reducible refine Split.neg ?_))
    | ((with_reducible refine Split.is_true ?_ ?_); decide; conv => whnf)
    | ((with_reducible refine Split.is_false ?_ ?_); decide; conv => whnf)
    | ((with_reducible refine Split.nez (fun _ => ?_) (fun _ => ?_)) <;> conv => whnf)
    | ((with_reducible refine Split.eqz (fun _ => ?_) (fun _ => ?_)) <;> conv => whnf)
    | ((with_reducible refine Split.and ?_))
    | ((with_reducible refine Split.or ?_))
    | ((with_reducible refine Split.streq (fun _ => ?_) (fun _ => ?_)) <;> conv => whnf)
    | ((with_reducible refine Split.dec (fun _ => ?_) (fun _ => ?_)) <;> conv => whnf)
    | ((with_reducible refine Split.mk (fun _ => ?_) (fun _ => ?_)) <;> conv => whnf)
    | ((with_reducible refine NilK.mk (fun _ => ?_) ?_) <;> conv => whnf)
    | ((with_reducible refine AltK.l ?_); (conv => whnf); (with_reducible refine Need.mk ?_ ?_); (first | omega | (refine ⟨?_, ?_⟩ <;> simp <;> omega) | (simp; omega)); conv => whnf)
    | ((with_reducible refine Need.mk ?_ ?_); (first | omega | rfl | decide | (refine ⟨?_, ?_⟩ <;> simp <;> omega) | (simp; omega)); conv => whnf)
    | ((with_reducible refine Wr.quo ?_ ?_ ?_ ?_); omega; omega; omega; conv => whnf)
    | ((with_reducible refine Wr.inr ?_ ?_); (first | omega | (simp; omega)); conv => whnf)
    | ((with_reducible refine Wr.inu ?_ ?_); omega; conv => whnf)
    | ((with_reducible refine AltK.l ?_); (conv => whnf); (first | (refine CallK.mk _ (h) ?_)); conv => whnf)
    | (exfalso; first | omega | contradiction))
  rfl
theorem ev_Thin3 (a b : Int × Int) : Ev Tryz.prog 86 [.agg [iD a.1, iD a.2], .agg [iD b.1, iD b.2]] (iD (cmpI a.1 b.1)) := by
  refine ev_of_awp tysOk mixed (fn := Tryz.f86) Tryz.func86 rfl rfl rfl ?_
  conv => whnf
  repeat' (first
    | ((refine PickE.mk _ rfl ?_); conv => whnf)
    | ((with_reducible refine Split.of_true ?_); conv => whnf)
    | ((with_reducible refine Split.of_false ?_); conv => whnf)
    | ((with_reducible refine Split.neg ?_))
    | ((with_reducible refine Split.is_true ?_ ?_); decide; conv => whnf)
    | ((with_reducible refine Split.is_false ?_ ?_); decide; conv => whnf)
    | ((with_reducible refine Split.nez (fun _ => ?_) (fun _ => ?_)) <;> conv => whnf)
    | ((with_reducible refine Split.eqz (fun _ => ?_) (fun _ => ?_)) <;> conv => whnf)
    | ((with_reducible refine Split.and ?_))
    | ((with_reducible refine Split.or ?_))
    | ((with_reducible refine Split.streq (fun _ => ?_) (fun _ => ?_)) <;> conv => whnf)
    | ((with_reducible refine Split.dec (fun _ => ?_) (fun _ => ?_)) <;> conv => whnf)
    | ((with_reducible refine Split.mk (fun _ => ?_) (fun _ => ?_)) <;> conv => whnf)
    | ((with_reducible refine NilK.mk (fun _ => ?_) ?_) <;> conv => whnf)
    | ((with_reducible refine AltK.l ?_); (conv => whnf); (with_reducible refine Need.mk ?_ ?_); (first | omega | (refine ⟨?_, ?_⟩ <;> simp <;> omega) | (simp; omega)); conv => whnf)
    | ((with_reducible refine Need.mk ?_ ?_); (first | omega | rfl | decide | (refine ⟨?_, ?_⟩ <;> simp <;> omega) | (simp; omega)); conv => whnf)
    | ((with_reducible refine Wr.quo ?_ ?_ ?_ ?_); omega; omega; omega; conv => whnf)
    | ((with_reducible refine Wr.inr ?_ ?_); (first | omega | (simp; omega)); conv => whnf)
    | ((with_reducible refine Wr.inu ?_ ?_); omega; conv => whnf)
    | ((with_reducible refine AltK.l ?_); (conv => whnf); (first | (refine CallK.mk _ (ev_Compare _ _) ?_)); conv => whnf)
    | (exfalso; first | omega | contradiction))
  rfl
end Go.Proofs.Tryz
end

section
namespace Go.Proofs.Tryz
open Go Go.Vm Go.Sort
set_option maxRecDepth 20000
set_option maxHeartbeats 2000000
def gdD (p : Int × Int) : D := .agg [iD p.1, iD p.2]
theorem xv_SortG (l : List (Int × Int)) (hu : l.Pairwise fun a b => a.1 ≠ b.1) (hl : l.length ≤ 500) : EvX Tryz.prog 85 [.own 1000 2 (l.map gdD).length, .d (.fn 86 [])] [(1000, .row 127 2 (l.map gdD) false)] (.tup []) [(1000, .row 127 2 ((sortL (fun a b => cmpI a.1 b.1) l).map gdD) false)] := by
  have h := EvX.sortFunc ly_LyG gdD 2 (fun w => isAgg127 w) (fun w => sizeOf127 w) (fun _ => rfl) (fun x c hc => by
    simp only [gdD, D.cells, List.mem_cons, List.mem_nil_iff, or_false] at hc
    rcases hc with rfl | rfl <;> rfl) (fun x => ⟨_, rfl⟩) (fun a b => cmpI a.1 b.1) ⟨fun x => by simp only [cmpI_neg, decide_eq_false_iff_not]; omega, fun x y z => by simp only [cmpI_neg, decide_eq_true_eq]; omega, fun x y z => by simp only [cmpI_neg, decide_eq_false_iff_not]; omega⟩
    86 [] l (fun x hx y hy h1 h2 => by
      have e : x.1 = y.1 := by rw [cmpI_neg] at h1 h2; omega
      obtain ⟨i, hi, rfl⟩ := List.getElem_of_mem hx
      obtain ⟨j, hj, rfl⟩ := List.getElem_of_mem hy
      rcases Nat.lt_trichotomy i j with h3 | h3 | h3
      · exact absurd e (List.pairwise_iff_getElem.1 hu i j hi hj h3)
      · subst h3; rfl
      · exact absurd e.symm (List.pairwise_iff_getElem.1 hu j i hj hi h3)) (fun x _ y _ => ev_Thin3 x y) (by omega) 1000
  rw [List.length_map]
  exact h
theorem xv_SortI (l : List Int) (hl : l.length ≤ 500) : EvX Tryz.prog 84 [.own 1000 1 (l.map iD).length] [(1000, .row 3 1 (l.map iD) false)] (.tup []) [(1000, .row 3 1 ((sortZ l).map iD) false)] := by
  have h := EvX.sortInts ly_LyI 3 l (by omega) 1000
  rw [List.length_map]
  exact h
theorem ev_SortThin0 : Ev Tryz.prog 77 [.sl 5 [], .fn 78 []] (.tup []) := Ev.sortNone ly_LyS 5 _ _
theorem ev_SortG0 : Ev Tryz.prog 85 [.sl 2 [], .fn 86 []] (.tup []) := Ev.sortNone ly_LyG 2 _ _
theorem ev_SortI0 : Ev Tryz.prog 84 [.sl 1 []] (.tup []) := Ev.sortIntsNone ly_LyI
/-- One sounding more of a thinning: what is kept, and the guards. -/
def thinStep (r : Int) (st : List Sg × List (Int × Int)) (s : Sg) : List Sg × List (Int × Int) := match st.1.find? fun k => decide (sqS k s.x s.y ≤ r * r) with
  | none => (st.1 ++ [s], st.2)
  | some k => (st.1, st.2 ++ [(s.n, k.n)])
def thinO (r : Int) (o : List Sg) : List Sg × List (Int × Int) := o.foldl (thinStep r) ([], [])
def thinRes (l : List Sg) (r : Int) : List Int × List (Int × Int) × Int := if chkErr sgB Sg.n l ≠ 0 then ([], [], chkErr sgB Sg.n l) else if radB r ≠ 0 then ([], [], radB r) else
  (sortZ ((thinO r (sortL cfThin l)).1.map Sg.n), sortL (fun a b => cmpI a.1 b.1) (thinO r (sortL cfThin l)).2, 0)
def thD (k : List Int) (g : List (Int × Int)) : D := .agg [.sl 1 (k.map iD), .sl 2 (g.map gdD)]
def thE (x : List Int × List (Int × Int) × Int) : D := .tup [thD x.1 x.2.1, .int .i64 x.2.2]
theorem thinO_snoc (r : Int) {o : List Sg} {i : Nat} {s : Sg} (h : o[i]? = some s) : thinO r (o.take (i + 1)) = thinStep r (thinO r (o.take i)) s := by
  rw [thinO, take_snoc h, List.foldl_append]; rfl
theorem thinO_app (r : Int) (o : List Sg) (s : Sg) : thinO r (o ++ [s]) = thinStep r (thinO r o) s := by
  rw [thinO, List.foldl_append]; rfl
theorem list_snoc {α : Type} {P : List α → Prop} (h0 : P []) (h1 : ∀ l a, P l → P (l ++ [a])) (l : List α) : P l := by
  induction hn : l.length generalizing l with
  | zero => rw [List.eq_nil_of_length_eq_zero hn]; exact h0
  | succ n ih =>
    rcases nil_or_snoc l with rfl | ⟨r, a, rfl⟩
    · exact h0
    · exact h1 r a (ih r (by simpa using hn))
theorem thinO_sub (r : Int) (o : List Sg) : ∀ k ∈ (thinO r o).1, k ∈ o := by
  refine list_snoc (P := fun o => ∀ k ∈ (thinO r o).1, k ∈ o) (fun k h => (by cases h)) (fun o s ih k hk => ?_) o
  rw [thinO_app, thinStep] at hk
  rw [List.mem_append]
  split at hk
  · rcases List.mem_append.1 hk with h | h
    · exact .inl (ih k h)
    · exact .inr h
  · exact .inl (ih k hk)
theorem thinO_len (r : Int) (o : List Sg) : (thinO r o).1.length + (thinO r o).2.length = o.length := by
  refine list_snoc (P := fun o => (thinO r o).1.length + (thinO r o).2.length = o.length) rfl (fun o s ih => ?_) o
  rw [thinO_app, thinStep]
  split <;> simp <;> omega
theorem rad_bd {r : Int} (h : radB r = 0) : 0 ≤ r ∧ r ≤ 2000000 := by
  unfold radB outsideB at h
  split at h
  · cases h
  · rename_i h1; simp at h1; omega
theorem sg_place {s : Sg} (h : sgB s = true) : -1000000 ≤ s.x ∧ s.x ≤ 1000000 ∧ -1000000 ≤ s.y ∧ s.y ≤ 1000000 := by
  simp only [sgB, outsideB, Bool.and_eq_true, Bool.not_eq_true', Bool.or_eq_false_iff, decide_eq_false_iff_not] at h
  omega
theorem thinO_fst (r : Int) (o : List Sg) : ∀ p ∈ (thinO r o).2, ∃ s ∈ o, p.1 = s.n := by
  refine list_snoc (P := fun o => ∀ p ∈ (thinO r o).2, ∃ s ∈ o, p.1 = s.n) (fun k h => (by cases h)) (fun o s ih p hp => ?_) o
  rw [thinO_app, thinStep] at hp
  split at hp
  · obtain ⟨t, h1, h2⟩ := ih p hp; exact ⟨t, List.mem_append_left _ h1, h2⟩
  · rcases List.mem_append.1 hp with hp | hp
    · obtain ⟨t, h1, h2⟩ := ih p hp; exact ⟨t, List.mem_append_left _ h1, h2⟩
    · rw [List.mem_singleton.1 hp]; exact ⟨s, by simp, rfl⟩
theorem thinO_pairs (r : Int) (o : List Sg) : NoTwo o → (thinO r o).2.Pairwise fun a b => a.1 ≠ b.1 := by
  refine list_snoc (P := fun o => NoTwo o → (thinO r o).2.Pairwise fun a b => a.1 ≠ b.1) (fun _ => .nil) (fun o s ih hu => ?_) o
  obtain ⟨h1, _, h2⟩ := List.pairwise_append.1 hu
  rw [thinO_app, thinStep]
  split
  · exact ih h1
  · refine List.pairwise_append.2 ⟨ih h1, by simp, fun p hp q hq => ?_⟩
    rw [List.mem_singleton.1 hq]
    obtain ⟨t, h3, h4⟩ := thinO_fst r o p hp
    rw [h4]; exact h2 t h3 s (by simp)
theorem thin_pairs (r : Int) {l : List Sg} (hu : NoTwo l) : (thinO r (sortL cfThin l)).2.Pairwise fun a b => a.1 ≠ b.1 :=
  thinO_pairs r _ ((sortL_perm cfThin l).symm.pairwise hu fun h e => h e.symm)
theorem thinStep_none {r : Int} {kp : List Sg} {gs : List (Int × Int)} {s : Sg} (h : kp.findIdx? (fun k => decide (sqS k s.x s.y ≤ r * r)) = none) : thinStep r (kp, gs) s = (kp ++ [s], gs) := by
  have : kp.find? (fun k => decide (sqS k s.x s.y ≤ r * r)) = none := by
    rw [List.find?_eq_none]
    intro x hx
    rw [List.findIdx?_eq_none_iff.1 h x hx]; decide
  rw [thinStep]; simp only [this]
theorem thinStep_some {r : Int} {kp : List Sg} {gs : List (Int × Int)} {s : Sg} {j : Nat} (h : kp.findIdx? (fun k => decide (sqS k s.x s.y ≤ r * r)) = some j) : ∃ k, kp[j]? = some k ∧ thinStep r (kp, gs) s = (kp, gs ++ [(s.n, k.n)]) := by
  obtain ⟨h1, h2, h3⟩ := List.findIdx?_eq_some_iff_getElem.1 h
  refine ⟨kp[j], List.getElem?_eq_getElem h1, ?_⟩
  have : kp.find? (fun k => decide (sqS k s.x s.y ≤ r * r)) = some kp[j] := by
    rw [List.find?_eq_some_iff_getElem]
    exact ⟨h2, j, h1, rfl, fun i hi => by simpa using h3 i hi⟩
  rw [thinStep]; simp only [this]
theorem ev_Thin (l : List Sg) (r : Int) : Ev Tryz.prog 30 [.sl 5 (l.map sgD), iD r] (thE (thinRes l r)) := by
  have hlen : (l.map sgD).length = l.length := List.length_map _
  have h1 := ev_CheckS l
  have h2 := ev_checkRadius r
  by_cases c0 : chkErr sgB Sg.n l = 0
  · rw [thinRes, if_neg (by simpa using c0)]
    rw [c0] at h1
    by_cases r0 : radB r = 0
    · rw [if_neg (by simpa using r0)]
      rw [r0] at h2
      obtain ⟨hl5, hall, hu⟩ := chk_zero c0
      by_cases hn : l = []
      · subst hn
        refine ev_of_awp tysOk mixed (fn := Tryz.f30) Tryz.func30 rfl rfl rfl ?_
        conv => whnf
        repeat' (first
          | ((refine LoopK.unr 1 ?_); conv => whnf)
          | ((with_reducible refine Split.of_true ?_); conv => whnf)
          | ((with_reducible refine Split.of_false ?_); conv => whnf)
          | ((with_reducible refine Split.neg ?_))
          | ((with_reducible refine Split.is_true ?_ ?_); decide; conv => whnf)
          | ((with_reducible refine Split.is_false ?_ ?_); decide; conv => whnf)
          | ((with_reducible refine Split.nez (fun _ => ?_) (fun _ => ?_)) <;> conv => whnf)
          | ((with_reducible refine Split.eqz (fun _ => ?_) (fun _ => ?_)) <;> conv => whnf)
          | ((with_reducible refine Split.and ?_))
          | ((with_reducible refine Split.or ?_))
          | ((with_reducible refine Split.streq (fun _ => ?_) (fun _ => ?_)) <;> conv => whnf)
          | ((with_reducible refine Split.dec (fun _ => ?_) (fun _ => ?_)) <;> conv => whnf)
          | ((with_reducible refine Split.mk (fun _ => ?_) (fun _ => ?_)) <;> conv => whnf)
          | ((with_reducible refine NilK.mk (fun _ => ?_) ?_) <;> conv => whnf)
          | ((with_reducible refine AltK.l ?_); (conv => whnf); (with_reducible refine Need.mk ?_ ?_); (first | omega | (refine ⟨?_, ?_⟩ <;> simp <;> omega) | (simp; omega)); conv => whnf)
          | ((with_reducible refine Need.mk ?_ ?_); (first | omega | rfl | decide | (refine ⟨?_, ?_⟩ <;> simp <;> omega) | (simp; omega)); conv => whnf)
          | ((with_reducible refine Wr.quo ?_ ?_ ?_ ?_); omega; omega; omega; conv => whnf)
          | ((with_reducible refine Wr.inr ?_ ?_); (first | omega | (simp; omega)); conv => whnf)
          | ((with_reducible refine Wr.inu ?_ ?_); omega; conv => whnf)
          | ((with_reducible refine AltK.l ?_); (conv => whnf); (first | (refine CallK.mk _ (h1) ?_) | (refine CallK.mk _ (h2) ?_) | (refine CallK.mk _ (ev_cloneS [] (by simp)) ?_) | (refine CallK.mk _ (ev_SortThin0) ?_) | (refine CallK.mk _ (ev_SortG0) ?_) | (refine CallK.mk _ (ev_SortI0) ?_)); conv => whnf)
          | (exfalso; first | omega | contradiction))
        rw [show sortL cfThin ([] : List Sg) = [] from List.eq_nil_of_length_eq_zero (by rw [sortL_len]; rfl)]
        show _ = thE (sortZ [], sortL (fun a b => cmpI a.1 b.1) [], 0)
        rw [show sortZ [] = [] from List.eq_nil_of_length_eq_zero (by rw [sortZ_len]; rfl), show sortL (fun a b : Int × Int => cmpI a.1 b.1) [] = [] from List.eq_nil_of_length_eq_zero (by rw [sortL_len]; rfl)]
        rfl
      · have h3 := EvX.new1 (xs := [.sl 5 (l.map sgD)]) (xv_cloneS l (by have := List.length_pos_iff.2 hn; omega)) 27
        refine ev_of_awp tysOk mixed (fn := Tryz.f30) Tryz.func30 rfl rfl rfl ?_
        have h4 := EvX.at1t (xs := [.fn 78 []]) (xv_SortThin l hu hl5) 27
        have hr := rad_bd r0
        have ho : ∀ g ∈ sortL cfThin l, -1000000 ≤ g.x ∧ g.x ≤ 1000000 ∧ -1000000 ≤ g.y ∧ g.y ≤ 1000000 := fun g hg => sg_place (hall g ((sortL_perm cfThin l).subset hg))
        have hol : (sortL cfThin l).length = l.length := sortL_len _ _
        have hnk := thin_pairs r hu
        conv => whnf
        repeat' (first
          | ((with_reducible refine Split.of_true ?_); conv => whnf)
          | ((with_reducible refine Split.of_false ?_); conv => whnf)
          | ((with_reducible refine Split.neg ?_))
          | ((with_reducible refine Split.is_true ?_ ?_); decide; conv => whnf)
          | ((with_reducible refine Split.is_false ?_ ?_); decide; conv => whnf)
          | ((with_reducible refine Split.nez (fun _ => ?_) (fun _ => ?_)) <;> conv => whnf)
          | ((with_reducible refine Split.eqz (fun _ => ?_) (fun _ => ?_)) <;> conv => whnf)
          | ((with_reducible refine Split.and ?_))
          | ((with_reducible refine Split.or ?_))
          | ((with_reducible refine Split.streq (fun _ => ?_) (fun _ => ?_)) <;> conv => whnf)
          | ((with_reducible refine Split.dec (fun _ => ?_) (fun _ => ?_)) <;> conv => whnf)
          | ((with_reducible refine Split.mk (fun _ => ?_) (fun _ => ?_)) <;> conv => whnf)
          | ((with_reducible refine NilK.mk (fun _ => ?_) ?_) <;> conv => whnf)
          | ((with_reducible refine AltK.l ?_); (conv => whnf); (with_reducible refine Need.mk ?_ ?_); (first | omega | (refine ⟨?_, ?_⟩ <;> simp <;> omega) | (simp; omega)); conv => whnf)
          | ((with_reducible refine Need.mk ?_ ?_); (first | omega | rfl | decide | (refine ⟨?_, ?_⟩ <;> simp <;> omega) | (simp; omega)); conv => whnf)
          | ((with_reducible refine Wr.quo ?_ ?_ ?_ ?_); omega; omega; omega; conv => whnf)
          | ((with_reducible refine Wr.inr ?_ ?_); (first | omega | (simp; omega)); conv => whnf)
          | ((with_reducible refine Wr.inu ?_ ?_); omega; conv => whnf)
          | ((with_reducible refine AltK.r ?_); (conv => whnf); (first | (refine CallX.mk _ _ (h3) rfl ?_) | (refine CallX.mk _ _ (h4) rfl ?_)); conv => whnf)
          | ((with_reducible refine AltK.l ?_); (conv => whnf); (first | (refine CallK.mk _ (h1) ?_) | (refine CallK.mk _ (h2) ?_)); conv => whnf)
          | (exfalso; first | omega | contradiction))
        generalize sortL cfThin l = o at *
        have eo : (o.map sgD).length = o.length := List.length_map _
        refine LoopK.o2 (fun i : Nat => i ≤ o.length) (fun i => [(9, .own 200 5 ((thinO r (o.take i)).1.map sgD).length), (32, .d (.int .i64 i))])
          (fun i => [(3, .var [.d (iD r)] true), (200, .row 36 5 ((thinO r (o.take i)).1.map sgD) true), (10, .var [.own 201 1 (((thinO r (o.take i)).1.map Sg.n).map iD).length, .own 202 2 ((thinO r (o.take i)).2.map gdD).length] false),
            (201, .row 3 1 (((thinO r (o.take i)).1.map Sg.n).map iD) false), (202, .row 127 2 ((thinO r (o.take i)).2.map gdD) false)]) (fun i => o.length - i) 0 (by simp) (by refine ⟨?_, ?_, rfl⟩ <;> (repeat' (first | exact True.intro | exact rfl | refine ⟨?_, ?_⟩ | (intro h; cases h; done) | (intro h; exact h) | exact map_snoc | (refine own_congr ?_; simp; done) | (refine int_congr ?_; (first | omega | (simp; omega))) | (simp; done) | ((first | refine own_congr ?_ | refine int_congr ?_ | skip); simp [thinO]; done) | (simp [D.cells, thinO]; done)))) ?_
        rintro i hi
        have hnx : (i : Int) < o.length → ∃ m, o[i]? = some m := fun h => some_of_lt (by omega)
        have hki := thinO_sub r (o.take i)
        have hgl := thinO_len r (o.take i)
        rw [List.length_take] at hgl
        conv => whnf
        repeat' (first
          | ((with_reducible refine Split.of_true ?_); conv => whnf)
          | ((with_reducible refine Split.of_false ?_); conv => whnf)
          | ((with_reducible refine Split.neg ?_))
          | ((with_reducible refine Split.is_true ?_ ?_); decide; conv => whnf)
          | ((with_reducible refine Split.is_false ?_ ?_); decide; conv => whnf)
          | ((with_reducible refine Split.nez (fun _ => ?_) (fun _ => ?_)) <;> conv => whnf)
          | ((with_reducible refine Split.eqz (fun _ => ?_) (fun _ => ?_)) <;> conv => whnf)
          | ((with_reducible refine Split.and ?_))
          | ((with_reducible refine Split.or ?_))
          | ((with_reducible refine Split.streq (fun _ => ?_) (fun _ => ?_)) <;> conv => whnf)
          | ((with_reducible refine Split.dec (fun _ => ?_) (fun _ => ?_)) <;> conv => whnf)
          | ((with_reducible refine Split.mk (fun _ => ?_) (fun _ => ?_)) <;> conv => whnf)
          | ((with_reducible refine NilK.mk (fun _ => ?_) ?_) <;> conv => whnf)
          | ((with_reducible refine AltK.l ?_); (conv => whnf); (with_reducible refine Need.mk ?_ ?_); (first | omega | (refine ⟨?_, ?_⟩ <;> simp <;> omega) | (simp; omega)); conv => whnf)
          | ((with_reducible refine Need.mk ?_ ?_); (first | omega | rfl | decide | (refine ⟨?_, ?_⟩ <;> simp <;> omega) | (simp; omega)); conv => whnf)
          | ((with_reducible refine Wr.quo ?_ ?_ ?_ ?_); omega; omega; omega; conv => whnf)
          | ((with_reducible refine Wr.inr ?_ ?_); (first | omega | (simp; omega)); conv => whnf)
          | ((with_reducible refine Wr.inu ?_ ?_); omega; conv => whnf)
          | (exfalso; first | omega | contradiction))
        · obtain ⟨s, hs⟩ := hnx (by omega)
          have hst := thinO_snoc r hs
          have hsp := ho s (List.mem_of_getElem? hs)
          generalize thinO r (o.take i) = q at *
          obtain ⟨kp, gs⟩ := q
          dsimp only at hki hgl hst ⊢
          have h5 := ev_IndexS kp 82 [.ref [iD s.n, iD s.x, iD s.y, iD s.lo, iD s.hi] 0, .ref [iD r] 0] (fun k => decide (sqS k s.x s.y ≤ r * r)) (by omega) (fun k hk => ev_Thin2 k s r (ho k (List.mem_of_mem_take (hki k hk))) hsp hr)
          cases hf : kp.findIdx? fun k => decide (sqS k s.x s.y ≤ r * r) with
          | none =>
            rw [thinStep_none hf] at hst
            rw [hf] at h5
            simp only at h5
            conv => whnf
            repeat' (first
              | ((refine PickE.map i hs (by omega) ?_); conv => whnf)
              | ((with_reducible refine Split.of_true ?_); conv => whnf)
              | ((with_reducible refine Split.of_false ?_); conv => whnf)
              | ((with_reducible refine Split.neg ?_))
              | ((with_reducible refine Split.is_true ?_ ?_); decide; conv => whnf)
              | ((with_reducible refine Split.is_false ?_ ?_); decide; conv => whnf)
              | ((with_reducible refine Split.nez (fun _ => ?_) (fun _ => ?_)) <;> conv => whnf)
              | ((with_reducible refine Split.eqz (fun _ => ?_) (fun _ => ?_)) <;> conv => whnf)
              | ((with_reducible refine Split.and ?_))
              | ((with_reducible refine Split.or ?_))
              | ((with_reducible refine Split.streq (fun _ => ?_) (fun _ => ?_)) <;> conv => whnf)
              | ((with_reducible refine Split.dec (fun _ => ?_) (fun _ => ?_)) <;> conv => whnf)
              | ((with_reducible refine Split.mk (fun _ => ?_) (fun _ => ?_)) <;> conv => whnf)
              | ((with_reducible refine NilK.mk (fun _ => ?_) ?_) <;> conv => whnf)
              | ((with_reducible refine AltK.l ?_); (conv => whnf); (with_reducible refine Need.mk ?_ ?_); (first | omega | (refine ⟨?_, ?_⟩ <;> simp <;> omega) | (simp; omega)); conv => whnf)
              | ((with_reducible refine Need.mk ?_ ?_); (first | omega | rfl | decide | (refine ⟨?_, ?_⟩ <;> simp <;> omega) | (simp; omega)); conv => whnf)
              | ((with_reducible refine Wr.quo ?_ ?_ ?_ ?_); omega; omega; omega; conv => whnf)
              | ((with_reducible refine Wr.inr ?_ ?_); (first | omega | (simp; omega)); conv => whnf)
              | ((with_reducible refine Wr.inu ?_ ?_); omega; conv => whnf)
              | ((with_reducible refine AltK.l ?_); (conv => whnf); (first | (refine CallK.mk _ (h5) ?_)); conv => whnf)
              | (exfalso; first | omega | contradiction))
            refine Again.au (i + 1) (by omega) (by omega) (by refine ⟨?_, ?_, rfl⟩ <;> (repeat' (first | exact True.intro | exact rfl | refine ⟨?_, ?_⟩ | (intro h; cases h; done) | (intro h; exact h) | exact map_snoc | (refine own_congr ?_; simp; done) | (refine int_congr ?_; (first | omega | (simp; omega))) | (simp; done) | ((first | refine own_congr ?_ | refine int_congr ?_ | skip); simp [hst,sgD]; done) | (simp [D.cells, hst,sgD]; done))))
          | some j =>
            obtain ⟨k, hk, hst2⟩ := thinStep_some (gs := gs) hf
            rw [hst2] at hst
            have hjl : j < kp.length := (List.getElem?_eq_some_iff.1 hk).1
            rw [hf] at h5
            simp only at h5
            conv => whnf
            repeat' (first
              | ((refine PickE.map j hk (by omega) ?_); conv => whnf)
              | ((refine PickE.map i hs (by omega) ?_); conv => whnf)
              | ((with_reducible refine Split.of_true ?_); conv => whnf)
              | ((with_reducible refine Split.of_false ?_); conv => whnf)
              | ((with_reducible refine Split.neg ?_))
              | ((with_reducible refine Split.is_true ?_ ?_); decide; conv => whnf)
              | ((with_reducible refine Split.is_false ?_ ?_); decide; conv => whnf)
              | ((with_reducible refine Split.nez (fun _ => ?_) (fun _ => ?_)) <;> conv => whnf)
              | ((with_reducible refine Split.eqz (fun _ => ?_) (fun _ => ?_)) <;> conv => whnf)
              | ((with_reducible refine Split.and ?_))
              | ((with_reducible refine Split.or ?_))
              | ((with_reducible refine Split.streq (fun _ => ?_) (fun _ => ?_)) <;> conv => whnf)
              | ((with_reducible refine Split.dec (fun _ => ?_) (fun _ => ?_)) <;> conv => whnf)
              | ((with_reducible refine Split.mk (fun _ => ?_) (fun _ => ?_)) <;> conv => whnf)
              | ((with_reducible refine NilK.mk (fun _ => ?_) ?_) <;> conv => whnf)
              | ((with_reducible refine AltK.l ?_); (conv => whnf); (with_reducible refine Need.mk ?_ ?_); (first | omega | (refine ⟨?_, ?_⟩ <;> simp <;> omega) | (simp; omega)); conv => whnf)
              | ((with_reducible refine Need.mk ?_ ?_); (first | omega | rfl | decide | (refine ⟨?_, ?_⟩ <;> simp <;> omega) | (simp; omega)); conv => whnf)
              | ((with_reducible refine Wr.quo ?_ ?_ ?_ ?_); omega; omega; omega; conv => whnf)
              | ((with_reducible refine Wr.inr ?_ ?_); (first | omega | (simp; omega)); conv => whnf)
              | ((with_reducible refine Wr.inu ?_ ?_); omega; conv => whnf)
              | ((with_reducible refine AltK.l ?_); (conv => whnf); (first | (refine CallK.mk _ (h5) ?_)); conv => whnf)
              | (exfalso; first | omega | contradiction))
            refine Again.au (i + 1) (by omega) (by omega) (by refine ⟨?_, ?_, rfl⟩ <;> (repeat' (first | exact True.intro | exact rfl | refine ⟨?_, ?_⟩ | (intro h; cases h; done) | (intro h; exact h) | exact map_snoc | (refine own_congr ?_; simp; done) | (refine int_congr ?_; (first | omega | (simp; omega))) | (simp; done) | ((first | refine own_congr ?_ | refine int_congr ?_ | skip); simp [hst,gdD]; done) | (simp [D.cells, hst,gdD]; done))))
        · have ei : i = o.length := by omega
          subst ei
          rw [List.take_length] at hgl ⊢
          have h6 := EvX.at1t (xs := []) (xv_SortI ((thinO r o).1.map Sg.n) (by rw [List.length_map]; omega)) 201
          have h7 := EvX.at1t (xs := [.fn 86 []]) (xv_SortG (thinO r o).2 hnk (by omega)) 202
          conv => whnf
          repeat' (first
            | ((with_reducible refine Split.of_true ?_); conv => whnf)
            | ((with_reducible refine Split.of_false ?_); conv => whnf)
            | ((with_reducible refine Split.neg ?_))
            | ((with_reducible refine Split.is_true ?_ ?_); decide; conv => whnf)
            | ((with_reducible refine Split.is_false ?_ ?_); decide; conv => whnf)
            | ((with_reducible refine Split.nez (fun _ => ?_) (fun _ => ?_)) <;> conv => whnf)
            | ((with_reducible refine Split.eqz (fun _ => ?_) (fun _ => ?_)) <;> conv => whnf)
            | ((with_reducible refine Split.and ?_))
            | ((with_reducible refine Split.or ?_))
            | ((with_reducible refine Split.streq (fun _ => ?_) (fun _ => ?_)) <;> conv => whnf)
            | ((with_reducible refine Split.dec (fun _ => ?_) (fun _ => ?_)) <;> conv => whnf)
            | ((with_reducible refine Split.mk (fun _ => ?_) (fun _ => ?_)) <;> conv => whnf)
            | ((with_reducible refine NilK.mk (fun _ => ?_) ?_) <;> conv => whnf)
            | ((with_reducible refine AltK.l ?_); (conv => whnf); (with_reducible refine Need.mk ?_ ?_); (first | omega | (refine ⟨?_, ?_⟩ <;> simp <;> omega) | (simp; omega)); conv => whnf)
            | ((with_reducible refine Need.mk ?_ ?_); (first | omega | rfl | decide | (refine ⟨?_, ?_⟩ <;> simp <;> omega) | (simp; omega)); conv => whnf)
            | ((with_reducible refine Wr.quo ?_ ?_ ?_ ?_); omega; omega; omega; conv => whnf)
            | ((with_reducible refine Wr.inr ?_ ?_); (first | omega | (simp; omega)); conv => whnf)
            | ((with_reducible refine Wr.inu ?_ ?_); omega; conv => whnf)
            | ((with_reducible refine AltK.r ?_); (conv => whnf); (first | (refine CallX.mk _ _ (h6) rfl ?_) | (refine CallX.mk _ _ (h7) rfl ?_)); conv => whnf)
            | (exfalso; first | omega | contradiction))
          rfl
    · rw [if_pos r0]
      refine ev_of_awp tysOk mixed (fn := Tryz.f30) Tryz.func30 rfl rfl rfl ?_
      conv => whnf
      repeat' (first
        | ((with_reducible refine Split.of_true ?_); conv => whnf)
        | ((with_reducible refine Split.of_false ?_); conv => whnf)
        | ((with_reducible refine Split.neg ?_))
        | ((with_reducible refine Split.is_true ?_ ?_); decide; conv => whnf)
        | ((with_reducible refine Split.is_false ?_ ?_); decide; conv => whnf)
        | ((with_reducible refine Split.nez (fun _ => ?_) (fun _ => ?_)) <;> conv => whnf)
        | ((with_reducible refine Split.eqz (fun _ => ?_) (fun _ => ?_)) <;> conv => whnf)
        | ((with_reducible refine Split.and ?_))
        | ((with_reducible refine Split.or ?_))
        | ((with_reducible refine Split.streq (fun _ => ?_) (fun _ => ?_)) <;> conv => whnf)
        | ((with_reducible refine Split.dec (fun _ => ?_) (fun _ => ?_)) <;> conv => whnf)
        | ((with_reducible refine Split.mk (fun _ => ?_) (fun _ => ?_)) <;> conv => whnf)
        | ((with_reducible refine NilK.mk (fun _ => ?_) ?_) <;> conv => whnf)
        | ((with_reducible refine AltK.l ?_); (conv => whnf); (with_reducible refine Need.mk ?_ ?_); (first | omega | (refine ⟨?_, ?_⟩ <;> simp <;> omega) | (simp; omega)); conv => whnf)
        | ((with_reducible refine Need.mk ?_ ?_); (first | omega | rfl | decide | (refine ⟨?_, ?_⟩ <;> simp <;> omega) | (simp; omega)); conv => whnf)
        | ((with_reducible refine Wr.quo ?_ ?_ ?_ ?_); omega; omega; omega; conv => whnf)
        | ((with_reducible refine Wr.inr ?_ ?_); (first | omega | (simp; omega)); conv => whnf)
        | ((with_reducible refine Wr.inu ?_ ?_); omega; conv => whnf)
        | ((with_reducible refine AltK.l ?_); (conv => whnf); (first | (refine CallK.mk _ (h1) ?_) | (refine CallK.mk _ (h2) ?_)); conv => whnf)
        | (exfalso; first | omega | contradiction))
      all_goals simp_all [retOf, thE, thD, iD]
  · rw [thinRes, if_pos c0]
    refine ev_of_awp tysOk mixed (fn := Tryz.f30) Tryz.func30 rfl rfl rfl ?_
    conv => whnf
    repeat' (first
      | ((with_reducible refine Split.of_true ?_); conv => whnf)
      | ((with_reducible refine Split.of_false ?_); conv => whnf)
      | ((with_reducible refine Split.neg ?_))
      | ((with_reducible refine Split.is_true ?_ ?_); decide; conv => whnf)
      | ((with_reducible refine Split.is_false ?_ ?_); decide; conv => whnf)
      | ((with_reducible refine Split.nez (fun _ => ?_) (fun _ => ?_)) <;> conv => whnf)
      | ((with_reducible refine Split.eqz (fun _ => ?_) (fun _ => ?_)) <;> conv => whnf)
      | ((with_reducible refine Split.and ?_))
      | ((with_reducible refine Split.or ?_))
      | ((with_reducible refine Split.streq (fun _ => ?_) (fun _ => ?_)) <;> conv => whnf)
      | ((with_reducible refine Split.dec (fun _ => ?_) (fun _ => ?_)) <;> conv => whnf)
      | ((with_reducible refine Split.mk (fun _ => ?_) (fun _ => ?_)) <;> conv => whnf)
      | ((with_reducible refine NilK.mk (fun _ => ?_) ?_) <;> conv => whnf)
      | ((with_reducible refine AltK.l ?_); (conv => whnf); (with_reducible refine Need.mk ?_ ?_); (first | omega | (refine ⟨?_, ?_⟩ <;> simp <;> omega) | (simp; omega)); conv => whnf)
      | ((with_reducible refine Need.mk ?_ ?_); (first | omega | rfl | decide | (refine ⟨?_, ?_⟩ <;> simp <;> omega) | (simp; omega)); conv => whnf)
      | ((with_reducible refine Wr.quo ?_ ?_ ?_ ?_); omega; omega; omega; conv => whnf)
      | ((with_reducible refine Wr.inr ?_ ?_); (first | omega | (simp; omega)); conv => whnf)
      | ((with_reducible refine Wr.inu ?_ ?_); omega; conv => whnf)
      | ((with_reducible refine AltK.l ?_); (conv => whnf); (first | (refine CallK.mk _ (h1) ?_) | (refine CallK.mk _ (h2) ?_)); conv => whnf)
      | (exfalso; first | omega | contradiction))
    all_goals simp_all [retOf, thE, thD, iD]
end Go.Proofs.Tryz
end
