/- Texts SdY SdYb, joined; what is not needed is left out. -/
import Derived.Test.YtkkngciaphfifaaGreatMpe
section
namespace Go.Proofs.Tryz
open Go Go.Vm Go.Sort
set_option maxRecDepth 20000
set_option maxHeartbeats 4000000
/-! Spikes. -/
def midS (s : Sg) : Int := (s.lo + s.hi) / 2
def SgB (s : Sg) : Prop := -100000 ≤ s.lo ∧ s.lo ≤ s.hi ∧ s.hi ≤ 100000
theorem sg_bnd {s : Sg} (h : sgB s = true) : SgB s := by
  simp only [sgB, outsideB, Bool.and_eq_true, Bool.not_eq_true', Bool.or_eq_false_iff, decide_eq_true_eq, decide_eq_false_iff_not] at h
  unfold SgB; omega
theorem mid_bd {s : Sg} (h : SgB s) : -100000 ≤ midS s ∧ midS s ≤ 100000 := by unfold SgB at h; unfold midS; omega
theorem ev_middle (s : Sg) (h : SgB s) : Ev Tryz.prog 103 [sgD s] (iD (midS s)) := by
  unfold SgB at h
  refine ev_of_awp tysOk mixed (fn := Tryz.f103) Tryz.func103 rfl rfl rfl ?_
  conv => whnf
  repeat' (first
    | ((with_reducible refine Split.of_true ?_); conv => whnf)
    | ((with_reducible refine Split.of_false ?_); conv => whnf)
    | ((with_reducible refine Split.neg ?_))
    | ((with_reducible refine Split.is_true ?_ ?_); decide; conv => whnf)
    | ((with_reducible refine Split.is_false ?_ ?_); decide; conv => whnf)
    | ((with_reducible refine Split.nez (fun _ => ?_) (fun _ => ?_)) <;> conv => whnf)
    | ((with_reducible refine Split.eqz (fun _ => ?_) (fun _ => ?_)) <;> conv => whnf)
    | ((with_reducible refine Split.and ?_))
    | ((with_reducible refine Split.or ?_))
    | ((with_reducible refine Split.streq (fun _ => ?_) (fun _ => ?_)) <;> conv => whnf)
    | ((with_reducible refine Split.dec (fun _ => ?_) (fun _ => ?_)) <;> conv => whnf)
    | ((with_reducible refine Split.mk (fun _ => ?_) (fun _ => ?_)) <;> conv => whnf)
    | ((with_reducible refine NilK.mk (fun _ => ?_) ?_) <;> conv => whnf)
    | ((with_reducible refine AltK.l ?_); (conv => whnf); (with_reducible refine Need.mk ?_ ?_); (first | omega | (refine ⟨?_, ?_⟩ <;> simp <;> omega) | (simp; omega)); conv => whnf)
    | ((with_reducible refine Need.mk ?_ ?_); (first | omega | rfl | decide | (refine ⟨?_, ?_⟩ <;> simp <;> omega) | (simp; omega)); conv => whnf)
    | ((with_reducible refine Wr.quo ?_ ?_ ?_ ?_); omega; omega; omega; conv => whnf)
    | ((with_reducible refine Wr.inr ?_ ?_); (first | omega | (simp; omega)); conv => whnf)
    | ((with_reducible refine Wr.inu ?_ ?_); omega; conv => whnf)
    | (exfalso; first | omega | contradiction))
  rfl
theorem ev_FloorB (a b : Int) (hb : 0 < b ∧ b ≤ 1000000000000) (ha : -1000000000000000 ≤ a ∧ a ≤ 1000000000000000) : Ev Tryz.prog 122 [iD a, iD b] (iD (a / b)) := by
  have h := ev_ModB a b ⟨hb.1, by omega⟩
  have e1 := Int.emod_nonneg a (Int.ne_of_gt hb.1)
  have e2 := Int.emod_lt_of_pos a hb.1
  have e3 : (a - a % b).tdiv b = a / b := by
    have : a - a % b = b * (a / b) := by have := Int.mul_ediv_add_emod a b; omega
    rw [this, Int.mul_tdiv_cancel_left _ (Int.ne_of_gt hb.1)]
  have e4 := ediv_bd (a := a) (b := b) (M := 1000000000000000) hb.1 (by omega)
  generalize a % b = m at *
  refine ev_of_awp tysOk mixed (fn := Tryz.f122) Tryz.func122 rfl rfl rfl ?_
  conv => whnf
  repeat' (first
    | (((rw [e3])); conv => whnf)
    | ((with_reducible refine Split.of_true ?_); conv => whnf)
    | ((with_reducible refine Split.of_false ?_); conv => whnf)
    | ((with_reducible refine Split.neg ?_))
    | ((with_reducible refine Split.is_true ?_ ?_); decide; conv => whnf)
    | ((with_reducible refine Split.is_false ?_ ?_); decide; conv => whnf)
    | ((with_reducible refine Split.nez (fun _ => ?_) (fun _ => ?_)) <;> conv => whnf)
    | ((with_reducible refine Split.eqz (fun _ => ?_) (fun _ => ?_)) <;> conv => whnf)
    | ((with_reducible refine Split.and ?_))
    | ((with_reducible refine Split.or ?_))
    | ((with_reducible refine Split.streq (fun _ => ?_) (fun _ => ?_)) <;> conv => whnf)
    | ((with_reducible refine Split.dec (fun _ => ?_) (fun _ => ?_)) <;> conv => whnf)
    | ((with_reducible refine Split.mk (fun _ => ?_) (fun _ => ?_)) <;> conv => whnf)
    | ((with_reducible refine NilK.mk (fun _ => ?_) ?_) <;> conv => whnf)
    | ((with_reducible refine AltK.l ?_); (conv => whnf); (with_reducible refine Need.mk ?_ ?_); (first | omega | (refine ⟨?_, ?_⟩ <;> simp <;> omega) | (simp; omega)); conv => whnf)
    | ((with_reducible refine Need.mk ?_ ?_); (first | omega | rfl | decide | (refine ⟨?_, ?_⟩ <;> simp <;> omega) | (simp; omega)); conv => whnf)
    | ((with_reducible refine Wr.quo ?_ ?_ ?_ ?_); omega; omega; omega; conv => whnf)
    | ((with_reducible refine Wr.inr ?_ ?_); (first | omega | (simp; omega)); conv => whnf)
    | ((with_reducible refine Wr.inu ?_ ?_); omega; conv => whnf)
    | ((with_reducible refine AltK.l ?_); (conv => whnf); (first | (refine CallK.mk _ (h) ?_)); conv => whnf)
    | (exfalso; first | omega | contradiction))
  rfl
theorem ev_MiddleR (s : Sg) (h : SgB s) : Ev Tryz.prog 105 [sgD s] (iD (midS s)) := by
  unfold SgB at h
  have h1 := ev_FloorB (s.lo + s.hi) 2 (by omega) (by omega)
  refine ev_of_awp tysOk mixed (fn := Tryz.f105) Tryz.func105 rfl rfl rfl ?_
  conv => whnf
  repeat' (first
    | ((with_reducible refine Split.of_true ?_); conv => whnf)
    | ((with_reducible refine Split.of_false ?_); conv => whnf)
    | ((with_reducible refine Split.neg ?_))
    | ((with_reducible refine Split.is_true ?_ ?_); decide; conv => whnf)
    | ((with_reducible refine Split.is_false ?_ ?_); decide; conv => whnf)
    | ((with_reducible refine Split.nez (fun _ => ?_) (fun _ => ?_)) <;> conv => whnf)
    | ((with_reducible refine Split.eqz (fun _ => ?_) (fun _ => ?_)) <;> conv => whnf)
    | ((with_reducible refine Split.and ?_))
    | ((with_reducible refine Split.or ?_))
    | ((with_reducible refine Split.streq (fun _ => ?_) (fun _ => ?_)) <;> conv => whnf)
    | ((with_reducible refine Split.dec (fun _ => ?_) (fun _ => ?_)) <;> conv => whnf)
    | ((with_reducible refine Split.mk (fun _ => ?_) (fun _ => ?_)) <;> conv => whnf)
    | ((with_reducible refine NilK.mk (fun _ => ?_) ?_) <;> conv => whnf)
    | ((with_reducible refine AltK.l ?_); (conv => whnf); (with_reducible refine Need.mk ?_ ?_); (first | omega | (refine ⟨?_, ?_⟩ <;> simp <;> omega) | (simp; omega)); conv => whnf)
    | ((with_reducible refine Need.mk ?_ ?_); (first | omega | rfl | decide | (refine ⟨?_, ?_⟩ <;> simp <;> omega) | (simp; omega)); conv => whnf)
    | ((with_reducible refine Wr.quo ?_ ?_ ?_ ?_); omega; omega; omega; conv => whnf)
    | ((with_reducible refine Wr.inr ?_ ?_); (first | omega | (simp; omega)); conv => whnf)
    | ((with_reducible refine Wr.inu ?_ ?_); omega; conv => whnf)
    | ((with_reducible refine AltK.l ?_); (conv => whnf); (first | (refine CallK.mk _ (h1) ?_)); conv => whnf)
    | (exfalso; first | omega | contradiction))
  rfl
theorem ev_Abs (n : Int) (h : -1000000000000000000 ≤ n ∧ n ≤ 1000000000000000000) : Ev Tryz.prog 106 [iD n] (iD (if n < 0 then -n else n)) := by
  refine ev_of_awp tysOk mixed (fn := Tryz.f106) Tryz.func106 rfl rfl rfl ?_
  conv => whnf
  repeat' (first
    | ((with_reducible refine Split.of_true ?_); conv => whnf)
    | ((with_reducible refine Split.of_false ?_); conv => whnf)
    | ((with_reducible refine Split.neg ?_))
    | ((with_reducible refine Split.is_true ?_ ?_); decide; conv => whnf)
    | ((with_reducible refine Split.is_false ?_ ?_); decide; conv => whnf)
    | ((with_reducible refine Split.nez (fun _ => ?_) (fun _ => ?_)) <;> conv => whnf)
    | ((with_reducible refine Split.eqz (fun _ => ?_) (fun _ => ?_)) <;> conv => whnf)
    | ((with_reducible refine Split.and ?_))
    | ((with_reducible refine Split.or ?_))
    | ((with_reducible refine Split.streq (fun _ => ?_) (fun _ => ?_)) <;> conv => whnf)
    | ((with_reducible refine Split.dec (fun _ => ?_) (fun _ => ?_)) <;> conv => whnf)
    | ((with_reducible refine Split.mk (fun _ => ?_) (fun _ => ?_)) <;> conv => whnf)
    | ((with_reducible refine NilK.mk (fun _ => ?_) ?_) <;> conv => whnf)
    | ((with_reducible refine AltK.l ?_); (conv => whnf); (with_reducible refine Need.mk ?_ ?_); (first | omega | (refine ⟨?_, ?_⟩ <;> simp <;> omega) | (simp; omega)); conv => whnf)
    | ((with_reducible refine Need.mk ?_ ?_); (first | omega | rfl | decide | (refine ⟨?_, ?_⟩ <;> simp <;> omega) | (simp; omega)); conv => whnf)
    | ((with_reducible refine Wr.quo ?_ ?_ ?_ ?_); omega; omega; omega; conv => whnf)
    | ((with_reducible refine Wr.inr ?_ ?_); (first | omega | (simp; omega)); conv => whnf)
    | ((with_reducible refine Wr.inu ?_ ?_); omega; conv => whnf)
    | (exfalso; first | omega | contradiction))
  · rw [if_pos (by assumption), ← Int.zero_sub]; rfl
  · rw [if_neg (by assumption)]; rfl
/-- The number that has a place in ascending order. -/
def rankZ (l : List Int) (k : Nat) : Int := ((sortZ l)[k]?).getD 0
theorem sortZ_app {x : Int} {l : List Int} : (sortZ l).countP (fun y => decide (y < x)) = l.countP (fun y => decide (y < x)) := (sortZ_perm l).countP_eq _
theorem count_le {x : Int} {l : List Int} : (sortZ l).countP (fun y => decide (y = x)) = l.countP (fun y => decide (y = x)) := (sortZ_perm l).countP_eq _
theorem rank_at {l : List Int} (hs : l.Pairwise fun a b => a ≤ b) {x : Int} : ∀ {k : Nat}, l.countP (fun y => decide (y < x)) ≤ k → k < l.countP (fun y => decide (y < x)) + l.countP (fun y => decide (y = x)) → l[k]? = some x := by
  induction l with
  | nil => intro k h1 h2; simp at h2
  | cons a r ih =>
    intro k h1 h2
    obtain ⟨ha, hr⟩ := List.pairwise_cons.1 hs
    rw [List.countP_cons, List.countP_cons] at *
    rcases Int.lt_trichotomy a x with h | h | h
    · have e1 : decide (a < x) = true := by simpa using h
      have e2 : decide (a = x) = false := by simp; omega
      simp only [e1, e2, if_true] at h1 h2
      cases k with
      | zero => omega
      | succ k => rw [List.getElem?_cons_succ]; exact ih hr (by omega) (by simp at h2; omega)
    · subst h
      have e0 : r.countP (fun y => decide (y < a)) = 0 := by
        rw [List.countP_eq_zero]; intro y hy; have := ha y hy; simp; omega
      cases k with
      | zero => rfl
      | succ k =>
        rw [List.getElem?_cons_succ]
        refine ih hr (by omega) ?_
        simp at h2; omega
    · have e0 : r.countP (fun y => decide (y = x)) = 0 := by
        rw [List.countP_eq_zero]; intro y hy; have := ha y hy; simp; omega
      have e2 : decide (a = x) = false := by simp; omega
      simp [e2, e0] at h2
      simp at h1; omega
theorem rank_some {l : List Int} (hs : l.Pairwise fun a b => a ≤ b) {x : Int} {k : Nat} (h : l[k]? = some x) : l.countP (fun y => decide (y < x)) ≤ k ∧ k < l.countP (fun y => decide (y < x)) + l.countP (fun y => decide (y = x)) := by
  induction l generalizing k with
  | nil => simp at h
  | cons a r ih =>
    obtain ⟨ha, hr⟩ := List.pairwise_cons.1 hs
    rw [List.countP_cons, List.countP_cons]
    cases k with
    | zero =>
      simp only [List.getElem?_cons_zero, Option.some.injEq] at h
      subst h
      have e0 : r.countP (fun y => decide (y < a)) = 0 := by
        rw [List.countP_eq_zero]; intro y hy; have := ha y hy; simp; omega
      simp [e0]
    | succ k =>
      rw [List.getElem?_cons_succ] at h
      obtain ⟨h1, h2⟩ := ih hr h
      have hax := ha x (List.mem_of_getElem? h)
      by_cases e : a = x
      · subst e
        simp; omega
      · have e1 : decide (a < x) = true := by simp; omega
        have e2 : decide (a = x) = false := by simp; omega
        simp only [e1, e2, if_true]
        simp; omega
theorem rankZ_eq {l : List Int} {x : Int} {k : Nat} (h1 : l.countP (fun y => decide (y < x)) ≤ k) (h2 : k < l.countP (fun y => decide (y < x)) + l.countP (fun y => decide (y = x))) : rankZ l k = x := by
  rw [rankZ, rank_at (sortZ_sorted l) (x := x) (by rw [sortZ_app]; exact h1) (by rw [sortZ_app, count_le]; exact h2)]
  rfl
theorem rankZ_mem {l : List Int} {k : Nat} (h : k < l.length) : ∃ x, (sortZ l)[k]? = some x ∧ rankZ l k = x ∧ x ∈ l ∧ l.countP (fun y => decide (y < x)) ≤ k ∧ k < l.countP (fun y => decide (y < x)) + l.countP (fun y => decide (y = x)) := by
  have hl : k < (sortZ l).length := by rw [sortZ_len]; exact h
  have h1 := List.getElem?_eq_getElem hl
  have h2 := rank_some (sortZ_sorted l) h1
  rw [sortZ_app, count_le] at h2
  exact ⟨_, h1, by rw [rankZ, h1]; rfl, (sortZ_perm l).subset (List.getElem_mem hl), h2⟩
theorem ev_median (l : List Sg) (hn : 1 ≤ l.length ∧ l.length ≤ 500) (hb : ∀ s ∈ l, SgB s) : Ev Tryz.prog 104 [.sl 5 (l.map sgD)] (iD (rankZ (l.map midS) ((l.length + 1) / 2 - 1))) := by
  have hlen : (l.map sgD).length = l.length := List.length_map _
  obtain ⟨x, hx, e, _⟩ := rankZ_mem (l := l.map midS) (k := (l.length + 1) / 2 - 1) (by rw [List.length_map]; omega)
  rw [e]
  refine ev_of_awp tysOk mixed (fn := Tryz.f104) Tryz.func104 rfl rfl rfl ?_
  conv => whnf
  repeat' (first
    | ((with_reducible refine Split.of_true ?_); conv => whnf)
    | ((with_reducible refine Split.of_false ?_); conv => whnf)
    | ((with_reducible refine Split.neg ?_))
    | ((with_reducible refine Split.is_true ?_ ?_); decide; conv => whnf)
    | ((with_reducible refine Split.is_false ?_ ?_); decide; conv => whnf)
    | ((with_reducible refine Split.nez (fun _ => ?_) (fun _ => ?_)) <;> conv => whnf)
    | ((with_reducible refine Split.eqz (fun _ => ?_) (fun _ => ?_)) <;> conv => whnf)
    | ((with_reducible refine Split.and ?_))
    | ((with_reducible refine Split.or ?_))
    | ((with_reducible refine Split.streq (fun _ => ?_) (fun _ => ?_)) <;> conv => whnf)
    | ((with_reducible refine Split.dec (fun _ => ?_) (fun _ => ?_)) <;> conv => whnf)
    | ((with_reducible refine Split.mk (fun _ => ?_) (fun _ => ?_)) <;> conv => whnf)
    | ((with_reducible refine NilK.mk (fun _ => ?_) ?_) <;> conv => whnf)
    | ((with_reducible refine AltK.l ?_); (conv => whnf); (with_reducible refine Need.mk ?_ ?_); (first | omega | (refine ⟨?_, ?_⟩ <;> simp <;> omega) | (simp; omega)); conv => whnf)
    | ((with_reducible refine Need.mk ?_ ?_); (first | omega | rfl | decide | (refine ⟨?_, ?_⟩ <;> simp <;> omega) | (simp; omega)); conv => whnf)
    | ((with_reducible refine Wr.quo ?_ ?_ ?_ ?_); omega; omega; omega; conv => whnf)
    | ((with_reducible refine Wr.inr ?_ ?_); (first | omega | (simp; omega)); conv => whnf)
    | ((with_reducible refine Wr.inu ?_ ?_); omega; conv => whnf)
    | (exfalso; first | omega | contradiction))
  refine LoopK.o2 (fun i : Nat => i ≤ l.length) (fun i => [(3, .own 200 1 (((l.take i).map midS).map iD).length), (8, .d (.int .i64 i))]) (fun i => [(200, .row 3 1 (((l.take i).map midS).map iD) false)]) (fun i => l.length - i) 0 (by simp) (by refine ⟨?_, ?_, rfl⟩ <;> (repeat' (first | exact True.intro | exact rfl | refine ⟨?_, ?_⟩ | (intro h; cases h; done) | (intro h; exact h) | exact map_snoc | (refine own_congr ?_; simp; done) | (refine int_congr ?_; (first | omega | (simp; omega))) | (simp; done)))) ?_
  rintro i hi
  have hnx : (i : Int) < l.length → ∃ m, l[i]? = some m := fun h => some_of_lt (by omega)
  have e1 : (((l.take i).map midS).map iD).length = i := by rw [List.length_map, List.length_map, List.length_take]; omega
  conv => whnf
  repeat' (first
    | ((with_reducible refine Split.of_true ?_); conv => whnf)
    | ((with_reducible refine Split.of_false ?_); conv => whnf)
    | ((with_reducible refine Split.neg ?_))
    | ((with_reducible refine Split.is_true ?_ ?_); decide; conv => whnf)
    | ((with_reducible refine Split.is_false ?_ ?_); decide; conv => whnf)
    | ((with_reducible refine Split.nez (fun _ => ?_) (fun _ => ?_)) <;> conv => whnf)
    | ((with_reducible refine Split.eqz (fun _ => ?_) (fun _ => ?_)) <;> conv => whnf)
    | ((with_reducible refine Split.and ?_))
    | ((with_reducible refine Split.or ?_))
    | ((with_reducible refine Split.streq (fun _ => ?_) (fun _ => ?_)) <;> conv => whnf)
    | ((with_reducible refine Split.dec (fun _ => ?_) (fun _ => ?_)) <;> conv => whnf)
    | ((with_reducible refine Split.mk (fun _ => ?_) (fun _ => ?_)) <;> conv => whnf)
    | ((with_reducible refine NilK.mk (fun _ => ?_) ?_) <;> conv => whnf)
    | ((with_reducible refine AltK.l ?_); (conv => whnf); (with_reducible refine Need.mk ?_ ?_); (first | omega | (refine ⟨?_, ?_⟩ <;> simp <;> omega) | (simp; omega)); conv => whnf)
    | ((with_reducible refine Need.mk ?_ ?_); (first | omega | rfl | decide | (refine ⟨?_, ?_⟩ <;> simp <;> omega) | (simp; omega)); conv => whnf)
    | ((with_reducible refine Wr.quo ?_ ?_ ?_ ?_); omega; omega; omega; conv => whnf)
    | ((with_reducible refine Wr.inr ?_ ?_); (first | omega | (simp; omega)); conv => whnf)
    | ((with_reducible refine Wr.inu ?_ ?_); omega; conv => whnf)
    | (exfalso; first | omega | contradiction))
  · obtain ⟨s, hs⟩ := hnx (by omega)
    have hst := take_snoc hs
    have hm := ev_middle s (hb s (List.mem_of_getElem? hs))
    conv => whnf
    repeat' (first
      | ((refine PickE.map i hs (by omega) ?_); conv => whnf)
      | ((with_reducible refine Split.of_true ?_); conv => whnf)
      | ((with_reducible refine Split.of_false ?_); conv => whnf)
      | ((with_reducible refine Split.neg ?_))
      | ((with_reducible refine Split.is_true ?_ ?_); decide; conv => whnf)
      | ((with_reducible refine Split.is_false ?_ ?_); decide; conv => whnf)
      | ((with_reducible refine Split.nez (fun _ => ?_) (fun _ => ?_)) <;> conv => whnf)
      | ((with_reducible refine Split.eqz (fun _ => ?_) (fun _ => ?_)) <;> conv => whnf)
      | ((with_reducible refine Split.and ?_))
      | ((with_reducible refine Split.or ?_))
      | ((with_reducible refine Split.streq (fun _ => ?_) (fun _ => ?_)) <;> conv => whnf)
      | ((with_reducible refine Split.dec (fun _ => ?_) (fun _ => ?_)) <;> conv => whnf)
      | ((with_reducible refine Split.mk (fun _ => ?_) (fun _ => ?_)) <;> conv => whnf)
      | ((with_reducible refine NilK.mk (fun _ => ?_) ?_) <;> conv => whnf)
      | ((with_reducible refine AltK.l ?_); (conv => whnf); (with_reducible refine Need.mk ?_ ?_); (first | omega | (refine ⟨?_, ?_⟩ <;> simp <;> omega) | (simp; omega)); conv => whnf)
      | ((with_reducible refine Need.mk ?_ ?_); (first | omega | rfl | decide | (refine ⟨?_, ?_⟩ <;> simp <;> omega) | (simp; omega)); conv => whnf)
      | ((with_reducible refine Wr.quo ?_ ?_ ?_ ?_); omega; omega; omega; conv => whnf)
      | ((with_reducible refine Wr.inr ?_ ?_); (first | omega | (simp; omega)); conv => whnf)
      | ((with_reducible refine Wr.inu ?_ ?_); omega; conv => whnf)
      | ((with_reducible refine AltK.l ?_); (conv => whnf); (first | (refine CallK.mk _ (hm) ?_)); conv => whnf)
      | (exfalso; first | omega | contradiction))
    exact Again.au (i + 1) (by omega) (by omega) (by refine ⟨?_, ?_, rfl⟩ <;> (repeat' (first | exact True.intro | exact rfl | refine ⟨?_, ?_⟩ | (intro h; cases h; done) | (intro h; exact h) | exact map_snoc | (refine own_congr ?_; simp; done) | (refine int_congr ?_; (first | omega | (simp; omega))) | (simp; done) | ((first | refine own_congr ?_ | refine int_congr ?_ | skip); simp [hst]; done) | ((first | refine own_congr ?_ | refine int_congr ?_); simp [hst]; omega) | (show @Eq (List Go.Vm.D) _ []; simp [hst]; done) | (simp [D.cells, hst]; done))))
  · rw [List.take_of_length_le (show l.length ≤ i by omega)]
    have h6 := EvX.at1t (xs := []) (xv_SortI (l.map midS) (by rw [List.length_map]; omega)) 200
    have e2 : ((sortZ (l.map midS)).map iD).length = l.length := by rw [List.length_map, sortZ_len, List.length_map]
    conv => whnf
    repeat' (first
      | ((refine PickE.map ((l.length + 1) / 2 - 1) hx (by omega) ?_); conv => whnf)
      | ((with_reducible refine Split.of_true ?_); conv => whnf)
      | ((with_reducible refine Split.of_false ?_); conv => whnf)
      | ((with_reducible refine Split.neg ?_))
      | ((with_reducible refine Split.is_true ?_ ?_); decide; conv => whnf)
      | ((with_reducible refine Split.is_false ?_ ?_); decide; conv => whnf)
      | ((with_reducible refine Split.nez (fun _ => ?_) (fun _ => ?_)) <;> conv => whnf)
      | ((with_reducible refine Split.eqz (fun _ => ?_) (fun _ => ?_)) <;> conv => whnf)
      | ((with_reducible refine Split.and ?_))
      | ((with_reducible refine Split.or ?_))
      | ((with_reducible refine Split.streq (fun _ => ?_) (fun _ => ?_)) <;> conv => whnf)
      | ((with_reducible refine Split.dec (fun _ => ?_) (fun _ => ?_)) <;> conv => whnf)
      | ((with_reducible refine Split.mk (fun _ => ?_) (fun _ => ?_)) <;> conv => whnf)
      | ((with_reducible refine NilK.mk (fun _ => ?_) ?_) <;> conv => whnf)
      | ((with_reducible refine AltK.l ?_); (conv => whnf); (with_reducible refine Need.mk ?_ ?_); (first | omega | (refine ⟨?_, ?_⟩ <;> simp <;> omega) | (simp; omega)); conv => whnf)
      | ((with_reducible refine Need.mk ?_ ?_); (first | omega | rfl | decide | (refine ⟨?_, ?_⟩ <;> simp <;> omega) | (simp; omega)); conv => whnf)
      | ((with_reducible refine Wr.quo ?_ ?_ ?_ ?_); omega; omega; omega; conv => whnf)
      | ((with_reducible refine Wr.inr ?_ ?_); (first | omega | (simp; omega)); conv => whnf)
      | ((with_reducible refine Wr.inu ?_ ?_); omega; conv => whnf)
      | ((with_reducible refine AltK.r ?_); (conv => whnf); (first | (refine CallX.mk _ _ (h6) rfl ?_)); conv => whnf)
      | (exfalso; first | omega | contradiction))
    rfl
theorem ev_ranked (l : List Int) (p : Int) (hp : 1 ≤ p ∧ p ≤ l.length) (hl : l.length ≤ 1000000) : Ev Tryz.prog 107 [.sl 1 (l.map iD), iD p] (iD (rankZ l (p - 1).toNat)) := by
  have hlen : (l.map iD).length = l.length := List.length_map _
  obtain ⟨z, _, ez, hzl, hz1, hz2⟩ := rankZ_mem (l := l) (k := (p - 1).toNat) (by omega)
  refine ev_of_awp tysOk mixed (fn := Tryz.f107) Tryz.func107 rfl rfl rfl ?_
  conv => whnf
  repeat' (first
    | ((with_reducible refine Split.of_true ?_); conv => whnf)
    | ((with_reducible refine Split.of_false ?_); conv => whnf)
    | ((with_reducible refine Split.neg ?_))
    | ((with_reducible refine Split.is_true ?_ ?_); decide; conv => whnf)
    | ((with_reducible refine Split.is_false ?_ ?_); decide; conv => whnf)
    | ((with_reducible refine Split.nez (fun _ => ?_) (fun _ => ?_)) <;> conv => whnf)
    | ((with_reducible refine Split.eqz (fun _ => ?_) (fun _ => ?_)) <;> conv => whnf)
    | ((with_reducible refine Split.and ?_))
    | ((with_reducible refine Split.or ?_))
    | ((with_reducible refine Split.streq (fun _ => ?_) (fun _ => ?_)) <;> conv => whnf)
    | ((with_reducible refine Split.dec (fun _ => ?_) (fun _ => ?_)) <;> conv => whnf)
    | ((with_reducible refine Split.mk (fun _ => ?_) (fun _ => ?_)) <;> conv => whnf)
    | ((with_reducible refine NilK.mk (fun _ => ?_) ?_) <;> conv => whnf)
    | ((with_reducible refine AltK.l ?_); (conv => whnf); (with_reducible refine Need.mk ?_ ?_); (first | omega | (refine ⟨?_, ?_⟩ <;> simp <;> omega) | (simp; omega)); conv => whnf)
    | ((with_reducible refine Need.mk ?_ ?_); (first | omega | rfl | decide | (refine ⟨?_, ?_⟩ <;> simp <;> omega) | (simp; omega)); conv => whnf)
    | ((with_reducible refine Wr.quo ?_ ?_ ?_ ?_); omega; omega; omega; conv => whnf)
    | ((with_reducible refine Wr.inr ?_ ?_); (first | omega | (simp; omega)); conv => whnf)
    | ((with_reducible refine Wr.inu ?_ ?_); omega; conv => whnf)
    | (exfalso; first | omega | contradiction))
  refine LoopK.o2 (fun i : Nat => i ≤ l.length ∧ ∀ x ∈ l.take i, ¬ (l.countP (fun y => decide (y < x)) < p ∧ p ≤ l.countP (fun y => decide (y < x)) + l.countP (fun y => decide (y = x)))) (fun i => [(5, .d (.int .i64 i))]) (fun _ => []) (fun i => l.length - i) 0 (by simp) (by refine ⟨?_, ?_, rfl⟩ <;> (repeat' (first | exact True.intro | exact rfl | refine ⟨?_, ?_⟩ | (intro h; cases h; done) | (intro h; exact h) | exact map_snoc | (refine own_congr ?_; simp; done) | (refine int_congr ?_; (first | omega | (simp; omega))) | (simp; done)))) ?_
  rintro i ⟨hi, hk⟩
  have hnx : (i : Int) < l.length → ∃ m, l[i]? = some m := fun h => some_of_lt (by omega)
  conv => whnf
  repeat' (first
    | ((with_reducible refine Split.of_true ?_); conv => whnf)
    | ((with_reducible refine Split.of_false ?_); conv => whnf)
    | ((with_reducible refine Split.neg ?_))
    | ((with_reducible refine Split.is_true ?_ ?_); decide; conv => whnf)
    | ((with_reducible refine Split.is_false ?_ ?_); decide; conv => whnf)
    | ((with_reducible refine Split.nez (fun _ => ?_) (fun _ => ?_)) <;> conv => whnf)
    | ((with_reducible refine Split.eqz (fun _ => ?_) (fun _ => ?_)) <;> conv => whnf)
    | ((with_reducible refine Split.and ?_))
    | ((with_reducible refine Split.or ?_))
    | ((with_reducible refine Split.streq (fun _ => ?_) (fun _ => ?_)) <;> conv => whnf)
    | ((with_reducible refine Split.dec (fun _ => ?_) (fun _ => ?_)) <;> conv => whnf)
    | ((with_reducible refine Split.mk (fun _ => ?_) (fun _ => ?_)) <;> conv => whnf)
    | ((with_reducible refine NilK.mk (fun _ => ?_) ?_) <;> conv => whnf)
    | ((with_reducible refine AltK.l ?_); (conv => whnf); (with_reducible refine Need.mk ?_ ?_); (first | omega | (refine ⟨?_, ?_⟩ <;> simp <;> omega) | (simp; omega)); conv => whnf)
    | ((with_reducible refine Need.mk ?_ ?_); (first | omega | rfl | decide | (refine ⟨?_, ?_⟩ <;> simp <;> omega) | (simp; omega)); conv => whnf)
    | ((with_reducible refine Wr.quo ?_ ?_ ?_ ?_); omega; omega; omega; conv => whnf)
    | ((with_reducible refine Wr.inr ?_ ?_); (first | omega | (simp; omega)); conv => whnf)
    | ((with_reducible refine Wr.inu ?_ ?_); omega; conv => whnf)
    | (exfalso; first | omega | contradiction))
  · obtain ⟨x, hx⟩ := hnx (by omega)
    refine LoopK.o2 (fun k : Nat => k ≤ l.length) (fun k => [(6, .d (.int .i64 ((l.take k).countP fun y => decide (y < x)))), (7, .d (.int .i64 ((l.take k).countP fun y => decide (y = x)))), (8, .d (.int .i64 k))]) (fun _ => []) (fun k => l.length - k) 0 (by simp) (by refine ⟨?_, ?_, rfl⟩ <;> (repeat' (first | exact True.intro | exact rfl | refine ⟨?_, ?_⟩ | (intro h; cases h; done) | (intro h; exact h) | exact map_snoc | (refine own_congr ?_; simp; done) | (refine int_congr ?_; (first | omega | (simp; omega))) | (simp; done)))) ?_
    rintro k hkl
    have hnk : (k : Int) < l.length → ∃ m, l[k]? = some m := fun h => some_of_lt (by omega)
    have c1 := List.countP_le_length (p := fun y => decide (y < x)) (l := l.take k)
    have c2 := List.countP_le_length (p := fun y => decide (y = x)) (l := l.take k)
    rw [List.length_take] at c1 c2
    conv => whnf
    repeat' (first
      | ((with_reducible refine Split.of_true ?_); conv => whnf)
      | ((with_reducible refine Split.of_false ?_); conv => whnf)
      | ((with_reducible refine Split.neg ?_))
      | ((with_reducible refine Split.is_true ?_ ?_); decide; conv => whnf)
      | ((with_reducible refine Split.is_false ?_ ?_); decide; conv => whnf)
      | ((with_reducible refine Split.nez (fun _ => ?_) (fun _ => ?_)) <;> conv => whnf)
      | ((with_reducible refine Split.eqz (fun _ => ?_) (fun _ => ?_)) <;> conv => whnf)
      | ((with_reducible refine Split.and ?_))
      | ((with_reducible refine Split.or ?_))
      | ((with_reducible refine Split.streq (fun _ => ?_) (fun _ => ?_)) <;> conv => whnf)
      | ((with_reducible refine Split.dec (fun _ => ?_) (fun _ => ?_)) <;> conv => whnf)
      | ((with_reducible refine Split.mk (fun _ => ?_) (fun _ => ?_)) <;> conv => whnf)
      | ((with_reducible refine NilK.mk (fun _ => ?_) ?_) <;> conv => whnf)
      | ((with_reducible refine AltK.l ?_); (conv => whnf); (with_reducible refine Need.mk ?_ ?_); (first | omega | (refine ⟨?_, ?_⟩ <;> simp <;> omega) | (simp; omega)); conv => whnf)
      | ((with_reducible refine Need.mk ?_ ?_); (first | omega | rfl | decide | (refine ⟨?_, ?_⟩ <;> simp <;> omega) | (simp; omega)); conv => whnf)
      | ((with_reducible refine Wr.quo ?_ ?_ ?_ ?_); omega; omega; omega; conv => whnf)
      | ((with_reducible refine Wr.inr ?_ ?_); (first | omega | (simp; omega)); conv => whnf)
      | ((with_reducible refine Wr.inu ?_ ?_); omega; conv => whnf)
      | (exfalso; first | omega | contradiction))
    · obtain ⟨y, hy⟩ := hnk (by omega)
      have hst := take_snoc hy
      have f1 : (l.take (k + 1)).countP (fun y => decide (y < x)) = (l.take k).countP (fun y => decide (y < x)) + if y < x then 1 else 0 := by rw [hst, List.countP_append]; simp
      have f2 : (l.take (k + 1)).countP (fun y => decide (y = x)) = (l.take k).countP (fun y => decide (y = x)) + if y = x then 1 else 0 := by rw [hst, List.countP_append]; simp
      conv => whnf
      repeat' (first
        | ((refine PickE.map i hx (by omega) ?_); conv => whnf)
        | ((refine PickE.map k hy (by omega) ?_); conv => whnf)
        | ((with_reducible refine Split.of_true ?_); conv => whnf)
        | ((with_reducible refine Split.of_false ?_); conv => whnf)
        | ((with_reducible refine Split.neg ?_))
        | ((with_reducible refine Split.is_true ?_ ?_); decide; conv => whnf)
        | ((with_reducible refine Split.is_false ?_ ?_); decide; conv => whnf)
        | ((with_reducible refine Split.nez (fun _ => ?_) (fun _ => ?_)) <;> conv => whnf)
        | ((with_reducible refine Split.eqz (fun _ => ?_) (fun _ => ?_)) <;> conv => whnf)
        | ((with_reducible refine Split.and ?_))
        | ((with_reducible refine Split.or ?_))
        | ((with_reducible refine Split.streq (fun _ => ?_) (fun _ => ?_)) <;> conv => whnf)
        | ((with_reducible refine Split.dec (fun _ => ?_) (fun _ => ?_)) <;> conv => whnf)
        | ((with_reducible refine Split.mk (fun _ => ?_) (fun _ => ?_)) <;> conv => whnf)
        | ((with_reducible refine NilK.mk (fun _ => ?_) ?_) <;> conv => whnf)
        | ((with_reducible refine AltK.l ?_); (conv => whnf); (with_reducible refine Need.mk ?_ ?_); (first | omega | (refine ⟨?_, ?_⟩ <;> simp <;> omega) | (simp; omega)); conv => whnf)
        | ((with_reducible refine Need.mk ?_ ?_); (first | omega | rfl | decide | (refine ⟨?_, ?_⟩ <;> simp <;> omega) | (simp; omega)); conv => whnf)
        | ((with_reducible refine Wr.quo ?_ ?_ ?_ ?_); omega; omega; omega; conv => whnf)
        | ((with_reducible refine Wr.inr ?_ ?_); (first | omega | (simp; omega)); conv => whnf)
        | ((with_reducible refine Wr.inu ?_ ?_); omega; conv => whnf)
        | (exfalso; first | omega | contradiction))
      all_goals
        first | rw [if_pos (by assumption)] at f1 | rw [if_neg (by assumption)] at f1
        first | rw [if_pos (by assumption)] at f2 | rw [if_neg (by assumption)] at f2
        exact Again.au (k + 1) (by omega) (by omega) (by refine ⟨?_, ?_, rfl⟩ <;> (repeat' (first | exact True.intro | exact rfl | refine ⟨?_, ?_⟩ | (intro h; cases h; done) | (intro h; exact h) | exact map_snoc | (refine own_congr ?_; simp; done) | (refine int_congr ?_; (first | omega | (simp; omega))) | (simp; done) | ((first | refine own_congr ?_ | refine int_congr ?_ | skip); simp [f1,f2]; done) | ((first | refine own_congr ?_ | refine int_congr ?_); simp [f1,f2]; omega) | (show @Eq (List Go.Vm.D) _ []; simp [f1,f2]; done) | (simp [D.cells, f1,f2]; done))))
    all_goals rw [List.take_of_length_le (show l.length ≤ k by omega)] at *
    · conv => whnf
      repeat' (first
        | ((refine PickE.map i hx (by omega) ?_); conv => whnf)
        | ((with_reducible refine Split.of_true ?_); conv => whnf)
        | ((with_reducible refine Split.of_false ?_); conv => whnf)
        | ((with_reducible refine Split.neg ?_))
        | ((with_reducible refine Split.is_true ?_ ?_); decide; conv => whnf)
        | ((with_reducible refine Split.is_false ?_ ?_); decide; conv => whnf)
        | ((with_reducible refine Split.nez (fun _ => ?_) (fun _ => ?_)) <;> conv => whnf)
        | ((with_reducible refine Split.eqz (fun _ => ?_) (fun _ => ?_)) <;> conv => whnf)
        | ((with_reducible refine Split.and ?_))
        | ((with_reducible refine Split.or ?_))
        | ((with_reducible refine Split.streq (fun _ => ?_) (fun _ => ?_)) <;> conv => whnf)
        | ((with_reducible refine Split.dec (fun _ => ?_) (fun _ => ?_)) <;> conv => whnf)
        | ((with_reducible refine Split.mk (fun _ => ?_) (fun _ => ?_)) <;> conv => whnf)
        | ((with_reducible refine NilK.mk (fun _ => ?_) ?_) <;> conv => whnf)
        | ((with_reducible refine AltK.l ?_); (conv => whnf); (with_reducible refine Need.mk ?_ ?_); (first | omega | (refine ⟨?_, ?_⟩ <;> simp <;> omega) | (simp; omega)); conv => whnf)
        | ((with_reducible refine Need.mk ?_ ?_); (first | omega | rfl | decide | (refine ⟨?_, ?_⟩ <;> simp <;> omega) | (simp; omega)); conv => whnf)
        | ((with_reducible refine Wr.quo ?_ ?_ ?_ ?_); omega; omega; omega; conv => whnf)
        | ((with_reducible refine Wr.inr ?_ ?_); (first | omega | (simp; omega)); conv => whnf)
        | ((with_reducible refine Wr.inu ?_ ?_); omega; conv => whnf)
        | (exfalso; first | omega | contradiction))
      rw [rankZ_eq (l := l) (x := x) (k := (p - 1).toNat) (by omega) (by omega)]
      rfl
    all_goals
      refine Again.au (i + 1) ⟨by omega, fun y hy => ?_⟩ (by omega) (by refine ⟨?_, ?_, rfl⟩ <;> (repeat' (first | exact True.intro | exact rfl | refine ⟨?_, ?_⟩ | (intro h; cases h; done) | (intro h; exact h) | exact map_snoc | (refine own_congr ?_; simp; done) | (refine int_congr ?_; (first | omega | (simp; omega))) | (simp; done))))
      rw [take_snoc hx] at hy
      rcases List.mem_append.1 hy with hy | hy
      · exact hk y hy
      · rw [List.mem_singleton.1 hy]; omega
  · exfalso
    rw [List.take_of_length_le (show l.length ≤ i by omega)] at hk
    exact hk z hzl (by omega)
def spkN (l : List Sg) (s : Sg) : List Sg := nearS s.x s.y (fun o => o.n != s.n) l
def spkD (l : List Sg) (c : Int) (s : Sg) : Int := midS s - rankZ (((spkN l s).take c.toNat).map midS) ((c + 1) / 2 - 1).toNat
def farB (d lim : Int) : Bool := decide (d > lim) || decide (0 - d > lim)
def spkP (l : List Sg) (c lim : Int) (s : Sg) : Bool := decide (c ≤ (spkN l s).length) && farB (spkD l c s) lim
def spkS (l : List Sg) (c lim : Int) (m : List Sg) : List Int := (m.filter (spkP l c lim)).map Sg.n
theorem spk_snoc {l : List Sg} {c lim : Int} {m : List Sg} {i : Nat} {s : Sg} (h : m[i]? = some s) : spkS l c lim (m.take (i + 1)) = if spkP l c lim s = true then spkS l c lim (m.take i) ++ [s.n] else spkS l c lim (m.take i) := by
  rw [spkS, take_snoc h, List.filter_append, List.map_append]
  by_cases hp : spkP l c lim s = true <;> simp [hp, spkS]
theorem spk_len (l : List Sg) (c lim : Int) (m : List Sg) : (spkS l c lim m).length ≤ m.length := by rw [spkS, List.length_map]; exact List.length_filter_le _ _
def spikeRes (l : List Sg) (c lim : Int) : List Int × Int := if chkErr sgB Sg.n l ≠ 0 then ([], chkErr sgB Sg.n l) else if (outsideB c 1 25 || outsideB lim 0 200000) = true then ([], 2) else (spkS l c lim l, 0)
theorem ev_Spikes1 (o s : Sg) : Ev Tryz.prog 102 [sgD o, .ref [iD s.n, iD s.x, iD s.y, iD s.lo, iD s.hi] 0] (.bool (o.n != s.n)) := by
  refine ev_of_awp tysOk mixed (fn := Tryz.f102) Tryz.func102 rfl rfl rfl ?_
  conv => whnf
  repeat' (first
    | ((with_reducible refine Split.of_true ?_); conv => whnf)
    | ((with_reducible refine Split.of_false ?_); conv => whnf)
    | ((with_reducible refine Split.neg ?_))
    | ((with_reducible refine Split.is_true ?_ ?_); decide; conv => whnf)
    | ((with_reducible refine Split.is_false ?_ ?_); decide; conv => whnf)
    | ((with_reducible refine Split.nez (fun _ => ?_) (fun _ => ?_)) <;> conv => whnf)
    | ((with_reducible refine Split.eqz (fun _ => ?_) (fun _ => ?_)) <;> conv => whnf)
    | ((with_reducible refine Split.and ?_))
    | ((with_reducible refine Split.or ?_))
    | ((with_reducible refine Split.streq (fun _ => ?_) (fun _ => ?_)) <;> conv => whnf)
    | ((with_reducible refine Split.dec (fun _ => ?_) (fun _ => ?_)) <;> conv => whnf)
    | ((with_reducible refine Split.mk (fun _ => ?_) (fun _ => ?_)) <;> conv => whnf)
    | ((with_reducible refine NilK.mk (fun _ => ?_) ?_) <;> conv => whnf)
    | ((with_reducible refine AltK.l ?_); (conv => whnf); (with_reducible refine Need.mk ?_ ?_); (first | omega | (refine ⟨?_, ?_⟩ <;> simp <;> omega) | (simp; omega)); conv => whnf)
    | ((with_reducible refine Need.mk ?_ ?_); (first | omega | rfl | decide | (refine ⟨?_, ?_⟩ <;> simp <;> omega) | (simp; omega)); conv => whnf)
    | ((with_reducible refine Wr.quo ?_ ?_ ?_ ?_); omega; omega; omega; conv => whnf)
    | ((with_reducible refine Wr.inr ?_ ?_); (first | omega | (simp; omega)); conv => whnf)
    | ((with_reducible refine Wr.inu ?_ ?_); omega; conv => whnf)
    | (exfalso; first | omega | contradiction))
  rfl
theorem spkN_mem {l : List Sg} {s o : Sg} (h : o ∈ spkN l s) : o ∈ l := (near_mem h).1
theorem rank_bd {l : List Int} {k : Nat} (hk : k < l.length) (h : ∀ x ∈ l, -100000 ≤ x ∧ x ≤ 100000) : -100000 ≤ rankZ l k ∧ rankZ l k ≤ 100000 := by
  obtain ⟨x, _, e, hx, _⟩ := rankZ_mem hk
  rw [e]; exact h x hx
theorem ev_Spikes (l : List Sg) (c lim : Int) : Ev Tryz.prog 42 [.sl 5 (l.map sgD), .agg [iD c, iD lim]] (isE (spikeRes l c lim)) := by
  have hlen : (l.map sgD).length = l.length := List.length_map _
  have h1 := ev_CheckS l
  have h2 := ev_w1 c 1 25
  have h3 := ev_w1 lim 0 200000
  unfold spikeRes
  by_cases c0 : chkErr sgB Sg.n l = 0
  · rw [if_neg (by simpa using c0)]
    rw [c0] at h1
    obtain ⟨hl5, hall, hu⟩ := chk_zero c0
    cases hb : outsideB c 1 25 || outsideB lim 0 200000 with
    | true =>
      rw [if_pos rfl]
      generalize outsideB c 1 25 = b1 at *
      generalize outsideB lim 0 200000 = b2 at *
      cases b1 <;> cases b2
      all_goals
        refine ev_of_awp tysOk mixed (fn := Tryz.f42) Tryz.func42 rfl rfl rfl ?_
        conv => whnf
        repeat' (first
          | ((with_reducible refine Split.of_true ?_); conv => whnf)
          | ((with_reducible refine Split.of_false ?_); conv => whnf)
          | ((with_reducible refine Split.neg ?_))
          | ((with_reducible refine Split.is_true ?_ ?_); decide; conv => whnf)
          | ((with_reducible refine Split.is_false ?_ ?_); decide; conv => whnf)
          | ((with_reducible refine Split.nez (fun _ => ?_) (fun _ => ?_)) <;> conv => whnf)
          | ((with_reducible refine Split.eqz (fun _ => ?_) (fun _ => ?_)) <;> conv => whnf)
          | ((with_reducible refine Split.and ?_))
          | ((with_reducible refine Split.or ?_))
          | ((with_reducible refine Split.streq (fun _ => ?_) (fun _ => ?_)) <;> conv => whnf)
          | ((with_reducible refine Split.dec (fun _ => ?_) (fun _ => ?_)) <;> conv => whnf)
          | ((with_reducible refine Split.mk (fun _ => ?_) (fun _ => ?_)) <;> conv => whnf)
          | ((with_reducible refine NilK.mk (fun _ => ?_) ?_) <;> conv => whnf)
          | ((with_reducible refine AltK.l ?_); (conv => whnf); (with_reducible refine Need.mk ?_ ?_); (first | omega | (refine ⟨?_, ?_⟩ <;> simp <;> omega) | (simp; omega)); conv => whnf)
          | ((with_reducible refine Need.mk ?_ ?_); (first | omega | rfl | decide | (refine ⟨?_, ?_⟩ <;> simp <;> omega) | (simp; omega)); conv => whnf)
          | ((with_reducible refine Wr.quo ?_ ?_ ?_ ?_); omega; omega; omega; conv => whnf)
          | ((with_reducible refine Wr.inr ?_ ?_); (first | omega | (simp; omega)); conv => whnf)
          | ((with_reducible refine Wr.inu ?_ ?_); omega; conv => whnf)
          | ((with_reducible refine AltK.l ?_); (conv => whnf); (first | (refine CallK.mk _ (h1) ?_) | (refine CallK.mk _ (h2) ?_) | (refine CallK.mk _ (h3) ?_)); conv => whnf)
          | (exfalso; first | omega | contradiction))
        all_goals first | rfl | (simp at hb; done)
    | false =>
      rw [if_neg (by simp)]
      rw [Bool.or_eq_false_iff] at hb
      rw [hb.1] at h2
      rw [hb.2] at h3
      rw [out_not, out_not] at hb
      obtain ⟨hc, hlim⟩ := hb
      refine ev_of_awp tysOk mixed (fn := Tryz.f42) Tryz.func42 rfl rfl rfl ?_
      conv => whnf
      repeat' (first
        | ((with_reducible refine Split.of_true ?_); conv => whnf)
        | ((with_reducible refine Split.of_false ?_); conv => whnf)
        | ((with_reducible refine Split.neg ?_))
        | ((with_reducible refine Split.is_true ?_ ?_); decide; conv => whnf)
        | ((with_reducible refine Split.is_false ?_ ?_); decide; conv => whnf)
        | ((with_reducible refine Split.nez (fun _ => ?_) (fun _ => ?_)) <;> conv => whnf)
        | ((with_reducible refine Split.eqz (fun _ => ?_) (fun _ => ?_)) <;> conv => whnf)
        | ((with_reducible refine Split.and ?_))
        | ((with_reducible refine Split.or ?_))
        | ((with_reducible refine Split.streq (fun _ => ?_) (fun _ => ?_)) <;> conv => whnf)
        | ((with_reducible refine Split.dec (fun _ => ?_) (fun _ => ?_)) <;> conv => whnf)
        | ((with_reducible refine Split.mk (fun _ => ?_) (fun _ => ?_)) <;> conv => whnf)
        | ((with_reducible refine NilK.mk (fun _ => ?_) ?_) <;> conv => whnf)
        | ((with_reducible refine AltK.l ?_); (conv => whnf); (with_reducible refine Need.mk ?_ ?_); (first | omega | (refine ⟨?_, ?_⟩ <;> simp <;> omega) | (simp; omega)); conv => whnf)
        | ((with_reducible refine Need.mk ?_ ?_); (first | omega | rfl | decide | (refine ⟨?_, ?_⟩ <;> simp <;> omega) | (simp; omega)); conv => whnf)
        | ((with_reducible refine Wr.quo ?_ ?_ ?_ ?_); omega; omega; omega; conv => whnf)
        | ((with_reducible refine Wr.inr ?_ ?_); (first | omega | (simp; omega)); conv => whnf)
        | ((with_reducible refine Wr.inu ?_ ?_); omega; conv => whnf)
        | ((with_reducible refine AltK.l ?_); (conv => whnf); (first | (refine CallK.mk _ (h1) ?_) | (refine CallK.mk _ (h2) ?_) | (refine CallK.mk _ (h3) ?_)); conv => whnf)
        | (exfalso; first | omega | contradiction))
      refine LoopK.o2 (fun i : Nat => i ≤ l.length) (fun i => [(7, .own 200 1 ((spkS l c lim (l.take i)).map iD).length), (31, .d (.int .i64 i))]) (fun i => [(200, .row 3 1 ((spkS l c lim (l.take i)).map iD) false)]) (fun i => l.length - i) 0 (by simp) (by refine ⟨?_, ?_, rfl⟩ <;> (repeat' (first | exact True.intro | exact rfl | refine ⟨?_, ?_⟩ | (intro h; cases h; done) | (intro h; exact h) | exact map_snoc | (refine own_congr ?_; simp; done) | (refine int_congr ?_; (first | omega | (simp; omega))) | (simp; done) | ((first | refine own_congr ?_ | refine int_congr ?_ | skip); simp [spkS]; done) | ((first | refine own_congr ?_ | refine int_congr ?_); simp [spkS]; omega) | (show @Eq (List Go.Vm.D) _ []; simp [spkS]; done) | (simp [D.cells, spkS]; done)))) ?_
      rintro i hi
      have hnx : (i : Int) < l.length → ∃ m, l[i]? = some m := fun h => some_of_lt (by omega)
      have hcl := spk_len l c lim (l.take i)
      rw [List.length_take] at hcl
      conv => whnf
      repeat' (first
        | ((with_reducible refine Split.of_true ?_); conv => whnf)
        | ((with_reducible refine Split.of_false ?_); conv => whnf)
        | ((with_reducible refine Split.neg ?_))
        | ((with_reducible refine Split.is_true ?_ ?_); decide; conv => whnf)
        | ((with_reducible refine Split.is_false ?_ ?_); decide; conv => whnf)
        | ((with_reducible refine Split.nez (fun _ => ?_) (fun _ => ?_)) <;> conv => whnf)
        | ((with_reducible refine Split.eqz (fun _ => ?_) (fun _ => ?_)) <;> conv => whnf)
        | ((with_reducible refine Split.and ?_))
        | ((with_reducible refine Split.or ?_))
        | ((with_reducible refine Split.streq (fun _ => ?_) (fun _ => ?_)) <;> conv => whnf)
        | ((with_reducible refine Split.dec (fun _ => ?_) (fun _ => ?_)) <;> conv => whnf)
        | ((with_reducible refine Split.mk (fun _ => ?_) (fun _ => ?_)) <;> conv => whnf)
        | ((with_reducible refine NilK.mk (fun _ => ?_) ?_) <;> conv => whnf)
        | ((with_reducible refine AltK.l ?_); (conv => whnf); (with_reducible refine Need.mk ?_ ?_); (first | omega | (refine ⟨?_, ?_⟩ <;> simp <;> omega) | (simp; omega)); conv => whnf)
        | ((with_reducible refine Need.mk ?_ ?_); (first | omega | rfl | decide | (refine ⟨?_, ?_⟩ <;> simp <;> omega) | (simp; omega)); conv => whnf)
        | ((with_reducible refine Wr.quo ?_ ?_ ?_ ?_); omega; omega; omega; conv => whnf)
        | ((with_reducible refine Wr.inr ?_ ?_); (first | omega | (simp; omega)); conv => whnf)
        | ((with_reducible refine Wr.inu ?_ ?_); omega; conv => whnf)
        | (exfalso; first | omega | contradiction))
      · obtain ⟨s, hs⟩ := hnx (by omega)
        have hsl := List.mem_of_getElem? hs
        have hst := spk_snoc (l := l) (c := c) (lim := lim) hs
        have hsp := sg_place (hall s hsl)
        have h4 : Ev Tryz.prog 95 [.sl 5 (l.map sgD), iD s.x, iD s.y, .fn 102 [.ref [iD s.n, iD s.x, iD s.y, iD s.lo, iD s.hi] 0]] (.sl 5 ((spkN l s).map sgD)) := ev_nearest l s.x s.y _ [.ref [iD s.n, iD s.x, iD s.y, iD s.lo, iD s.hi] 0] (fun o => o.n != s.n) hu hl5 (sg_places hall) hsp fun o _ => ev_Spikes1 o s
        have h5 := ev_middle s (sg_bnd (hall s hsl))
        have b5 := mid_bd (sg_bnd (hall s hsl))
        have hmem : ∀ o ∈ spkN l s, o ∈ l := fun o ho => spkN_mem ho
        have hnl : (spkN l s).length ≤ l.length := near_len _ _ _ _
        rw [spkP, spkD] at hst
        generalize spkN l s = N at *
        have em : (N.map sgD).length = N.length := List.length_map _
        by_cases hcN : c ≤ N.length
        · have hK : (N.take c.toNat).length = c.toNat := by rw [List.length_take]; omega
          have e5 : ((N.map sgD).take c.toNat).drop (Int.toNat 0) = (N.take c.toNat).map sgD := by rw [← List.map_take]; rfl
          have h6 := ev_median (N.take c.toNat) (by omega) (fun o ho => sg_bnd (hall o (hmem o (List.mem_of_mem_take ho))))
          have e6 : ((N.take c.toNat).length + 1) / 2 - 1 = ((c + 1) / 2 - 1).toNat := by omega
          rw [← e5, e6] at h6
          have b6 := rank_bd (l := (N.take c.toNat).map midS) (k := ((c + 1) / 2 - 1).toNat) (by rw [List.length_map]; omega) (fun x hx => by
            obtain ⟨o, ho, rfl⟩ := List.mem_map.1 hx
            exact mid_bd (sg_bnd (hall o (hmem o (List.mem_of_mem_take ho)))))
          rw [decide_eq_true hcN, Bool.true_and, farB] at hst
          generalize rankZ ((N.take c.toNat).map midS) ((c + 1) / 2 - 1).toNat = rk at *
          conv => whnf
          repeat' (first
            | ((refine PickE.map i hs (by omega) ?_); conv => whnf)
            | ((with_reducible refine Split.of_true ?_); conv => whnf)
            | ((with_reducible refine Split.of_false ?_); conv => whnf)
            | ((with_reducible refine Split.neg ?_))
            | ((with_reducible refine Split.is_true ?_ ?_); decide; conv => whnf)
            | ((with_reducible refine Split.is_false ?_ ?_); decide; conv => whnf)
            | ((with_reducible refine Split.nez (fun _ => ?_) (fun _ => ?_)) <;> conv => whnf)
            | ((with_reducible refine Split.eqz (fun _ => ?_) (fun _ => ?_)) <;> conv => whnf)
            | ((with_reducible refine Split.and ?_))
            | ((with_reducible refine Split.or ?_))
            | ((with_reducible refine Split.streq (fun _ => ?_) (fun _ => ?_)) <;> conv => whnf)
            | ((with_reducible refine Split.dec (fun _ => ?_) (fun _ => ?_)) <;> conv => whnf)
            | ((with_reducible refine Split.mk (fun _ => ?_) (fun _ => ?_)) <;> conv => whnf)
            | ((with_reducible refine NilK.mk (fun _ => ?_) ?_) <;> conv => whnf)
            | ((with_reducible refine AltK.l ?_); (conv => whnf); (with_reducible refine Need.mk ?_ ?_); (first | omega | (refine ⟨?_, ?_⟩ <;> simp <;> omega) | (simp; omega)); conv => whnf)
            | ((with_reducible refine Need.mk ?_ ?_); (first | omega | rfl | decide | (refine ⟨?_, ?_⟩ <;> simp <;> omega) | (simp; omega)); conv => whnf)
            | ((with_reducible refine Wr.quo ?_ ?_ ?_ ?_); omega; omega; omega; conv => whnf)
            | ((with_reducible refine Wr.inr ?_ ?_); (first | omega | (simp; omega)); conv => whnf)
            | ((with_reducible refine Wr.inu ?_ ?_); omega; conv => whnf)
            | ((with_reducible refine AltK.l ?_); (conv => whnf); (first | (refine CallK.mk _ (h4) ?_) | (refine CallK.mk _ (h5) ?_) | (refine CallK.mk _ (h6) ?_)); conv => whnf)
            | (exfalso; first | omega | contradiction))
          all_goals
            first | rw [if_pos (by simp; omega)] at hst | rw [if_neg (by simp; omega)] at hst
            exact Again.au (i + 1) (by omega) (by omega) (by refine ⟨?_, ?_, rfl⟩ <;> (repeat' (first | exact True.intro | exact rfl | refine ⟨?_, ?_⟩ | (intro h; cases h; done) | (intro h; exact h) | exact map_snoc | (refine own_congr ?_; simp; done) | (refine int_congr ?_; (first | omega | (simp; omega))) | (simp; done) | ((first | refine own_congr ?_ | refine int_congr ?_ | skip); simp [hst,iD]; done) | ((first | refine own_congr ?_ | refine int_congr ?_); simp [hst,iD]; omega) | (show @Eq (List Go.Vm.D) _ []; simp [hst,iD]; done) | (simp [D.cells, hst,iD]; done))))
        · rw [decide_eq_false hcN, Bool.false_and, if_neg (by decide)] at hst
          conv => whnf
          repeat' (first
            | ((refine PickE.map i hs (by omega) ?_); conv => whnf)
            | ((with_reducible refine Split.of_true ?_); conv => whnf)
            | ((with_reducible refine Split.of_false ?_); conv => whnf)
            | ((with_reducible refine Split.neg ?_))
            | ((with_reducible refine Split.is_true ?_ ?_); decide; conv => whnf)
            | ((with_reducible refine Split.is_false ?_ ?_); decide; conv => whnf)
            | ((with_reducible refine Split.nez (fun _ => ?_) (fun _ => ?_)) <;> conv => whnf)
            | ((with_reducible refine Split.eqz (fun _ => ?_) (fun _ => ?_)) <;> conv => whnf)
            | ((with_reducible refine Split.and ?_))
            | ((with_reducible refine Split.or ?_))
            | ((with_reducible refine Split.streq (fun _ => ?_) (fun _ => ?_)) <;> conv => whnf)
            | ((with_reducible refine Split.dec (fun _ => ?_) (fun _ => ?_)) <;> conv => whnf)
            | ((with_reducible refine Split.mk (fun _ => ?_) (fun _ => ?_)) <;> conv => whnf)
            | ((with_reducible refine NilK.mk (fun _ => ?_) ?_) <;> conv => whnf)
            | ((with_reducible refine AltK.l ?_); (conv => whnf); (with_reducible refine Need.mk ?_ ?_); (first | omega | (refine ⟨?_, ?_⟩ <;> simp <;> omega) | (simp; omega)); conv => whnf)
            | ((with_reducible refine Need.mk ?_ ?_); (first | omega | rfl | decide | (refine ⟨?_, ?_⟩ <;> simp <;> omega) | (simp; omega)); conv => whnf)
            | ((with_reducible refine Wr.quo ?_ ?_ ?_ ?_); omega; omega; omega; conv => whnf)
            | ((with_reducible refine Wr.inr ?_ ?_); (first | omega | (simp; omega)); conv => whnf)
            | ((with_reducible refine Wr.inu ?_ ?_); omega; conv => whnf)
            | ((with_reducible refine AltK.l ?_); (conv => whnf); (first | (refine CallK.mk _ (h4) ?_)); conv => whnf)
            | (exfalso; first | omega | contradiction))
          exact Again.au (i + 1) (by omega) (by omega) (by refine ⟨?_, ?_, rfl⟩ <;> (repeat' (first | exact True.intro | exact rfl | refine ⟨?_, ?_⟩ | (intro h; cases h; done) | (intro h; exact h) | exact map_snoc | (refine own_congr ?_; simp; done) | (refine int_congr ?_; (first | omega | (simp; omega))) | (simp; done) | ((first | refine own_congr ?_ | refine int_congr ?_ | skip); simp [hst]; done) | ((first | refine own_congr ?_ | refine int_congr ?_); simp [hst]; omega) | (show @Eq (List Go.Vm.D) _ []; simp [hst]; done) | (simp [D.cells, hst]; done))))
      · rw [List.take_of_length_le (show l.length ≤ i by omega)]
        rfl
  · rw [if_pos c0]
    refine ev_of_awp tysOk mixed (fn := Tryz.f42) Tryz.func42 rfl rfl rfl ?_
    conv => whnf
    repeat' (first
      | ((with_reducible refine Split.of_true ?_); conv => whnf)
      | ((with_reducible refine Split.of_false ?_); conv => whnf)
      | ((with_reducible refine Split.neg ?_))
      | ((with_reducible refine Split.is_true ?_ ?_); decide; conv => whnf)
      | ((with_reducible refine Split.is_false ?_ ?_); decide; conv => whnf)
      | ((with_reducible refine Split.nez (fun _ => ?_) (fun _ => ?_)) <;> conv => whnf)
      | ((with_reducible refine Split.eqz (fun _ => ?_) (fun _ => ?_)) <;> conv => whnf)
      | ((with_reducible refine Split.and ?_))
      | ((with_reducible refine Split.or ?_))
      | ((with_reducible refine Split.streq (fun _ => ?_) (fun _ => ?_)) <;> conv => whnf)
      | ((with_reducible refine Split.dec (fun _ => ?_) (fun _ => ?_)) <;> conv => whnf)
      | ((with_reducible refine Split.mk (fun _ => ?_) (fun _ => ?_)) <;> conv => whnf)
      | ((with_reducible refine NilK.mk (fun _ => ?_) ?_) <;> conv => whnf)
      | ((with_reducible refine AltK.l ?_); (conv => whnf); (with_reducible refine Need.mk ?_ ?_); (first | omega | (refine ⟨?_, ?_⟩ <;> simp <;> omega) | (simp; omega)); conv => whnf)
      | ((with_reducible refine Need.mk ?_ ?_); (first | omega | rfl | decide | (refine ⟨?_, ?_⟩ <;> simp <;> omega) | (simp; omega)); conv => whnf)
      | ((with_reducible refine Wr.quo ?_ ?_ ?_ ?_); omega; omega; omega; conv => whnf)
      | ((with_reducible refine Wr.inr ?_ ?_); (first | omega | (simp; omega)); conv => whnf)
      | ((with_reducible refine Wr.inu ?_ ?_); omega; conv => whnf)
      | ((with_reducible refine AltK.l ?_); (conv => whnf); (first | (refine CallK.mk _ (h1) ?_)); conv => whnf)
      | (exfalso; first | omega | contradiction))
    all_goals simp_all [retOf, isE, iD]
theorem filt_one {s : Sg} : ∀ {l : List Sg}, NoTwo l → s ∈ l → (l.filter fun o => o.n != s.n).length + 1 = l.length
  | [], _, h => by cases h
  | a :: r, hu, h => by
    obtain ⟨h1, h2⟩ := List.pairwise_cons.1 hu
    rcases List.mem_cons.1 h with rfl | h
    · have : (r.filter fun o => o.n != s.n) = r := by
        rw [List.filter_eq_self]; intro o ho; have := h1 o ho; simp; exact fun e => this e.symm
      rw [List.filter_cons, if_neg (by simp), this]; rfl
    · have := filt_one h2 h
      rw [List.filter_cons, if_pos (by simpa using h1 s h), List.length_cons, List.length_cons, this]
theorem spkN_len {l : List Sg} {s : Sg} (hu : NoTwo l) (h : s ∈ l) : (spkN l s).length + 1 = l.length := by rw [spkN, nearS, sortL_len]; exact filt_one hu h
theorem spkN_but {l : List Sg} {s : Sg} {i : Nat} (hu : NoTwo l) (h : l[i]? = some s) : nearS s.x s.y (butP l i) l = spkN l s := by
  rw [spkN, nearS, nearS]
  congr 1
  refine List.filter_congr fun o ho => ?_
  obtain ⟨j, hj, hjo⟩ := near_find hu ho
  rw [butP, hj, Bool.eq_iff_iff, decide_eq_true_eq, bne_iff_ne, ne_eq, ne_eq]
  refine not_congr ⟨fun e => ?_, fun e => ?_⟩
  · have : j = i := by omega
    subst this
    rw [h] at hjo; cases hjo; rfl
  · have : o = s := noTwo_eq hu o ho s (List.mem_of_getElem? h) e
    subst this
    rw [find_at hu h] at hj; omega
theorem ev_SpikesR (l : List Sg) (c lim : Int) : Ev Tryz.prog 43 [.sl 5 (l.map sgD), .agg [iD c, iD lim]] (isE (spikeRes l c lim)) := by
  have hlen : (l.map sgD).length = l.length := List.length_map _
  have h1 := ev_CheckSR l
  have h2 := ev_Within c 1 25
  have h3 := ev_Within lim 0 200000
  unfold spikeRes
  by_cases c0 : chkErr sgB Sg.n l = 0
  · rw [if_neg (by simpa using c0)]
    rw [c0] at h1
    obtain ⟨hl5, hall, hu⟩ := chk_zero c0
    cases hb : outsideB c 1 25 || outsideB lim 0 200000 with
    | true =>
      rw [if_pos rfl]
      generalize outsideB c 1 25 = b1 at *
      generalize outsideB lim 0 200000 = b2 at *
      cases b1 <;> cases b2
      all_goals
        refine ev_of_awp tysOk mixed (fn := Tryz.f43) Tryz.func43 rfl rfl rfl ?_
        conv => whnf
        repeat' (first
          | ((with_reducible refine Split.of_true ?_); conv => whnf)
          | ((with_reducible refine Split.of_false ?_); conv => whnf)
          | ((with_reducible refine Split.neg ?_))
          | ((with_reducible refine Split.is_true ?_ ?_); decide; conv => whnf)
          | ((with_reducible refine Split.is_false ?_ ?_); decide; conv => whnf)
          | ((with_reducible refine Split.nez (fun _ => ?_) (fun _ => ?_)) <;> conv => whnf)
          | ((with_reducible refine Split.eqz (fun _ => ?_) (fun _ => ?_)) <;> conv => whnf)
          | ((with_reducible refine Split.and ?_))
          | ((with_reducible refine Split.or ?_))
          | ((with_reducible refine Split.streq (fun _ => ?_) (fun _ => ?_)) <;> conv => whnf)
          | ((with_reducible refine Split.dec (fun _ => ?_) (fun _ => ?_)) <;> conv => whnf)
          | ((with_reducible refine Split.mk (fun _ => ?_) (fun _ => ?_)) <;> conv => whnf)
          | ((with_reducible refine NilK.mk (fun _ => ?_) ?_) <;> conv => whnf)
          | ((with_reducible refine AltK.l ?_); (conv => whnf); (with_reducible refine Need.mk ?_ ?_); (first | omega | (refine ⟨?_, ?_⟩ <;> simp <;> omega) | (simp; omega)); conv => whnf)
          | ((with_reducible refine Need.mk ?_ ?_); (first | omega | rfl | decide | (refine ⟨?_, ?_⟩ <;> simp <;> omega) | (simp; omega)); conv => whnf)
          | ((with_reducible refine Wr.quo ?_ ?_ ?_ ?_); omega; omega; omega; conv => whnf)
          | ((with_reducible refine Wr.inr ?_ ?_); (first | omega | (simp; omega)); conv => whnf)
          | ((with_reducible refine Wr.inu ?_ ?_); omega; conv => whnf)
          | ((with_reducible refine AltK.l ?_); (conv => whnf); (first | (refine CallK.mk _ (h1) ?_) | (refine CallK.mk _ (h2) ?_) | (refine CallK.mk _ (h3) ?_)); conv => whnf)
          | (exfalso; first | omega | contradiction))
        all_goals first | rfl | (simp at hb; done)
    | false =>
      rw [if_neg (by simp)]
      rw [Bool.or_eq_false_iff] at hb
      rw [hb.1] at h2
      rw [hb.2] at h3
      rw [out_not, out_not] at hb
      obtain ⟨hc, hlim⟩ := hb
      by_cases hlc : c < l.length
      · refine ev_of_awp tysOk mixed (fn := Tryz.f43) Tryz.func43 rfl rfl rfl ?_
        conv => whnf
        repeat' (first
          | ((with_reducible refine Split.of_true ?_); conv => whnf)
          | ((with_reducible refine Split.of_false ?_); conv => whnf)
          | ((with_reducible refine Split.neg ?_))
          | ((with_reducible refine Split.is_true ?_ ?_); decide; conv => whnf)
          | ((with_reducible refine Split.is_false ?_ ?_); decide; conv => whnf)
          | ((with_reducible refine Split.nez (fun _ => ?_) (fun _ => ?_)) <;> conv => whnf)
          | ((with_reducible refine Split.eqz (fun _ => ?_) (fun _ => ?_)) <;> conv => whnf)
          | ((with_reducible refine Split.and ?_))
          | ((with_reducible refine Split.or ?_))
          | ((with_reducible refine Split.streq (fun _ => ?_) (fun _ => ?_)) <;> conv => whnf)
          | ((with_reducible refine Split.dec (fun _ => ?_) (fun _ => ?_)) <;> conv => whnf)
          | ((with_reducible refine Split.mk (fun _ => ?_) (fun _ => ?_)) <;> conv => whnf)
          | ((with_reducible refine NilK.mk (fun _ => ?_) ?_) <;> conv => whnf)
          | ((with_reducible refine AltK.l ?_); (conv => whnf); (with_reducible refine Need.mk ?_ ?_); (first | omega | (refine ⟨?_, ?_⟩ <;> simp <;> omega) | (simp; omega)); conv => whnf)
          | ((with_reducible refine Need.mk ?_ ?_); (first | omega | rfl | decide | (refine ⟨?_, ?_⟩ <;> simp <;> omega) | (simp; omega)); conv => whnf)
          | ((with_reducible refine Wr.quo ?_ ?_ ?_ ?_); omega; omega; omega; conv => whnf)
          | ((with_reducible refine Wr.inr ?_ ?_); (first | omega | (simp; omega)); conv => whnf)
          | ((with_reducible refine Wr.inu ?_ ?_); omega; conv => whnf)
          | ((with_reducible refine AltK.l ?_); (conv => whnf); (first | (refine CallK.mk _ (h1) ?_) | (refine CallK.mk _ (h2) ?_) | (refine CallK.mk _ (h3) ?_)); conv => whnf)
          | (exfalso; first | omega | contradiction))
        refine LoopK.o2 (fun i : Nat => i ≤ l.length) (fun i => [(7, .own 200 1 ((spkS l c lim (l.take i)).map iD).length), (8, .d (.int .i64 i))]) (fun i => [(200, .row 3 1 ((spkS l c lim (l.take i)).map iD) false)]) (fun i => l.length - i) 0 (by simp) (by refine ⟨?_, ?_, rfl⟩ <;> (repeat' (first | exact True.intro | exact rfl | refine ⟨?_, ?_⟩ | (intro h; cases h; done) | (intro h; exact h) | exact map_snoc | (refine own_congr ?_; simp; done) | (refine int_congr ?_; (first | omega | (simp; omega))) | (simp; done) | ((first | refine own_congr ?_ | refine int_congr ?_ | skip); simp [spkS]; done) | ((first | refine own_congr ?_ | refine int_congr ?_); simp [spkS]; omega) | (show @Eq (List Go.Vm.D) _ []; simp [spkS]; done) | (simp [D.cells, spkS]; done)))) ?_
        rintro i hi
        have hnx : (i : Int) < l.length → ∃ m, l[i]? = some m := fun h => some_of_lt (by omega)
        have hcl := spk_len l c lim (l.take i)
        rw [List.length_take] at hcl
        by_cases hil : i < l.length
        · obtain ⟨s, hs⟩ := hnx (by omega)
          have hsl := List.mem_of_getElem? hs
          have hst := spk_snoc (l := l) (c := c) (lim := lim) hs
          have hsp := sg_place (hall s hsl)
          have h4 := ev_nearestR l s.x s.y c i hu (by omega) (sg_places hall) hsp (by omega)
          rw [nearI, spkN_but hu hs] at h4
          have h5 := ev_MiddleR s (sg_bnd (hall s hsl))
          have b5 := mid_bd (sg_bnd (hall s hsl))
          have hmem : ∀ o ∈ spkN l s, o ∈ l := fun o ho => spkN_mem ho
          have hnl := spkN_len hu hsl
          rw [spkP, spkD] at hst
          generalize spkN l s = N at *
          rw [decide_eq_true (by omega : c ≤ (N.length : Int)), Bool.true_and, farB] at hst
          have hK : (N.take c.toNat).length = c.toNat := by rw [List.length_take]; omega
          have hmem2 : ∀ o ∈ N.take c.toNat, o ∈ l := fun o ho => hmem o (List.mem_of_mem_take ho)
          generalize N.take c.toNat = K at *
          have eM : ((K.map fun s => findS l s.n).map iD).length = K.length := by rw [List.length_map, List.length_map]
          conv => whnf
          repeat' (first
            | ((refine PickE.map i hs (by omega) ?_); conv => whnf)
            | ((with_reducible refine Split.of_true ?_); conv => whnf)
            | ((with_reducible refine Split.of_false ?_); conv => whnf)
            | ((with_reducible refine Split.neg ?_))
            | ((with_reducible refine Split.is_true ?_ ?_); decide; conv => whnf)
            | ((with_reducible refine Split.is_false ?_ ?_); decide; conv => whnf)
            | ((with_reducible refine Split.nez (fun _ => ?_) (fun _ => ?_)) <;> conv => whnf)
            | ((with_reducible refine Split.eqz (fun _ => ?_) (fun _ => ?_)) <;> conv => whnf)
            | ((with_reducible refine Split.and ?_))
            | ((with_reducible refine Split.or ?_))
            | ((with_reducible refine Split.streq (fun _ => ?_) (fun _ => ?_)) <;> conv => whnf)
            | ((with_reducible refine Split.dec (fun _ => ?_) (fun _ => ?_)) <;> conv => whnf)
            | ((with_reducible refine Split.mk (fun _ => ?_) (fun _ => ?_)) <;> conv => whnf)
            | ((with_reducible refine NilK.mk (fun _ => ?_) ?_) <;> conv => whnf)
            | ((with_reducible refine AltK.l ?_); (conv => whnf); (with_reducible refine Need.mk ?_ ?_); (first | omega | (refine ⟨?_, ?_⟩ <;> simp <;> omega) | (simp; omega)); conv => whnf)
            | ((with_reducible refine Need.mk ?_ ?_); (first | omega | rfl | decide | (refine ⟨?_, ?_⟩ <;> simp <;> omega) | (simp; omega)); conv => whnf)
            | ((with_reducible refine Wr.quo ?_ ?_ ?_ ?_); omega; omega; omega; conv => whnf)
            | ((with_reducible refine Wr.inr ?_ ?_); (first | omega | (simp; omega)); conv => whnf)
            | ((with_reducible refine Wr.inu ?_ ?_); omega; conv => whnf)
            | ((with_reducible refine AltK.l ?_); (conv => whnf); (first | (refine CallK.mk _ (h4) ?_)); conv => whnf)
            | (exfalso; first | omega | contradiction))
          refine LoopK.o2 (fun k : Nat => k ≤ K.length) (fun k => [(10, .own 201 1 (((K.take k).map midS).map iD).length), (11, .d (.int .i64 k))]) (fun k => [(201, .row 3 1 (((K.take k).map midS).map iD) false)]) (fun k => K.length - k) 0 (by simp) (by refine ⟨?_, ?_, rfl⟩ <;> (repeat' (first | exact True.intro | exact rfl | refine ⟨?_, ?_⟩ | (intro h; cases h; done) | (intro h; exact h) | exact map_snoc | (refine own_congr ?_; simp; done) | (refine int_congr ?_; (first | omega | (simp; omega))) | (simp; done)))) ?_
          rintro k hk
          have hnk : (k : Int) < K.length → ∃ m, K[k]? = some m := fun h => some_of_lt (by omega)
          have e1 : (((K.take k).map midS).map iD).length = k := by rw [List.length_map, List.length_map, List.length_take]; omega
          by_cases hkK : k < K.length
          · obtain ⟨o, ho⟩ := hnk (by omega)
            have hol := hmem2 o (List.mem_of_getElem? ho)
            have hst2 := take_snoc ho
            obtain ⟨j, hj, hjs⟩ := near_find hu hol
            have hM : (K.map fun s => findS l s.n)[k]? = some (j : Int) := by rw [List.getElem?_map, ho, Option.map_some, hj]
            have hjl := (List.getElem?_eq_some_iff.1 hjs).1
            have h6 := ev_MiddleR o (sg_bnd (hall o hol))
            conv => whnf
            repeat' (first
              | ((refine PickE.map j hjs (by omega) ?_); conv => whnf)
              | ((refine PickE.map k hM (by omega) ?_); conv => whnf)
              | ((with_reducible refine Split.of_true ?_); conv => whnf)
              | ((with_reducible refine Split.of_false ?_); conv => whnf)
              | ((with_reducible refine Split.neg ?_))
              | ((with_reducible refine Split.is_true ?_ ?_); decide; conv => whnf)
              | ((with_reducible refine Split.is_false ?_ ?_); decide; conv => whnf)
              | ((with_reducible refine Split.nez (fun _ => ?_) (fun _ => ?_)) <;> conv => whnf)
              | ((with_reducible refine Split.eqz (fun _ => ?_) (fun _ => ?_)) <;> conv => whnf)
              | ((with_reducible refine Split.and ?_))
              | ((with_reducible refine Split.or ?_))
              | ((with_reducible refine Split.streq (fun _ => ?_) (fun _ => ?_)) <;> conv => whnf)
              | ((with_reducible refine Split.dec (fun _ => ?_) (fun _ => ?_)) <;> conv => whnf)
              | ((with_reducible refine Split.mk (fun _ => ?_) (fun _ => ?_)) <;> conv => whnf)
              | ((with_reducible refine NilK.mk (fun _ => ?_) ?_) <;> conv => whnf)
              | ((with_reducible refine AltK.l ?_); (conv => whnf); (with_reducible refine Need.mk ?_ ?_); (first | omega | (refine ⟨?_, ?_⟩ <;> simp <;> omega) | (simp; omega)); conv => whnf)
              | ((with_reducible refine Need.mk ?_ ?_); (first | omega | rfl | decide | (refine ⟨?_, ?_⟩ <;> simp <;> omega) | (simp; omega)); conv => whnf)
              | ((with_reducible refine Wr.quo ?_ ?_ ?_ ?_); omega; omega; omega; conv => whnf)
              | ((with_reducible refine Wr.inr ?_ ?_); (first | omega | (simp; omega)); conv => whnf)
              | ((with_reducible refine Wr.inu ?_ ?_); omega; conv => whnf)
              | ((with_reducible refine AltK.l ?_); (conv => whnf); (first | (refine CallK.mk _ (h6) ?_)); conv => whnf)
              | (exfalso; first | omega | contradiction))
            exact Again.au (k + 1) (by omega) (by omega) (by refine ⟨?_, ?_, rfl⟩ <;> (repeat' (first | exact True.intro | exact rfl | refine ⟨?_, ?_⟩ | (intro h; cases h; done) | (intro h; exact h) | exact map_snoc | (refine own_congr ?_; simp; done) | (refine int_congr ?_; (first | omega | (simp; omega))) | (simp; done) | ((first | refine own_congr ?_ | refine int_congr ?_ | skip); simp [hst2]; done) | ((first | refine own_congr ?_ | refine int_congr ?_); simp [hst2]; omega) | (show @Eq (List Go.Vm.D) _ []; simp [hst2]; done) | (simp [D.cells, hst2]; done))))
          · rw [List.take_of_length_le (show K.length ≤ k by omega)] at *
            have h7 := ev_ranked (K.map midS) ((c + 1) / 2) (by rw [List.length_map]; omega) (by rw [List.length_map]; omega)
            have b6 := rank_bd (l := K.map midS) (k := ((c + 1) / 2 - 1).toNat) (by rw [List.length_map]; omega) (fun x hx => by
              obtain ⟨o, ho, rfl⟩ := List.mem_map.1 hx
              exact mid_bd (sg_bnd (hall o (hmem2 o ho))))
            generalize rankZ (K.map midS) ((c + 1) / 2 - 1).toNat = rk at *
            have h8 := ev_Abs (midS s - rk) (by omega)
            conv => whnf
            repeat' (first
              | ((refine PickE.map i hs (by omega) ?_); conv => whnf)
              | ((with_reducible refine Split.of_true ?_); conv => whnf)
              | ((with_reducible refine Split.of_false ?_); conv => whnf)
              | ((with_reducible refine Split.neg ?_))
              | ((with_reducible refine Split.is_true ?_ ?_); decide; conv => whnf)
              | ((with_reducible refine Split.is_false ?_ ?_); decide; conv => whnf)
              | ((with_reducible refine Split.nez (fun _ => ?_) (fun _ => ?_)) <;> conv => whnf)
              | ((with_reducible refine Split.eqz (fun _ => ?_) (fun _ => ?_)) <;> conv => whnf)
              | ((with_reducible refine Split.and ?_))
              | ((with_reducible refine Split.or ?_))
              | ((with_reducible refine Split.streq (fun _ => ?_) (fun _ => ?_)) <;> conv => whnf)
              | ((with_reducible refine Split.dec (fun _ => ?_) (fun _ => ?_)) <;> conv => whnf)
              | ((with_reducible refine Split.mk (fun _ => ?_) (fun _ => ?_)) <;> conv => whnf)
              | ((with_reducible refine NilK.mk (fun _ => ?_) ?_) <;> conv => whnf)
              | ((with_reducible refine AltK.l ?_); (conv => whnf); (with_reducible refine Need.mk ?_ ?_); (first | omega | (refine ⟨?_, ?_⟩ <;> simp <;> omega) | (simp; omega)); conv => whnf)
              | ((with_reducible refine Need.mk ?_ ?_); (first | omega | rfl | decide | (refine ⟨?_, ?_⟩ <;> simp <;> omega) | (simp; omega)); conv => whnf)
              | ((with_reducible refine Wr.quo ?_ ?_ ?_ ?_); omega; omega; omega; conv => whnf)
              | ((with_reducible refine Wr.inr ?_ ?_); (first | omega | (simp; omega)); conv => whnf)
              | ((with_reducible refine Wr.inu ?_ ?_); omega; conv => whnf)
              | ((with_reducible refine AltK.l ?_); (conv => whnf); (first | (refine CallK.mk _ (h5) ?_) | (refine CallK.mk _ (h7) ?_) | (refine CallK.mk _ (h8) ?_)); conv => whnf)
              | (exfalso; first | omega | contradiction))
            all_goals
              rename_i hz
              split at hz
              all_goals
                first | rw [if_pos (by simp; omega)] at hst | rw [if_neg (by simp; omega)] at hst
                exact Again.au (i + 1) (by omega) (by omega) (by refine ⟨?_, ?_, rfl⟩ <;> (repeat' (first | exact True.intro | exact rfl | refine ⟨?_, ?_⟩ | (intro h; cases h; done) | (intro h; exact h) | exact map_snoc | (refine own_congr ?_; simp; done) | (refine int_congr ?_; (first | omega | (simp; omega))) | (simp; done) | ((first | refine own_congr ?_ | refine int_congr ?_ | skip); simp [hst,iD]; done) | ((first | refine own_congr ?_ | refine int_congr ?_); simp [hst,iD]; omega) | (show @Eq (List Go.Vm.D) _ []; simp [hst,iD]; done) | (simp [D.cells, hst,iD]; done))))
        · conv => whnf
          repeat' (first
            | ((with_reducible refine Split.of_true ?_); conv => whnf)
            | ((with_reducible refine Split.of_false ?_); conv => whnf)
            | ((with_reducible refine Split.neg ?_))
            | ((with_reducible refine Split.is_true ?_ ?_); decide; conv => whnf)
            | ((with_reducible refine Split.is_false ?_ ?_); decide; conv => whnf)
            | ((with_reducible refine Split.nez (fun _ => ?_) (fun _ => ?_)) <;> conv => whnf)
            | ((with_reducible refine Split.eqz (fun _ => ?_) (fun _ => ?_)) <;> conv => whnf)
            | ((with_reducible refine Split.and ?_))
            | ((with_reducible refine Split.or ?_))
            | ((with_reducible refine Split.streq (fun _ => ?_) (fun _ => ?_)) <;> conv => whnf)
            | ((with_reducible refine Split.dec (fun _ => ?_) (fun _ => ?_)) <;> conv => whnf)
            | ((with_reducible refine Split.mk (fun _ => ?_) (fun _ => ?_)) <;> conv => whnf)
            | ((with_reducible refine NilK.mk (fun _ => ?_) ?_) <;> conv => whnf)
            | ((with_reducible refine AltK.l ?_); (conv => whnf); (with_reducible refine Need.mk ?_ ?_); (first | omega | (refine ⟨?_, ?_⟩ <;> simp <;> omega) | (simp; omega)); conv => whnf)
            | ((with_reducible refine Need.mk ?_ ?_); (first | omega | rfl | decide | (refine ⟨?_, ?_⟩ <;> simp <;> omega) | (simp; omega)); conv => whnf)
            | ((with_reducible refine Wr.quo ?_ ?_ ?_ ?_); omega; omega; omega; conv => whnf)
            | ((with_reducible refine Wr.inr ?_ ?_); (first | omega | (simp; omega)); conv => whnf)
            | ((with_reducible refine Wr.inu ?_ ?_); omega; conv => whnf)
            | (exfalso; first | omega | contradiction))
          rw [List.take_of_length_le (show l.length ≤ i by omega)]
          rfl
      · have e0 : spkS l c lim l = [] := by
          rw [spkS]
          have : l.filter (spkP l c lim) = [] := by
            rw [List.filter_eq_nil_iff]
            intro s hs
            have := spkN_len hu hs
            rw [spkP, decide_eq_false (by omega), Bool.false_and]; decide
          rw [this]; rfl
        rw [e0]
        refine ev_of_awp tysOk mixed (fn := Tryz.f43) Tryz.func43 rfl rfl rfl ?_
        conv => whnf
        repeat' (first
          | ((with_reducible refine Split.of_true ?_); conv => whnf)
          | ((with_reducible refine Split.of_false ?_); conv => whnf)
          | ((with_reducible refine Split.neg ?_))
          | ((with_reducible refine Split.is_true ?_ ?_); decide; conv => whnf)
          | ((with_reducible refine Split.is_false ?_ ?_); decide; conv => whnf)
          | ((with_reducible refine Split.nez (fun _ => ?_) (fun _ => ?_)) <;> conv => whnf)
          | ((with_reducible refine Split.eqz (fun _ => ?_) (fun _ => ?_)) <;> conv => whnf)
          | ((with_reducible refine Split.and ?_))
          | ((with_reducible refine Split.or ?_))
          | ((with_reducible refine Split.streq (fun _ => ?_) (fun _ => ?_)) <;> conv => whnf)
          | ((with_reducible refine Split.dec (fun _ => ?_) (fun _ => ?_)) <;> conv => whnf)
          | ((with_reducible refine Split.mk (fun _ => ?_) (fun _ => ?_)) <;> conv => whnf)
          | ((with_reducible refine NilK.mk (fun _ => ?_) ?_) <;> conv => whnf)
          | ((with_reducible refine AltK.l ?_); (conv => whnf); (with_reducible refine Need.mk ?_ ?_); (first | omega | (refine ⟨?_, ?_⟩ <;> simp <;> omega) | (simp; omega)); conv => whnf)
          | ((with_reducible refine Need.mk ?_ ?_); (first | omega | rfl | decide | (refine ⟨?_, ?_⟩ <;> simp <;> omega) | (simp; omega)); conv => whnf)
          | ((with_reducible refine Wr.quo ?_ ?_ ?_ ?_); omega; omega; omega; conv => whnf)
          | ((with_reducible refine Wr.inr ?_ ?_); (first | omega | (simp; omega)); conv => whnf)
          | ((with_reducible refine Wr.inu ?_ ?_); omega; conv => whnf)
          | ((with_reducible refine AltK.l ?_); (conv => whnf); (first | (refine CallK.mk _ (h1) ?_) | (refine CallK.mk _ (h2) ?_) | (refine CallK.mk _ (h3) ?_)); conv => whnf)
          | (exfalso; first | omega | contradiction))
        refine LoopK.unr 1 ?_
        conv => whnf
        repeat' (first
          | ((with_reducible refine Split.of_true ?_); conv => whnf)
          | ((with_reducible refine Split.of_false ?_); conv => whnf)
          | ((with_reducible refine Split.neg ?_))
          | ((with_reducible refine Split.is_true ?_ ?_); decide; conv => whnf)
          | ((with_reducible refine Split.is_false ?_ ?_); decide; conv => whnf)
          | ((with_reducible refine Split.nez (fun _ => ?_) (fun _ => ?_)) <;> conv => whnf)
          | ((with_reducible refine Split.eqz (fun _ => ?_) (fun _ => ?_)) <;> conv => whnf)
          | ((with_reducible refine Split.and ?_))
          | ((with_reducible refine Split.or ?_))
          | ((with_reducible refine Split.streq (fun _ => ?_) (fun _ => ?_)) <;> conv => whnf)
          | ((with_reducible refine Split.dec (fun _ => ?_) (fun _ => ?_)) <;> conv => whnf)
          | ((with_reducible refine Split.mk (fun _ => ?_) (fun _ => ?_)) <;> conv => whnf)
          | ((with_reducible refine NilK.mk (fun _ => ?_) ?_) <;> conv => whnf)
          | ((with_reducible refine AltK.l ?_); (conv => whnf); (with_reducible refine Need.mk ?_ ?_); (first | omega | (refine ⟨?_, ?_⟩ <;> simp <;> omega) | (simp; omega)); conv => whnf)
          | ((with_reducible refine Need.mk ?_ ?_); (first | omega | rfl | decide | (refine ⟨?_, ?_⟩ <;> simp <;> omega) | (simp; omega)); conv => whnf)
          | ((with_reducible refine Wr.quo ?_ ?_ ?_ ?_); omega; omega; omega; conv => whnf)
          | ((with_reducible refine Wr.inr ?_ ?_); (first | omega | (simp; omega)); conv => whnf)
          | ((with_reducible refine Wr.inu ?_ ?_); omega; conv => whnf)
          | (exfalso; first | omega | contradiction))
        all_goals rfl
  · rw [if_pos c0]
    refine ev_of_awp tysOk mixed (fn := Tryz.f43) Tryz.func43 rfl rfl rfl ?_
    conv => whnf
    repeat' (first
      | ((with_reducible refine Split.of_true ?_); conv => whnf)
      | ((with_reducible refine Split.of_false ?_); conv => whnf)
      | ((with_reducible refine Split.neg ?_))
      | ((with_reducible refine Split.is_true ?_ ?_); decide; conv => whnf)
      | ((with_reducible refine Split.is_false ?_ ?_); decide; conv => whnf)
      | ((with_reducible refine Split.nez (fun _ => ?_) (fun _ => ?_)) <;> conv => whnf)
      | ((with_reducible refine Split.eqz (fun _ => ?_) (fun _ => ?_)) <;> conv => whnf)
      | ((with_reducible refine Split.and ?_))
      | ((with_reducible refine Split.or ?_))
      | ((with_reducible refine Split.streq (fun _ => ?_) (fun _ => ?_)) <;> conv => whnf)
      | ((with_reducible refine Split.dec (fun _ => ?_) (fun _ => ?_)) <;> conv => whnf)
      | ((with_reducible refine Split.mk (fun _ => ?_) (fun _ => ?_)) <;> conv => whnf)
      | ((with_reducible refine NilK.mk (fun _ => ?_) ?_) <;> conv => whnf)
      | ((with_reducible refine AltK.l ?_); (conv => whnf); (with_reducible refine Need.mk ?_ ?_); (first | omega | (refine ⟨?_, ?_⟩ <;> simp <;> omega) | (simp; omega)); conv => whnf)
      | ((with_reducible refine Need.mk ?_ ?_); (first | omega | rfl | decide | (refine ⟨?_, ?_⟩ <;> simp <;> omega) | (simp; omega)); conv => whnf)
      | ((with_reducible refine Wr.quo ?_ ?_ ?_ ?_); omega; omega; omega; conv => whnf)
      | ((with_reducible refine Wr.inr ?_ ?_); (first | omega | (simp; omega)); conv => whnf)
      | ((with_reducible refine Wr.inu ?_ ?_); omega; conv => whnf)
      | ((with_reducible refine AltK.l ?_); (conv => whnf); (first | (refine CallK.mk _ (h1) ?_)); conv => whnf)
      | (exfalso; first | omega | contradiction))
    all_goals simp_all [retOf, isE, iD]
end Go.Proofs.Tryz
end

section
namespace Go.Proofs.Tryz
open Go Go.Vm Go.Sort
set_option maxRecDepth 20000
set_option maxHeartbeats 4000000
theorem spkP_mono {l : List Sg} {c lim : Int} {s : Sg} (h : spkP l c (lim + 1) s = true) : spkP l c lim s = true := by
  simp only [spkP, farB, Bool.and_eq_true, Bool.or_eq_true, decide_eq_true_eq] at *
  omega
theorem filt_filt {l : List Sg} {c lim : Int} : l.filter (spkP l c (lim + 1)) = (l.filter (spkP l c lim)).filter (spkP l c (lim + 1)) := by
  rw [List.filter_filter]
  refine List.filter_congr fun s _ => ?_
  cases h : spkP l c (lim + 1) s with
  | false => rfl
  | true => rw [spkP_mono h]; rfl
theorem take_drop_filter {A : List Sg} {p : Sg → Bool} {i : Nat} {s : Sg} (h : A[i]? = some s) : A.filter p = (A.take i).filter p ++ ((if p s = true then [s] else []) ++ (A.drop (i + 1)).filter p) := by
  conv => lhs; rw [← List.take_append_drop i A, List.filter_append, drop_of h, List.filter_cons]
  split <;> rfl
theorem walk_at {A : List Sg} {p : Sg → Bool} (hu : NoTwo A) {i : Nat} {s : Sg} (h : A[i]? = some s) :
    (p s = true → (A.filter p)[((A.take i).filter p).length]? = some s) ∧ (p s = false → ∀ t, (A.filter p)[((A.take i).filter p).length]? = some t → t.n ≠ s.n) := by
  rw [take_drop_filter (p := p) h]
  constructor
  · intro hp
    rw [if_pos hp, List.getElem?_append_right (Nat.le_refl _), Nat.sub_self]; rfl
  · intro hp t ht
    rw [if_neg (by simp [hp]), List.nil_append, List.getElem?_append_right (Nat.le_refl _), Nat.sub_self] at ht
    have h1 := List.mem_of_getElem? ht
    have h2 := (List.mem_filter.1 h1).1
    have h3 : NoTwo (A.take i ++ s :: A.drop (i + 1)) := by rw [← drop_of h, List.take_append_drop]; exact hu
    have := (List.pairwise_cons.1 (List.pairwise_append.1 h3).2.1).1 t h2
    exact fun e => this e.symm
theorem filt_snoc {A : List Sg} {p : Sg → Bool} {i : Nat} {s : Sg} (h : A[i]? = some s) : ((A.take (i + 1)).filter p).length = ((A.take i).filter p).length + if p s = true then 1 else 0 := by
  rw [take_snoc h, List.filter_append, List.length_append]
  split <;> simp_all
theorem spikeRes_len (l : List Sg) (c lim : Int) : (spikeRes l c lim).1.length ≤ 500 := by
  unfold spikeRes
  split
  · simp
  · rename_i h
    split
    · simp
    · have := (chk_zero (show chkErr sgB Sg.n l = 0 by simpa using h)).1
      have := spk_len l c lim l
      dsimp only
      omega
theorem spikeRes_ok {l : List Sg} {c lim : Int} (c0 : chkErr sgB Sg.n l = 0) (hb : (outsideB c 1 25 || outsideB lim 0 200000) = false) : spikeRes l c lim = (spkS l c lim l, 0) := by
  rw [spikeRes, if_neg (by simpa using c0), hb, if_neg (by decide)]
theorem spikeRes_in {l : List Sg} {c lim : Int} (h : (spikeRes l c lim).2 = 0) : chkErr sgB Sg.n l = 0 ∧ (outsideB c 1 25 || outsideB lim 0 200000) = false := by
  unfold spikeRes at h
  split at h
  · contradiction
  · rename_i h1
    refine ⟨by simpa using h1, ?_⟩
    split at h
    · cases h
    · rename_i h2; rw [Bool.not_eq_true] at h2; exact h2
theorem spikeRes_zero {l : List Sg} {c lim : Int} (h : (spikeRes l c lim).2 = 0) (hl : lim ≠ 200000) : NoTwo l ∧ l.length ≤ 500 ∧ (0 ≤ lim ∧ lim ≤ 200000) ∧ (spikeRes l c lim).1 = spkS l c lim l ∧ spikeRes l c (lim + 1) = (spkS l c (lim + 1) l, 0) := by
  obtain ⟨c0, hb⟩ := spikeRes_in h
  have hb1 := hb
  rw [Bool.or_eq_false_iff, out_not, out_not] at hb1
  have hb2 : (outsideB c 1 25 || outsideB (lim + 1) 0 200000) = false := by
    rw [Bool.or_eq_false_iff, out_not, out_not]; omega
  rw [spikeRes_ok c0 hb, spikeRes_ok c0 hb2]
  exact ⟨(chk_zero c0).2.2, (chk_zero c0).1, by omega, rfl, rfl⟩
theorem ev_SoundingSpikes (l : List Sg) (c lim : Int) : Ev Tryz.prog 9 [.sl 5 (l.map sgD), .agg [iD c, iD lim]] (.bool true) := by
  have h0 := ev_long l
  have h7 := ev_awake3
  generalize longB l.length = b at *
  cases b with
  | true =>
    refine ev_of_awp tysOk mixed (fn := Tryz.f9) Tryz.func9 rfl rfl rfl ?_
    conv => whnf
    repeat' (first
      | ((with_reducible refine Split.of_true ?_); conv => whnf)
      | ((with_reducible refine Split.of_false ?_); conv => whnf)
      | ((with_reducible refine Split.neg ?_))
      | ((with_reducible refine Split.is_true ?_ ?_); decide; conv => whnf)
      | ((with_reducible refine Split.is_false ?_ ?_); decide; conv => whnf)
      | ((with_reducible refine Split.nez (fun _ => ?_) (fun _ => ?_)) <;> conv => whnf)
      | ((with_reducible refine Split.eqz (fun _ => ?_) (fun _ => ?_)) <;> conv => whnf)
      | ((with_reducible refine Split.and ?_))
      | ((with_reducible refine Split.or ?_))
      | ((with_reducible refine Split.streq (fun _ => ?_) (fun _ => ?_)) <;> conv => whnf)
      | ((with_reducible refine Split.dec (fun _ => ?_) (fun _ => ?_)) <;> conv => whnf)
      | ((with_reducible refine Split.mk (fun _ => ?_) (fun _ => ?_)) <;> conv => whnf)
      | ((with_reducible refine NilK.mk (fun _ => ?_) ?_) <;> conv => whnf)
      | ((with_reducible refine AltK.l ?_); (conv => whnf); (with_reducible refine Need.mk ?_ ?_); (first | omega | (refine ⟨?_, ?_⟩ <;> simp <;> omega) | (simp; omega)); conv => whnf)
      | ((with_reducible refine Need.mk ?_ ?_); (first | omega | rfl | decide | (refine ⟨?_, ?_⟩ <;> simp <;> omega) | (simp; omega)); conv => whnf)
      | ((with_reducible refine Wr.quo ?_ ?_ ?_ ?_); omega; omega; omega; conv => whnf)
      | ((with_reducible refine Wr.inr ?_ ?_); (first | omega | (simp; omega)); conv => whnf)
      | ((with_reducible refine Wr.inu ?_ ?_); omega; conv => whnf)
      | ((with_reducible refine AltK.l ?_); (conv => whnf); (first | (refine CallK.mk _ (h0) ?_) | (refine CallK.mk _ (h7) ?_)); conv => whnf)
      | (exfalso; first | omega | contradiction))
    rfl
  | false =>
    have h1 := ev_Spikes l c lim
    have h2 := ev_SpikesR l c lim
    have h3 := ev_Spikes l c (lim + 1)
    have n1 := spikeRes_len l c lim
    have h5 := ev_Ints (spikeRes l c lim).1 (spikeRes l c lim).1 (by omega)
    rw [decide_eq_true rfl] at h5
    by_cases hz : (spikeRes l c lim).2 = 0 ∧ lim ≠ 200000
    · obtain ⟨hu, hl5, hl6, e1, e2⟩ := spikeRes_zero hz.1 hz.2
      have hz1 := hz.1
      have hz2 := hz.2
      rw [e2] at h3
      replace h3 : Ev Tryz.prog 42 [.sl 5 (l.map sgD), .agg [iD c, iD (lim + 1)]] (.tup [.sl 1 ((spkS l c (lim + 1) l).map iD), iD 0]) := h3
      have e3 : spkS l c (lim + 1) l = ((l.filter (spkP l c lim)).filter (spkP l c (lim + 1))).map Sg.n := by rw [spkS, filt_filt]
      have e4 : spkS l c lim l = (l.filter (spkP l c lim)).map Sg.n := rfl
      generalize spikeRes l c lim = q at *
      obtain ⟨q1, q2⟩ := q
      dsimp only at e1 n1 h5 hz1
      subst e1 hz1
      replace h1 : Ev Tryz.prog 42 [.sl 5 (l.map sgD), .agg [iD c, iD lim]] (.tup [.sl 1 ((spkS l c lim l).map iD), iD 0]) := h1
      replace h2 : Ev Tryz.prog 43 [.sl 5 (l.map sgD), .agg [iD c, iD lim]] (.tup [.sl 1 ((spkS l c lim l).map iD), iD 0]) := h2
      rw [e4] at h1 h2 h5 n1
      rw [e3] at h3
      clear e2 e3 e4 hz
      have huA : NoTwo (l.filter (spkP l c lim)) := hu.filter _
      generalize spkP l c (lim + 1) = p at *
      generalize l.filter (spkP l c lim) = A at *
      have m1 : ((A.map Sg.n).map iD).length = A.length := by rw [List.length_map, List.length_map]
      have m2 : (((A.filter p).map Sg.n).map iD).length = (A.filter p).length := by rw [List.length_map, List.length_map]
      rw [List.length_map] at n1
      refine ev_of_awp tysOk mixed (fn := Tryz.f9) Tryz.func9 rfl rfl rfl ?_
      conv => whnf
      repeat' (first
        | ((with_reducible refine Split.of_true ?_); conv => whnf)
        | ((with_reducible refine Split.of_false ?_); conv => whnf)
        | ((with_reducible refine Split.neg ?_))
        | ((with_reducible refine Split.is_true ?_ ?_); decide; conv => whnf)
        | ((with_reducible refine Split.is_false ?_ ?_); decide; conv => whnf)
        | ((with_reducible refine Split.nez (fun _ => ?_) (fun _ => ?_)) <;> conv => whnf)
        | ((with_reducible refine Split.eqz (fun _ => ?_) (fun _ => ?_)) <;> conv => whnf)
        | ((with_reducible refine Split.and ?_))
        | ((with_reducible refine Split.or ?_))
        | ((with_reducible refine Split.streq (fun _ => ?_) (fun _ => ?_)) <;> conv => whnf)
        | ((with_reducible refine Split.dec (fun _ => ?_) (fun _ => ?_)) <;> conv => whnf)
        | ((with_reducible refine Split.mk (fun _ => ?_) (fun _ => ?_)) <;> conv => whnf)
        | ((with_reducible refine NilK.mk (fun _ => ?_) ?_) <;> conv => whnf)
        | ((with_reducible refine AltK.l ?_); (conv => whnf); (with_reducible refine Need.mk ?_ ?_); (first | omega | (refine ⟨?_, ?_⟩ <;> simp <;> omega) | (simp; omega)); conv => whnf)
        | ((with_reducible refine Need.mk ?_ ?_); (first | omega | rfl | decide | (refine ⟨?_, ?_⟩ <;> simp <;> omega) | (simp; omega)); conv => whnf)
        | ((with_reducible refine Wr.quo ?_ ?_ ?_ ?_); omega; omega; omega; conv => whnf)
        | ((with_reducible refine Wr.inr ?_ ?_); (first | omega | (simp; omega)); conv => whnf)
        | ((with_reducible refine Wr.inu ?_ ?_); omega; conv => whnf)
        | ((with_reducible refine AltK.l ?_); (conv => whnf); (first | (refine CallK.mk _ (h0) ?_) | (refine CallK.mk _ (h7) ?_) | (refine CallK.mk _ (h1) ?_) | (refine CallK.mk _ (h2) ?_) | (refine CallK.mk _ (h3) ?_) | (refine CallK.mk _ (h5) ?_)); conv => whnf)
        | (exfalso; first | omega | contradiction))
      refine LoopK.o2 (fun i : Nat => i ≤ A.length) (fun i => [(12, .d (.int .i64 i)), (11, .d (.int .i64 ((A.take i).filter p).length))]) (fun _ => []) (fun i => A.length - i) 0 (by simp) (by refine ⟨?_, ?_, rfl⟩ <;> (repeat' (first | exact True.intro | exact rfl | refine ⟨?_, ?_⟩ | (intro h; cases h; done) | (intro h; exact h) | exact map_snoc | (refine own_congr ?_; simp; done) | (refine int_congr ?_; (first | omega | (simp; omega))) | (simp; done)))) ?_
      rintro i hi
      have hnx : (i : Int) < A.length → ∃ m, A[i]? = some m := fun h => some_of_lt (by omega)
      have hle := List.length_filter_le p (A.take i)
      rw [List.length_take] at hle
      by_cases hia : i < A.length
      · obtain ⟨s, hs⟩ := hnx (by omega)
        have hst := filt_snoc (p := p) hs
        obtain ⟨w1, w2⟩ := walk_at (p := p) huA hs
        have hsn : (A.map Sg.n)[i]? = some s.n := by rw [List.getElem?_map, hs]; rfl
        by_cases hc : ((A.take i).filter p).length < (A.filter p).length
        · obtain ⟨t, ht⟩ := some_of_lt hc
          have htn : ((A.filter p).map Sg.n)[((A.take i).filter p).length]? = some t.n := by rw [List.getElem?_map, ht]; rfl
          cases hp : p s with
          | true =>
            have : t = s := by have := w1 hp; rw [ht] at this; exact Option.some.inj this
            subst this
            rw [if_pos hp] at hst
            conv => whnf
            repeat' (first
              | ((refine PickE.map ((A.take i).filter p).length htn (by omega) ?_); conv => whnf)
              | ((refine PickE.map i hsn (by omega) ?_); conv => whnf)
              | ((with_reducible refine Split.of_true ?_); conv => whnf)
              | ((with_reducible refine Split.of_false ?_); conv => whnf)
              | ((with_reducible refine Split.neg ?_))
              | ((with_reducible refine Split.is_true ?_ ?_); decide; conv => whnf)
              | ((with_reducible refine Split.is_false ?_ ?_); decide; conv => whnf)
              | ((with_reducible refine Split.nez (fun _ => ?_) (fun _ => ?_)) <;> conv => whnf)
              | ((with_reducible refine Split.eqz (fun _ => ?_) (fun _ => ?_)) <;> conv => whnf)
              | ((with_reducible refine Split.and ?_))
              | ((with_reducible refine Split.or ?_))
              | ((with_reducible refine Split.streq (fun _ => ?_) (fun _ => ?_)) <;> conv => whnf)
              | ((with_reducible refine Split.dec (fun _ => ?_) (fun _ => ?_)) <;> conv => whnf)
              | ((with_reducible refine Split.mk (fun _ => ?_) (fun _ => ?_)) <;> conv => whnf)
              | ((with_reducible refine NilK.mk (fun _ => ?_) ?_) <;> conv => whnf)
              | ((with_reducible refine AltK.l ?_); (conv => whnf); (with_reducible refine Need.mk ?_ ?_); (first | omega | (refine ⟨?_, ?_⟩ <;> simp <;> omega) | (simp; omega)); conv => whnf)
              | ((with_reducible refine Need.mk ?_ ?_); (first | omega | rfl | decide | (refine ⟨?_, ?_⟩ <;> simp <;> omega) | (simp; omega)); conv => whnf)
              | ((with_reducible refine Wr.quo ?_ ?_ ?_ ?_); omega; omega; omega; conv => whnf)
              | ((with_reducible refine Wr.inr ?_ ?_); (first | omega | (simp; omega)); conv => whnf)
              | ((with_reducible refine Wr.inu ?_ ?_); omega; conv => whnf)
              | (exfalso; first | omega | contradiction))
            exact Again.au (i + 1) (by omega) (by omega) (by refine ⟨?_, ?_, rfl⟩ <;> (repeat' (first | exact True.intro | exact rfl | refine ⟨?_, ?_⟩ | (intro h; cases h; done) | (intro h; exact h) | exact map_snoc | (refine own_congr ?_; simp; done) | (refine int_congr ?_; (first | omega | (simp; omega))) | (simp; done) | ((first | refine own_congr ?_ | refine int_congr ?_ | skip); simp [hst]; done) | ((first | refine own_congr ?_ | refine int_congr ?_); simp [hst]; omega) | (show @Eq (List Go.Vm.D) _ []; simp [hst]; done) | (simp [D.cells, hst]; done))))
          | false =>
            have hne := w2 hp t ht
            rw [if_neg (by rw [hp]; decide)] at hst
            conv => whnf
            repeat' (first
              | ((refine PickE.map ((A.take i).filter p).length htn (by omega) ?_); conv => whnf)
              | ((refine PickE.map i hsn (by omega) ?_); conv => whnf)
              | ((with_reducible refine Split.of_true ?_); conv => whnf)
              | ((with_reducible refine Split.of_false ?_); conv => whnf)
              | ((with_reducible refine Split.neg ?_))
              | ((with_reducible refine Split.is_true ?_ ?_); decide; conv => whnf)
              | ((with_reducible refine Split.is_false ?_ ?_); decide; conv => whnf)
              | ((with_reducible refine Split.nez (fun _ => ?_) (fun _ => ?_)) <;> conv => whnf)
              | ((with_reducible refine Split.eqz (fun _ => ?_) (fun _ => ?_)) <;> conv => whnf)
              | ((with_reducible refine Split.and ?_))
              | ((with_reducible refine Split.or ?_))
              | ((with_reducible refine Split.streq (fun _ => ?_) (fun _ => ?_)) <;> conv => whnf)
              | ((with_reducible refine Split.dec (fun _ => ?_) (fun _ => ?_)) <;> conv => whnf)
              | ((with_reducible refine Split.mk (fun _ => ?_) (fun _ => ?_)) <;> conv => whnf)
              | ((with_reducible refine NilK.mk (fun _ => ?_) ?_) <;> conv => whnf)
              | ((with_reducible refine AltK.l ?_); (conv => whnf); (with_reducible refine Need.mk ?_ ?_); (first | omega | (refine ⟨?_, ?_⟩ <;> simp <;> omega) | (simp; omega)); conv => whnf)
              | ((with_reducible refine Need.mk ?_ ?_); (first | omega | rfl | decide | (refine ⟨?_, ?_⟩ <;> simp <;> omega) | (simp; omega)); conv => whnf)
              | ((with_reducible refine Wr.quo ?_ ?_ ?_ ?_); omega; omega; omega; conv => whnf)
              | ((with_reducible refine Wr.inr ?_ ?_); (first | omega | (simp; omega)); conv => whnf)
              | ((with_reducible refine Wr.inu ?_ ?_); omega; conv => whnf)
              | (exfalso; first | omega | contradiction))
            exact Again.au (i + 1) (by omega) (by omega) (by refine ⟨?_, ?_, rfl⟩ <;> (repeat' (first | exact True.intro | exact rfl | refine ⟨?_, ?_⟩ | (intro h; cases h; done) | (intro h; exact h) | exact map_snoc | (refine own_congr ?_; simp; done) | (refine int_congr ?_; (first | omega | (simp; omega))) | (simp; done) | ((first | refine own_congr ?_ | refine int_congr ?_ | skip); simp [hst]; done) | ((first | refine own_congr ?_ | refine int_congr ?_); simp [hst]; omega) | (show @Eq (List Go.Vm.D) _ []; simp [hst]; done) | (simp [D.cells, hst]; done))))
        · have hp : p s = false := by
            cases hp : p s with
            | false => rfl
            | true => have := (List.getElem?_eq_some_iff.1 (w1 hp)).1; omega
          rw [if_neg (by rw [hp]; decide)] at hst
          conv => whnf
          repeat' (first
            | ((refine PickE.map i hsn (by omega) ?_); conv => whnf)
            | ((with_reducible refine Split.of_true ?_); conv => whnf)
            | ((with_reducible refine Split.of_false ?_); conv => whnf)
            | ((with_reducible refine Split.neg ?_))
            | ((with_reducible refine Split.is_true ?_ ?_); decide; conv => whnf)
            | ((with_reducible refine Split.is_false ?_ ?_); decide; conv => whnf)
            | ((with_reducible refine Split.nez (fun _ => ?_) (fun _ => ?_)) <;> conv => whnf)
            | ((with_reducible refine Split.eqz (fun _ => ?_) (fun _ => ?_)) <;> conv => whnf)
            | ((with_reducible refine Split.and ?_))
            | ((with_reducible refine Split.or ?_))
            | ((with_reducible refine Split.streq (fun _ => ?_) (fun _ => ?_)) <;> conv => whnf)
            | ((with_reducible refine Split.dec (fun _ => ?_) (fun _ => ?_)) <;> conv => whnf)
            | ((with_reducible refine Split.mk (fun _ => ?_) (fun _ => ?_)) <;> conv => whnf)
            | ((with_reducible refine NilK.mk (fun _ => ?_) ?_) <;> conv => whnf)
            | ((with_reducible refine AltK.l ?_); (conv => whnf); (with_reducible refine Need.mk ?_ ?_); (first | omega | (refine ⟨?_, ?_⟩ <;> simp <;> omega) | (simp; omega)); conv => whnf)
            | ((with_reducible refine Need.mk ?_ ?_); (first | omega | rfl | decide | (refine ⟨?_, ?_⟩ <;> simp <;> omega) | (simp; omega)); conv => whnf)
            | ((with_reducible refine Wr.quo ?_ ?_ ?_ ?_); omega; omega; omega; conv => whnf)
            | ((with_reducible refine Wr.inr ?_ ?_); (first | omega | (simp; omega)); conv => whnf)
            | ((with_reducible refine Wr.inu ?_ ?_); omega; conv => whnf)
            | (exfalso; first | omega | contradiction))
          exact Again.au (i + 1) (by omega) (by omega) (by refine ⟨?_, ?_, rfl⟩ <;> (repeat' (first | exact True.intro | exact rfl | refine ⟨?_, ?_⟩ | (intro h; cases h; done) | (intro h; exact h) | exact map_snoc | (refine own_congr ?_; simp; done) | (refine int_congr ?_; (first | omega | (simp; omega))) | (simp; done) | ((first | refine own_congr ?_ | refine int_congr ?_ | skip); simp [hst]; done) | ((first | refine own_congr ?_ | refine int_congr ?_); simp [hst]; omega) | (show @Eq (List Go.Vm.D) _ []; simp [hst]; done) | (simp [D.cells, hst]; done))))
      · have e5 : A.take i = A := List.take_of_length_le (by omega)
        rw [e5]
        conv => whnf
        repeat' (first
          | ((with_reducible refine Split.of_true ?_); conv => whnf)
          | ((with_reducible refine Split.of_false ?_); conv => whnf)
          | ((with_reducible refine Split.neg ?_))
          | ((with_reducible refine Split.is_true ?_ ?_); decide; conv => whnf)
          | ((with_reducible refine Split.is_false ?_ ?_); decide; conv => whnf)
          | ((with_reducible refine Split.nez (fun _ => ?_) (fun _ => ?_)) <;> conv => whnf)
          | ((with_reducible refine Split.eqz (fun _ => ?_) (fun _ => ?_)) <;> conv => whnf)
          | ((with_reducible refine Split.and ?_))
          | ((with_reducible refine Split.or ?_))
          | ((with_reducible refine Split.streq (fun _ => ?_) (fun _ => ?_)) <;> conv => whnf)
          | ((with_reducible refine Split.dec (fun _ => ?_) (fun _ => ?_)) <;> conv => whnf)
          | ((with_reducible refine Split.mk (fun _ => ?_) (fun _ => ?_)) <;> conv => whnf)
          | ((with_reducible refine NilK.mk (fun _ => ?_) ?_) <;> conv => whnf)
          | ((with_reducible refine AltK.l ?_); (conv => whnf); (with_reducible refine Need.mk ?_ ?_); (first | omega | (refine ⟨?_, ?_⟩ <;> simp <;> omega) | (simp; omega)); conv => whnf)
          | ((with_reducible refine Need.mk ?_ ?_); (first | omega | rfl | decide | (refine ⟨?_, ?_⟩ <;> simp <;> omega) | (simp; omega)); conv => whnf)
          | ((with_reducible refine Wr.quo ?_ ?_ ?_ ?_); omega; omega; omega; conv => whnf)
          | ((with_reducible refine Wr.inr ?_ ?_); (first | omega | (simp; omega)); conv => whnf)
          | ((with_reducible refine Wr.inu ?_ ?_); omega; conv => whnf)
          | ((with_reducible refine AltK.l ?_); (conv => whnf); (first | (refine CallK.mk _ (h7) ?_)); conv => whnf)
          | (exfalso; first | omega | contradiction))
        rfl
    · generalize spikeRes l c lim = q at *
      obtain ⟨q1, q2⟩ := q
      dsimp only at hz n1 h5
      replace h1 : Ev Tryz.prog 42 [.sl 5 (l.map sgD), .agg [iD c, iD lim]] (.tup [.sl 1 (q1.map iD), iD q2]) := h1
      replace h2 : Ev Tryz.prog 43 [.sl 5 (l.map sgD), .agg [iD c, iD lim]] (.tup [.sl 1 (q1.map iD), iD q2]) := h2
      refine ev_of_awp tysOk mixed (fn := Tryz.f9) Tryz.func9 rfl rfl rfl ?_
      conv => whnf
      repeat' (first
        | ((with_reducible refine Split.of_true ?_); conv => whnf)
        | ((with_reducible refine Split.of_false ?_); conv => whnf)
        | ((with_reducible refine Split.neg ?_))
        | ((with_reducible refine Split.is_true ?_ ?_); decide; conv => whnf)
        | ((with_reducible refine Split.is_false ?_ ?_); decide; conv => whnf)
        | ((with_reducible refine Split.nez (fun _ => ?_) (fun _ => ?_)) <;> conv => whnf)
        | ((with_reducible refine Split.eqz (fun _ => ?_) (fun _ => ?_)) <;> conv => whnf)
        | ((with_reducible refine Split.and ?_))
        | ((with_reducible refine Split.or ?_))
        | ((with_reducible refine Split.streq (fun _ => ?_) (fun _ => ?_)) <;> conv => whnf)
        | ((with_reducible refine Split.dec (fun _ => ?_) (fun _ => ?_)) <;> conv => whnf)
        | ((with_reducible refine Split.mk (fun _ => ?_) (fun _ => ?_)) <;> conv => whnf)
        | ((with_reducible refine NilK.mk (fun _ => ?_) ?_) <;> conv => whnf)
        | ((with_reducible refine AltK.l ?_); (conv => whnf); (with_reducible refine Need.mk ?_ ?_); (first | omega | (refine ⟨?_, ?_⟩ <;> simp <;> omega) | (simp; omega)); conv => whnf)
        | ((with_reducible refine Need.mk ?_ ?_); (first | omega | rfl | decide | (refine ⟨?_, ?_⟩ <;> simp <;> omega) | (simp; omega)); conv => whnf)
        | ((with_reducible refine Wr.quo ?_ ?_ ?_ ?_); omega; omega; omega; conv => whnf)
        | ((with_reducible refine Wr.inr ?_ ?_); (first | omega | (simp; omega)); conv => whnf)
        | ((with_reducible refine Wr.inu ?_ ?_); omega; conv => whnf)
        | ((with_reducible refine AltK.l ?_); (conv => whnf); (first | (refine CallK.mk _ (h0) ?_) | (refine CallK.mk _ (h7) ?_) | (refine CallK.mk _ (h1) ?_) | (refine CallK.mk _ (h2) ?_) | (refine CallK.mk _ (h5) ?_)); conv => whnf)
        | (exfalso; first | omega | contradiction))
      all_goals first | rfl | (exfalso; omega)
end Go.Proofs.Tryz
end
