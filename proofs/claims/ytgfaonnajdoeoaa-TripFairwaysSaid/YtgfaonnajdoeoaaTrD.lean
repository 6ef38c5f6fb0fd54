import Derived.Test.YtgfaonnajdoeoaaTrC
namespace Go.Proofs.Try
open Go Go.Vm
set_option maxRecDepth 20000
set_option maxHeartbeats 2000000
def bs (p : Int → Bool) (lo hi : Int) : Int := if lo < hi then (if p ((lo + hi + 1) / 2) then bs p ((lo + hi + 1) / 2) hi else bs p lo ((lo + hi + 1) / 2 - 1)) else lo
termination_by (hi - lo).toNat
decreasing_by all_goals omega
theorem bs_spec (p : Int → Bool) (last : Int) (lo hi : Int) (h1 : lo ≤ hi) (h2 : p lo = true) (h3 : hi = last ∨ p (hi + 1) = false) :
    lo ≤ bs p lo hi ∧ bs p lo hi ≤ hi ∧ p (bs p lo hi) = true ∧ (bs p lo hi = last ∨ p (bs p lo hi + 1) = false) := by
  rw [bs]
  split
  · split
    · rename_i h4 h5
      have := bs_spec p last ((lo + hi + 1) / 2) hi (by omega) h5 h3
      refine ⟨by omega, this.2.1, this.2.2⟩
    · rename_i h4 h5
      have := bs_spec p last lo ((lo + hi + 1) / 2 - 1) (by omega) h2 (.inr (by
        have e : (lo + hi + 1) / 2 - 1 + 1 = (lo + hi + 1) / 2 := by omega
        rw [e]; simpa using h5))
      refine ⟨this.1, by omega, this.2.2⟩
  · have e : lo = hi := by omega
    subst e
    exact ⟨Int.le_refl _, Int.le_refl _, h2, h3⟩
termination_by (hi - lo).toNat
decreasing_by all_goals omega
theorem ev_greatest (f : Nat) (caps : List D) (p : Int → Bool) (lo hi : Int) (h1 : 0 ≤ lo) (h2 : hi ≤ 1000000000) (hf : ∀ n, lo ≤ n → n ≤ hi → Ev Try.prog f ([iD n] ++ caps) (.bool (p n))) :
    Ev Try.prog 22 [iD lo, iD hi, .fn f caps] (iD (bs p lo hi)) := by
  refine ev_of_awp tysOk mixed (fn := Try.f22) Try.func22 rfl rfl rfl ?_
  conv => whnf
  repeat' (first
    | ((with_reducible refine Split.of_true ?_); conv => whnf)
    | ((with_reducible refine Split.of_false ?_); conv => whnf)
    | ((with_reducible refine Split.neg ?_))
    | ((with_reducible refine Split.is_true ?_ ?_); decide; conv => whnf)
    | ((with_reducible refine Split.is_false ?_ ?_); decide; conv => whnf)
    | ((with_reducible refine Split.nez (fun _ => ?_) (fun _ => ?_)) <;> conv => whnf)
    | ((with_reducible refine Split.eqz (fun _ => ?_) (fun _ => ?_)) <;> conv => whnf)
    | ((with_reducible refine Split.and ?_))
    | ((with_reducible refine Split.or ?_))
    | ((with_reducible refine Split.streq (fun _ => ?_) (fun _ => ?_)) <;> conv => whnf)
    | ((with_reducible refine Split.dec (fun _ => ?_) (fun _ => ?_)) <;> conv => whnf)
    | ((with_reducible refine Split.mk (fun _ => ?_) (fun _ => ?_)) <;> conv => whnf)
    | ((with_reducible refine Need.mk ?_ ?_); (first | omega | rfl | decide | (refine ⟨?_, ?_⟩ <;> simp <;> omega) | (simp; omega)); conv => whnf)
    | ((with_reducible refine Wr.quo ?_ ?_ ?_ ?_); omega; omega; omega; conv => whnf)
    | ((with_reducible refine Wr.inr ?_ ?_); (first | omega | (simp; omega)); conv => whnf)
    | ((with_reducible refine Wr.inu ?_ ?_); omega; conv => whnf)
    | (exfalso; first | omega | contradiction))
  refine LoopK.ov (fun x : Int × Int => lo ≤ x.1 ∧ x.2 ≤ hi ∧ bs p lo hi = bs p x.1 x.2) (fun x => [(0, .d (.int .i64 x.1)), (1, .d (.int .i64 x.2))]) [] (fun _ => [])
      (fun x => (x.2 - x.1).toNat) (lo, hi) ⟨by simp, by simp, rfl⟩ ⟨by (repeat' (first | exact True.intro | exact rfl | refine ⟨?_, ?_⟩ | (intro h; cases h; done) | (intro h; exact h) | exact map_snoc | (refine own_congr ?_; simp; done) | (refine int_congr ?_; (first | omega | (simp; omega))) | (simp; done))), by (repeat' (first | exact True.intro | exact rfl | refine ⟨?_, ?_⟩ | (intro h; cases h; done) | (intro h; exact h) | exact map_snoc | (refine own_congr ?_; simp; done) | (refine int_congr ?_; (first | omega | (simp; omega))) | (simp; done))), rfl⟩ ?_
  rintro ⟨u, v⟩ ⟨h3, h4, h5⟩
  dsimp only at h3 h4 h5 ⊢
  by_cases huv : u < v
  · have hm := hf ((u + v + 1) / 2) (by omega) (by omega)
    rw [bs.eq_1 p u v, if_pos huv] at h5
    conv => whnf
    repeat' (first
      | ((with_reducible refine Split.of_true ?_); conv => whnf)
      | ((with_reducible refine Split.of_false ?_); conv => whnf)
      | ((with_reducible refine Split.neg ?_))
      | ((with_reducible refine Split.is_true ?_ ?_); decide; conv => whnf)
      | ((with_reducible refine Split.is_false ?_ ?_); decide; conv => whnf)
      | ((with_reducible refine Split.nez (fun _ => ?_) (fun _ => ?_)) <;> conv => whnf)
      | ((with_reducible refine Split.eqz (fun _ => ?_) (fun _ => ?_)) <;> conv => whnf)
      | ((with_reducible refine Split.and ?_))
      | ((with_reducible refine Split.or ?_))
      | ((with_reducible refine Split.streq (fun _ => ?_) (fun _ => ?_)) <;> conv => whnf)
      | ((with_reducible refine Split.dec (fun _ => ?_) (fun _ => ?_)) <;> conv => whnf)
      | ((with_reducible refine Split.mk (fun _ => ?_) (fun _ => ?_)) <;> conv => whnf)
      | ((with_reducible refine Need.mk ?_ ?_); (first | omega | rfl | decide | (refine ⟨?_, ?_⟩ <;> simp <;> omega) | (simp; omega)); conv => whnf)
      | ((with_reducible refine Wr.quo ?_ ?_ ?_ ?_); omega; omega; omega; conv => whnf)
      | ((with_reducible refine Wr.inr ?_ ?_); (first | omega | (simp; omega)); conv => whnf)
      | ((with_reducible refine Wr.inu ?_ ?_); omega; conv => whnf)
      | (refine CallK.mk _ (hm) ?_; conv => whnf)
      | (exfalso; first | omega | contradiction))
    · have hp : p ((u + v + 1) / 2) = true := by assumption
      rw [if_pos hp] at h5
      exact Again.au ((u + v + 1) / 2, v) ⟨by simp only; omega, h4, h5⟩ (by simp only; omega) ⟨by (repeat' (first | exact True.intro | exact rfl | refine ⟨?_, ?_⟩ | (intro h; cases h; done) | (intro h; exact h) | exact map_snoc | (refine own_congr ?_; simp; done) | (refine int_congr ?_; (first | omega | (simp; omega))) | (simp; done))), by (repeat' (first | exact True.intro | exact rfl | refine ⟨?_, ?_⟩ | (intro h; cases h; done) | (intro h; exact h) | exact map_snoc | (refine own_congr ?_; simp; done) | (refine int_congr ?_; (first | omega | (simp; omega))) | (simp; done))), rfl⟩
    · have hp : p ((u + v + 1) / 2) = false := by assumption
      rw [if_neg (by simp [hp])] at h5
      exact Again.au (u, (u + v + 1) / 2 - 1) ⟨h3, by simp only; omega, h5⟩ (by simp only; omega) ⟨by (repeat' (first | exact True.intro | exact rfl | refine ⟨?_, ?_⟩ | (intro h; cases h; done) | (intro h; exact h) | exact map_snoc | (refine own_congr ?_; simp; done) | (refine int_congr ?_; (first | omega | (simp; omega))) | (simp; done))), by (repeat' (first | exact True.intro | exact rfl | refine ⟨?_, ?_⟩ | (intro h; cases h; done) | (intro h; exact h) | exact map_snoc | (refine own_congr ?_; simp; done) | (refine int_congr ?_; (first | omega | (simp; omega))) | (simp; done))), rfl⟩
  · rw [bs.eq_1 p u v, if_neg huv] at h5
    conv => whnf
    repeat' (first
      | ((with_reducible refine Split.of_true ?_); conv => whnf)
      | ((with_reducible refine Split.of_false ?_); conv => whnf)
      | ((with_reducible refine Split.neg ?_))
      | ((with_reducible refine Split.is_true ?_ ?_); decide; conv => whnf)
      | ((with_reducible refine Split.is_false ?_ ?_); decide; conv => whnf)
      | ((with_reducible refine Split.nez (fun _ => ?_) (fun _ => ?_)) <;> conv => whnf)
      | ((with_reducible refine Split.eqz (fun _ => ?_) (fun _ => ?_)) <;> conv => whnf)
      | ((with_reducible refine Split.and ?_))
      | ((with_reducible refine Split.or ?_))
      | ((with_reducible refine Split.streq (fun _ => ?_) (fun _ => ?_)) <;> conv => whnf)
      | ((with_reducible refine Split.dec (fun _ => ?_) (fun _ => ?_)) <;> conv => whnf)
      | ((with_reducible refine Split.mk (fun _ => ?_) (fun _ => ?_)) <;> conv => whnf)
      | ((with_reducible refine Need.mk ?_ ?_); (first | omega | rfl | decide | (refine ⟨?_, ?_⟩ <;> simp <;> omega) | (simp; omega)); conv => whnf)
      | ((with_reducible refine Wr.quo ?_ ?_ ?_ ?_); omega; omega; omega; conv => whnf)
      | ((with_reducible refine Wr.inr ?_ ?_); (first | omega | (simp; omega)); conv => whnf)
      | ((with_reducible refine Wr.inu ?_ ?_); omega; conv => whnf)
      | (exfalso; first | omega | contradiction))
    rw [h5]; rfl
theorem ev_MassAt1 (h : Hp) (d n : Int) (hG : LGood h.lines) {z : Ln} (hz : h.lines[h.lines.length - 1]? = some z) (hn : n ≤ z.m) (hn0 : 0 ≤ n) :
    Ev Try.prog 23 [iD n, .ref (hpD h).cells 0, .ref [iD d] 0] (.bool (decide (ladeS h.lines n ≤ d))) := by
  have hd := ev_draughtOf h n hG hz hn hn0
  refine ev_of_awp tysOk mixed (fn := Try.f23) Try.func23 rfl rfl rfl ?_
  conv => whnf
  repeat' (first
    | ((with_reducible refine Split.of_true ?_); conv => whnf)
    | ((with_reducible refine Split.of_false ?_); conv => whnf)
    | ((with_reducible refine Split.neg ?_))
    | ((with_reducible refine Split.is_true ?_ ?_); decide; conv => whnf)
    | ((with_reducible refine Split.is_false ?_ ?_); decide; conv => whnf)
    | ((with_reducible refine Split.nez (fun _ => ?_) (fun _ => ?_)) <;> conv => whnf)
    | ((with_reducible refine Split.eqz (fun _ => ?_) (fun _ => ?_)) <;> conv => whnf)
    | ((with_reducible refine Split.and ?_))
    | ((with_reducible refine Split.or ?_))
    | ((with_reducible refine Split.streq (fun _ => ?_) (fun _ => ?_)) <;> conv => whnf)
    | ((with_reducible refine Split.dec (fun _ => ?_) (fun _ => ?_)) <;> conv => whnf)
    | ((with_reducible refine Split.mk (fun _ => ?_) (fun _ => ?_)) <;> conv => whnf)
    | ((with_reducible refine Need.mk ?_ ?_); (first | omega | rfl | decide | (refine ⟨?_, ?_⟩ <;> simp <;> omega) | (simp; omega)); conv => whnf)
    | ((with_reducible refine Wr.quo ?_ ?_ ?_ ?_); omega; omega; omega; conv => whnf)
    | ((with_reducible refine Wr.inr ?_ ?_); (first | omega | (simp; omega)); conv => whnf)
    | ((with_reducible refine Wr.inu ?_ ?_); omega; conv => whnf)
    | (refine CallK.mk _ (hd) ?_; conv => whnf)
    | (exfalso; first | omega | contradiction))
  rfl
theorem ev_ends (h : Hp) {y z : Ln} (hy : h.lines[0]? = some y) (hz : h.lines[h.lines.length - 1]? = some z) (hl : h.lines.length ≤ 40) (h2 : 2 ≤ h.lines.length) : Ev Try.prog 24 [hpD h] (.tup [iD y.m, iD z.m]) := by
  have hlen : (h.lines.map lnD).length = h.lines.length := List.length_map _
  refine ev_of_awp tysOk mixed (fn := Try.f24) Try.func24 rfl rfl rfl ?_
  conv => whnf
  repeat' (first
    | ((refine PickE.map (h.lines.length - 1) hz (by omega) ?_); conv => whnf)
    | ((refine PickE.map 0 hy (by simp) ?_); conv => whnf)
    | ((with_reducible refine Split.of_true ?_); conv => whnf)
    | ((with_reducible refine Split.of_false ?_); conv => whnf)
    | ((with_reducible refine Split.neg ?_))
    | ((with_reducible refine Split.is_true ?_ ?_); decide; conv => whnf)
    | ((with_reducible refine Split.is_false ?_ ?_); decide; conv => whnf)
    | ((with_reducible refine Split.nez (fun _ => ?_) (fun _ => ?_)) <;> conv => whnf)
    | ((with_reducible refine Split.eqz (fun _ => ?_) (fun _ => ?_)) <;> conv => whnf)
    | ((with_reducible refine Split.and ?_))
    | ((with_reducible refine Split.or ?_))
    | ((with_reducible refine Split.streq (fun _ => ?_) (fun _ => ?_)) <;> conv => whnf)
    | ((with_reducible refine Split.dec (fun _ => ?_) (fun _ => ?_)) <;> conv => whnf)
    | ((with_reducible refine Split.mk (fun _ => ?_) (fun _ => ?_)) <;> conv => whnf)
    | ((with_reducible refine Need.mk ?_ ?_); (first | omega | rfl | decide | (refine ⟨?_, ?_⟩ <;> simp <;> omega) | (simp; omega)); conv => whnf)
    | ((with_reducible refine Wr.quo ?_ ?_ ?_ ?_); omega; omega; omega; conv => whnf)
    | ((with_reducible refine Wr.inr ?_ ?_); (first | omega | (simp; omega)); conv => whnf)
    | ((with_reducible refine Wr.inu ?_ ?_); omega; conv => whnf)
    | (exfalso; first | omega | contradiction))
  rfl
def draE (h : Hp) (t : Int) : Int := if hopErr h ≠ 0 then hopErr h else if outsideB t (h.lines[0]?.elim 0 Ln.m) (h.lines[h.lines.length - 1]?.elim 0 Ln.m) then 2 else 0
def draV (h : Hp) (t : Int) : Int := if draE h t = 0 then ladeS h.lines t else 0
theorem hop_ends {h : Hp} (hG : LGood h.lines) : ∃ y z, h.lines[0]? = some y ∧ h.lines[h.lines.length - 1]? = some z ∧ y.m < z.m := by
  have h2 := hG.two
  obtain ⟨y, hy⟩ := some_of_lt (l := h.lines) (i := 0) (by omega)
  obtain ⟨z, hz⟩ := some_of_lt (l := h.lines) (i := h.lines.length - 1) (by omega)
  refine ⟨y, z, hy, hz, ?_⟩
  have := (List.pairwise_iff_getElem.1 hG.asc 0 (h.lines.length - 1) (by omega) (by omega) (by omega)).1
  rwa [(List.getElem?_eq_some_iff.1 hy).2, (List.getElem?_eq_some_iff.1 hz).2] at this
theorem ev_Draught (h : Hp) (t : Int) : Ev Try.prog 6 [hpD h, iD t] (.tup [iD (draV h t), iD (draE h t)]) := by
  have hlen : (h.lines.map lnD).length = h.lines.length := List.length_map _
  by_cases h0 : hopErr h = 0
  · obtain ⟨hG, -⟩ := hop_good h0
    obtain ⟨y, z, hy, hz, hyz⟩ := hop_ends hG
    have h2 := hG.two
    have hl := hG.len
    have ky := hG.ok y (List.mem_of_getElem? hy)
    have e : draE h t = if outsideB t y.m z.m then 2 else 0 := by rw [draE, if_neg (by simp [h0]), hy, hz]; rfl
    rw [draV, e]
    by_cases ho : outsideB t y.m z.m = true
    · rw [if_pos ho]
      refine ev_of_awp tysOk mixed (fn := Try.f6) Try.func6 rfl rfl rfl ?_
      conv => whnf
      repeat' (first
        | ((refine PickE.map (h.lines.length - 1) hz (by omega) ?_); conv => whnf)
        | ((refine PickE.map 0 hy (by simp) ?_); conv => whnf)
        | ((with_reducible refine Split.of_true ?_); conv => whnf)
        | ((with_reducible refine Split.of_false ?_); conv => whnf)
        | ((with_reducible refine Split.neg ?_))
        | ((with_reducible refine Split.is_true ?_ ?_); decide; conv => whnf)
        | ((with_reducible refine Split.is_false ?_ ?_); decide; conv => whnf)
        | ((with_reducible refine Split.nez (fun _ => ?_) (fun _ => ?_)) <;> conv => whnf)
        | ((with_reducible refine Split.eqz (fun _ => ?_) (fun _ => ?_)) <;> conv => whnf)
        | ((with_reducible refine Split.and ?_))
        | ((with_reducible refine Split.or ?_))
        | ((with_reducible refine Split.streq (fun _ => ?_) (fun _ => ?_)) <;> conv => whnf)
        | ((with_reducible refine Split.dec (fun _ => ?_) (fun _ => ?_)) <;> conv => whnf)
        | ((with_reducible refine Split.mk (fun _ => ?_) (fun _ => ?_)) <;> conv => whnf)
        | ((with_reducible refine Need.mk ?_ ?_); (first | omega | rfl | decide | (refine ⟨?_, ?_⟩ <;> simp <;> omega) | (simp; omega)); conv => whnf)
        | ((with_reducible refine Wr.quo ?_ ?_ ?_ ?_); omega; omega; omega; conv => whnf)
        | ((with_reducible refine Wr.inr ?_ ?_); (first | omega | (simp; omega)); conv => whnf)
        | ((with_reducible refine Wr.inu ?_ ?_); omega; conv => whnf)
        | (refine CallK.mk _ (ev_CheckHopper h) ?_; conv => whnf)
        | (refine CallK.mk _ (ev_bet _ _ _) ?_; conv => whnf)
        | (exfalso; first | omega | contradiction))
      · rfl
      · exfalso; simp_all
    · rw [if_neg ho]
      have hb : y.m ≤ t ∧ t ≤ z.m := by simp [outsideB] at ho; omega
      have hd := ev_draughtOf h t hG hz hb.2 (by omega)
      refine ev_of_awp tysOk mixed (fn := Try.f6) Try.func6 rfl rfl rfl ?_
      conv => whnf
      repeat' (first
        | ((refine PickE.map (h.lines.length - 1) hz (by omega) ?_); conv => whnf)
        | ((refine PickE.map 0 hy (by simp) ?_); conv => whnf)
        | ((with_reducible refine Split.of_true ?_); conv => whnf)
        | ((with_reducible refine Split.of_false ?_); conv => whnf)
        | ((with_reducible refine Split.neg ?_))
        | ((with_reducible refine Split.is_true ?_ ?_); decide; conv => whnf)
        | ((with_reducible refine Split.is_false ?_ ?_); decide; conv => whnf)
        | ((with_reducible refine Split.nez (fun _ => ?_) (fun _ => ?_)) <;> conv => whnf)
        | ((with_reducible refine Split.eqz (fun _ => ?_) (fun _ => ?_)) <;> conv => whnf)
        | ((with_reducible refine Split.and ?_))
        | ((with_reducible refine Split.or ?_))
        | ((with_reducible refine Split.streq (fun _ => ?_) (fun _ => ?_)) <;> conv => whnf)
        | ((with_reducible refine Split.dec (fun _ => ?_) (fun _ => ?_)) <;> conv => whnf)
        | ((with_reducible refine Split.mk (fun _ => ?_) (fun _ => ?_)) <;> conv => whnf)
        | ((with_reducible refine Need.mk ?_ ?_); (first | omega | rfl | decide | (refine ⟨?_, ?_⟩ <;> simp <;> omega) | (simp; omega)); conv => whnf)
        | ((with_reducible refine Wr.quo ?_ ?_ ?_ ?_); omega; omega; omega; conv => whnf)
        | ((with_reducible refine Wr.inr ?_ ?_); (first | omega | (simp; omega)); conv => whnf)
        | ((with_reducible refine Wr.inu ?_ ?_); omega; conv => whnf)
        | (refine CallK.mk _ (ev_CheckHopper h) ?_; conv => whnf)
        | (refine CallK.mk _ (ev_bet _ _ _) ?_; conv => whnf)
        | (refine CallK.mk _ (hd) ?_; conv => whnf)
        | (exfalso; first | omega | contradiction))
      all_goals first
        | rfl
        | (exfalso; simp_all; done)
  · have e : draE h t = hopErr h := by rw [draE, if_pos h0]
    rw [draV, e, if_neg h0]
    refine ev_of_awp tysOk mixed (fn := Try.f6) Try.func6 rfl rfl rfl ?_
    conv => whnf
    repeat' (first
      | ((with_reducible refine Split.of_true ?_); conv => whnf)
      | ((with_reducible refine Split.of_false ?_); conv => whnf)
      | ((with_reducible refine Split.neg ?_))
      | ((with_reducible refine Split.is_true ?_ ?_); decide; conv => whnf)
      | ((with_reducible refine Split.is_false ?_ ?_); decide; conv => whnf)
      | ((with_reducible refine Split.nez (fun _ => ?_) (fun _ => ?_)) <;> conv => whnf)
      | ((with_reducible refine Split.eqz (fun _ => ?_) (fun _ => ?_)) <;> conv => whnf)
      | ((with_reducible refine Split.and ?_))
      | ((with_reducible refine Split.or ?_))
      | ((with_reducible refine Split.streq (fun _ => ?_) (fun _ => ?_)) <;> conv => whnf)
      | ((with_reducible refine Split.dec (fun _ => ?_) (fun _ => ?_)) <;> conv => whnf)
      | ((with_reducible refine Split.mk (fun _ => ?_) (fun _ => ?_)) <;> conv => whnf)
      | ((with_reducible refine Need.mk ?_ ?_); (first | omega | rfl | decide | (refine ⟨?_, ?_⟩ <;> simp <;> omega) | (simp; omega)); conv => whnf)
      | ((with_reducible refine Wr.quo ?_ ?_ ?_ ?_); omega; omega; omega; conv => whnf)
      | ((with_reducible refine Wr.inr ?_ ?_); (first | omega | (simp; omega)); conv => whnf)
      | ((with_reducible refine Wr.inu ?_ ?_); omega; conv => whnf)
      | (refine CallK.mk _ (ev_CheckHopper h) ?_; conv => whnf)
      | (exfalso; first | omega | contradiction))
    rfl
theorem ev_DraughtR (h : Hp) (t : Int) : Ev Try.prog 8 [hpD h, iD t] (.tup [iD (draV h t), iD (draE h t)]) := by
  by_cases h0 : hopErr h = 0
  · obtain ⟨hG, -⟩ := hop_good h0
    obtain ⟨y, z, hy, hz, hyz⟩ := hop_ends hG
    have h2 := hG.two
    have hl := hG.len
    have he := ev_ends h hy hz hl h2
    have e : draE h t = if outsideB t y.m z.m then 2 else 0 := by rw [draE, if_neg (by simp [h0]), hy, hz]; rfl
    rw [draV, e]
    by_cases ho : outsideB t y.m z.m = true
    · rw [if_pos ho]
      refine ev_of_awp tysOk mixed (fn := Try.f8) Try.func8 rfl rfl rfl ?_
      conv => whnf
      repeat' (first
        | ((with_reducible refine Split.of_true ?_); conv => whnf)
        | ((with_reducible refine Split.of_false ?_); conv => whnf)
        | ((with_reducible refine Split.neg ?_))
        | ((with_reducible refine Split.is_true ?_ ?_); decide; conv => whnf)
        | ((with_reducible refine Split.is_false ?_ ?_); decide; conv => whnf)
        | ((with_reducible refine Split.nez (fun _ => ?_) (fun _ => ?_)) <;> conv => whnf)
        | ((with_reducible refine Split.eqz (fun _ => ?_) (fun _ => ?_)) <;> conv => whnf)
        | ((with_reducible refine Split.and ?_))
        | ((with_reducible refine Split.or ?_))
        | ((with_reducible refine Split.streq (fun _ => ?_) (fun _ => ?_)) <;> conv => whnf)
        | ((with_reducible refine Split.dec (fun _ => ?_) (fun _ => ?_)) <;> conv => whnf)
        | ((with_reducible refine Split.mk (fun _ => ?_) (fun _ => ?_)) <;> conv => whnf)
        | ((with_reducible refine Need.mk ?_ ?_); (first | omega | rfl | decide | (refine ⟨?_, ?_⟩ <;> simp <;> omega) | (simp; omega)); conv => whnf)
        | ((with_reducible refine Wr.quo ?_ ?_ ?_ ?_); omega; omega; omega; conv => whnf)
        | ((with_reducible refine Wr.inr ?_ ?_); (first | omega | (simp; omega)); conv => whnf)
        | ((with_reducible refine Wr.inu ?_ ?_); omega; conv => whnf)
        | (refine CallK.mk _ (ev_CheckHopperR h) ?_; conv => whnf)
        | (refine CallK.mk _ (ev_Within _ _ _) ?_; conv => whnf)
        | (refine CallK.mk _ (he) ?_; conv => whnf)
        | (exfalso; first | omega | contradiction))
      all_goals first
        | rfl
        | (exfalso; simp_all; done)
    · rw [if_neg ho]
      have hb : y.m ≤ t ∧ t ≤ z.m := by simp [outsideB] at ho; omega
      have hd := ev_Laden h t hG hz hb.2 hy hb.1
      refine ev_of_awp tysOk mixed (fn := Try.f8) Try.func8 rfl rfl rfl ?_
      conv => whnf
      repeat' (first
        | ((with_reducible refine Split.of_true ?_); conv => whnf)
        | ((with_reducible refine Split.of_false ?_); conv => whnf)
        | ((with_reducible refine Split.neg ?_))
        | ((with_reducible refine Split.is_true ?_ ?_); decide; conv => whnf)
        | ((with_reducible refine Split.is_false ?_ ?_); decide; conv => whnf)
        | ((with_reducible refine Split.nez (fun _ => ?_) (fun _ => ?_)) <;> conv => whnf)
        | ((with_reducible refine Split.eqz (fun _ => ?_) (fun _ => ?_)) <;> conv => whnf)
        | ((with_reducible refine Split.and ?_))
        | ((with_reducible refine Split.or ?_))
        | ((with_reducible refine Split.streq (fun _ => ?_) (fun _ => ?_)) <;> conv => whnf)
        | ((with_reducible refine Split.dec (fun _ => ?_) (fun _ => ?_)) <;> conv => whnf)
        | ((with_reducible refine Split.mk (fun _ => ?_) (fun _ => ?_)) <;> conv => whnf)
        | ((with_reducible refine Need.mk ?_ ?_); (first | omega | rfl | decide | (refine ⟨?_, ?_⟩ <;> simp <;> omega) | (simp; omega)); conv => whnf)
        | ((with_reducible refine Wr.quo ?_ ?_ ?_ ?_); omega; omega; omega; conv => whnf)
        | ((with_reducible refine Wr.inr ?_ ?_); (first | omega | (simp; omega)); conv => whnf)
        | ((with_reducible refine Wr.inu ?_ ?_); omega; conv => whnf)
        | (refine CallK.mk _ (ev_CheckHopperR h) ?_; conv => whnf)
        | (refine CallK.mk _ (ev_Within _ _ _) ?_; conv => whnf)
        | (refine CallK.mk _ (he) ?_; conv => whnf)
        | (refine CallK.mk _ (hd) ?_; conv => whnf)
        | (exfalso; first | omega | contradiction))
      all_goals first
        | rfl
        | (exfalso; simp_all; done)
  · have e : draE h t = hopErr h := by rw [draE, if_pos h0]
    rw [draV, e, if_neg h0]
    refine ev_of_awp tysOk mixed (fn := Try.f8) Try.func8 rfl rfl rfl ?_
    conv => whnf
    repeat' (first
      | ((with_reducible refine Split.of_true ?_); conv => whnf)
      | ((with_reducible refine Split.of_false ?_); conv => whnf)
      | ((with_reducible refine Split.neg ?_))
      | ((with_reducible refine Split.is_true ?_ ?_); decide; conv => whnf)
      | ((with_reducible refine Split.is_false ?_ ?_); decide; conv => whnf)
      | ((with_reducible refine Split.nez (fun _ => ?_) (fun _ => ?_)) <;> conv => whnf)
      | ((with_reducible refine Split.eqz (fun _ => ?_) (fun _ => ?_)) <;> conv => whnf)
      | ((with_reducible refine Split.and ?_))
      | ((with_reducible refine Split.or ?_))
      | ((with_reducible refine Split.streq (fun _ => ?_) (fun _ => ?_)) <;> conv => whnf)
      | ((with_reducible refine Split.dec (fun _ => ?_) (fun _ => ?_)) <;> conv => whnf)
      | ((with_reducible refine Split.mk (fun _ => ?_) (fun _ => ?_)) <;> conv => whnf)
      | ((with_reducible refine Need.mk ?_ ?_); (first | omega | rfl | decide | (refine ⟨?_, ?_⟩ <;> simp <;> omega) | (simp; omega)); conv => whnf)
      | ((with_reducible refine Wr.quo ?_ ?_ ?_ ?_); omega; omega; omega; conv => whnf)
      | ((with_reducible refine Wr.inr ?_ ?_); (first | omega | (simp; omega)); conv => whnf)
      | ((with_reducible refine Wr.inu ?_ ?_); omega; conv => whnf)
      | (refine CallK.mk _ (ev_CheckHopperR h) ?_; conv => whnf)
      | (exfalso; first | omega | contradiction))
    rfl
end Go.Proofs.Try
