import Derived.Test.YtgfaonnajdoeoaaTrD
namespace Go.Proofs.Try
open Go Go.Vm
set_option maxRecDepth 20000
set_option maxHeartbeats 2000000
def masE (h : Hp) (d : Int) : Int := if hopErr h ≠ 0 then hopErr h else if outsideB d 0 5000 then 2 else if d < h.lines[0]?.elim 0 Ln.d then 11 else 0
def masV (h : Hp) (d : Int) : Int := if masE h d = 0 then bs (fun n => decide (ladeS h.lines n ≤ d)) (h.lines[0]?.elim 0 Ln.m) (h.lines[h.lines.length - 1]?.elim 0 Ln.m) else 0
theorem lade_first {l : List Ln} {y : Ln} (hy : l[0]? = some y) : ladeS l y.m = y.d := by
  have : posL l y.m = 0 := by
    rcases Nat.eq_zero_or_pos (posL l y.m) with h | h
    · exact h
    · have := posL_lt 0 y hy h; omega
  rw [ladeS, this]
  simp only [ladeAt, hy]
theorem ev_MassAt (h : Hp) (d : Int) : Ev Try.prog 7 [hpD h, iD d] (.tup [iD (masV h d), iD (masE h d)]) := by
  have hlen : (h.lines.map lnD).length = h.lines.length := List.length_map _
  by_cases h0 : hopErr h = 0
  · obtain ⟨hG, -⟩ := hop_good h0
    obtain ⟨y, z, hy, hz, hyz⟩ := hop_ends hG
    have h2 := hG.two
    have hl := hG.len
    have ky := hG.ok y (List.mem_of_getElem? hy)
    have kz := hG.ok z (List.mem_of_getElem? hz)
    have e : masE h d = if outsideB d 0 5000 then 2 else if d < y.d then 11 else 0 := by rw [masE, if_neg (by simp [h0]), hy]; rfl
    have hg := ev_greatest 23 [.ref (hpD h).cells 0, .ref [iD d] 0] (fun n => decide (ladeS h.lines n ≤ d)) y.m z.m (by omega) (by omega) (fun n h1 h2 => ev_MassAt1 h d n hG hz h2 (by omega))
    have eb : bs (fun n => decide (ladeS h.lines n ≤ d)) (h.lines[0]?.elim 0 Ln.m) (h.lines[h.lines.length - 1]?.elim 0 Ln.m) = bs (fun n => decide (ladeS h.lines n ≤ d)) y.m z.m := by rw [hy, hz]; rfl
    rw [masV, e, eb]
    generalize bs (fun n => decide (ladeS h.lines n ≤ d)) y.m z.m = r at *
    refine ev_of_awp tysOk mixed (fn := Try.f7) Try.func7 rfl rfl rfl ?_
    conv => whnf
    repeat' (first
      | ((refine PickE.map (h.lines.length - 1) hz (by omega) ?_); conv => whnf)
      | ((refine PickE.map 0 hy (by simp) ?_); conv => whnf)
      | ((with_reducible refine Split.of_true ?_); conv => whnf)
      | ((with_reducible refine Split.of_false ?_); conv => whnf)
      | ((with_reducible refine Split.neg ?_))
      | ((with_reducible refine Split.is_true ?_ ?_); decide; conv => whnf)
      | ((with_reducible refine Split.is_false ?_ ?_); decide; conv => whnf)
      | ((with_reducible refine Split.nez (fun _ => ?_) (fun _ => ?_)) <;> conv => whnf)
      | ((with_reducible refine Split.eqz (fun _ => ?_) (fun _ => ?_)) <;> conv => whnf)
      | ((with_reducible refine Split.and ?_))
      | ((with_reducible refine Split.or ?_))
      | ((with_reducible refine Split.streq (fun _ => ?_) (fun _ => ?_)) <;> conv => whnf)
      | ((with_reducible refine Split.dec (fun _ => ?_) (fun _ => ?_)) <;> conv => whnf)
      | ((with_reducible refine Split.mk (fun _ => ?_) (fun _ => ?_)) <;> conv => whnf)
      | ((with_reducible refine Need.mk ?_ ?_); (first | omega | rfl | decide | (refine ⟨?_, ?_⟩ <;> simp <;> omega) | (simp; omega)); conv => whnf)
      | ((with_reducible refine Wr.quo ?_ ?_ ?_ ?_); omega; omega; omega; conv => whnf)
      | ((with_reducible refine Wr.inr ?_ ?_); (first | omega | (simp; omega)); conv => whnf)
      | ((with_reducible refine Wr.inu ?_ ?_); omega; conv => whnf)
      | (refine CallK.mk _ (ev_CheckHopper h) ?_; conv => whnf)
      | (refine CallK.mk _ (ev_bet _ _ _) ?_; conv => whnf)
      | (refine CallK.mk _ (hg) ?_; conv => whnf)
      | (exfalso; first | omega | contradiction))
    all_goals first
      | (exfalso; simp_all; done)
      | (simp_all [retOf, iD]; done)
      | (simp_all [retOf, iD] <;> omega)
  · have e : masE h d = hopErr h := by rw [masE, if_pos h0]
    rw [masV, e, if_neg h0]
    refine ev_of_awp tysOk mixed (fn := Try.f7) Try.func7 rfl rfl rfl ?_
    conv => whnf
    repeat' (first
      | ((with_reducible refine Split.of_true ?_); conv => whnf)
      | ((with_reducible refine Split.of_false ?_); conv => whnf)
      | ((with_reducible refine Split.neg ?_))
      | ((with_reducible refine Split.is_true ?_ ?_); decide; conv => whnf)
      | ((with_reducible refine Split.is_false ?_ ?_); decide; conv => whnf)
      | ((with_reducible refine Split.nez (fun _ => ?_) (fun _ => ?_)) <;> conv => whnf)
      | ((with_reducible refine Split.eqz (fun _ => ?_) (fun _ => ?_)) <;> conv => whnf)
      | ((with_reducible refine Split.and ?_))
      | ((with_reducible refine Split.or ?_))
      | ((with_reducible refine Split.streq (fun _ => ?_) (fun _ => ?_)) <;> conv => whnf)
      | ((with_reducible refine Split.dec (fun _ => ?_) (fun _ => ?_)) <;> conv => whnf)
      | ((with_reducible refine Split.mk (fun _ => ?_) (fun _ => ?_)) <;> conv => whnf)
      | ((with_reducible refine Need.mk ?_ ?_); (first | omega | rfl | decide | (refine ⟨?_, ?_⟩ <;> simp <;> omega) | (simp; omega)); conv => whnf)
      | ((with_reducible refine Wr.quo ?_ ?_ ?_ ?_); omega; omega; omega; conv => whnf)
      | ((with_reducible refine Wr.inr ?_ ?_); (first | omega | (simp; omega)); conv => whnf)
      | ((with_reducible refine Wr.inu ?_ ?_); omega; conv => whnf)
      | (refine CallK.mk _ (ev_CheckHopper h) ?_; conv => whnf)
      | (exfalso; first | omega | contradiction))
    rfl
theorem ev_MassAtR (h : Hp) (d : Int) : Ev Try.prog 9 [hpD h, iD d] (.tup [iD (masV h d), iD (masE h d)]) := by
  by_cases h0 : hopErr h = 0
  · obtain ⟨hG, -⟩ := hop_good h0
    obtain ⟨y, z, hy, hz, hyz⟩ := hop_ends hG
    have h2 := hG.two
    have hl := hG.len
    have ky := hG.ok y (List.mem_of_getElem? hy)
    have kz := hG.ok z (List.mem_of_getElem? hz)
    have he := ev_ends h hy hz hl h2
    have e : masE h d = if outsideB d 0 5000 then 2 else if d < y.d then 11 else 0 := by rw [masE, if_neg (by simp [h0]), hy]; rfl
    have hL := ev_Laden h y.m hG hz (by omega) hy (by omega)
    rw [lade_first hy] at hL
    have eb : bs (fun n => decide (ladeS h.lines n ≤ d)) (h.lines[0]?.elim 0 Ln.m) (h.lines[h.lines.length - 1]?.elim 0 Ln.m) = bs (fun n => decide (ladeS h.lines n ≤ d)) y.m z.m := by rw [hy, hz]; rfl
    rw [masV, e, eb]
    refine ev_of_awp tysOk mixed (fn := Try.f9) Try.func9 rfl rfl rfl ?_
    conv => whnf
    repeat' (first
      | ((with_reducible refine Split.of_true ?_); conv => whnf)
      | ((with_reducible refine Split.of_false ?_); conv => whnf)
      | ((with_reducible refine Split.neg ?_))
      | ((with_reducible refine Split.is_true ?_ ?_); decide; conv => whnf)
      | ((with_reducible refine Split.is_false ?_ ?_); decide; conv => whnf)
      | ((with_reducible refine Split.nez (fun _ => ?_) (fun _ => ?_)) <;> conv => whnf)
      | ((with_reducible refine Split.eqz (fun _ => ?_) (fun _ => ?_)) <;> conv => whnf)
      | ((with_reducible refine Split.and ?_))
      | ((with_reducible refine Split.or ?_))
      | ((with_reducible refine Split.streq (fun _ => ?_) (fun _ => ?_)) <;> conv => whnf)
      | ((with_reducible refine Split.dec (fun _ => ?_) (fun _ => ?_)) <;> conv => whnf)
      | ((with_reducible refine Split.mk (fun _ => ?_) (fun _ => ?_)) <;> conv => whnf)
      | ((with_reducible refine Need.mk ?_ ?_); (first | omega | rfl | decide | (refine ⟨?_, ?_⟩ <;> simp <;> omega) | (simp; omega)); conv => whnf)
      | ((with_reducible refine Wr.quo ?_ ?_ ?_ ?_); omega; omega; omega; conv => whnf)
      | ((with_reducible refine Wr.inr ?_ ?_); (first | omega | (simp; omega)); conv => whnf)
      | ((with_reducible refine Wr.inu ?_ ?_); omega; conv => whnf)
      | (refine CallK.mk _ (ev_CheckHopperR h) ?_; conv => whnf)
      | (refine CallK.mk _ (ev_Within _ _ _) ?_; conv => whnf)
      | (refine CallK.mk _ (he) ?_; conv => whnf)
      | (refine CallK.mk _ (hL) ?_; conv => whnf)
      | (exfalso; first | omega | contradiction))
    · simp_all [retOf, iD]
    · have hd : d < y.d := by omega
      simp_all [retOf, iD]
    · have ho : outsideB d 0 5000 = false := by assumption
      have hd : ¬ d < y.d := by omega
      simp only [ho, hd, Bool.false_eq_true, if_false, if_true]
      refine LoopK.ov (fun x : Int × Int => y.m ≤ x.1 ∧ x.1 ≤ x.2 ∧ x.2 ≤ z.m ∧ bs (fun n => decide (ladeS h.lines n ≤ d)) y.m z.m = bs (fun n => decide (ladeS h.lines n ≤ d)) x.1 x.2) (fun x => [(7, .d (.int .i64 x.1)), (8, .d (.int .i64 x.2))]) [] (fun _ => [])
        (fun x => (x.2 - x.1).toNat) (y.m, z.m) ⟨by simp, by simp only; omega, by simp, rfl⟩ ⟨by (repeat' (first | exact True.intro | exact rfl | refine ⟨?_, ?_⟩ | (intro h; cases h; done) | (intro h; exact h) | exact map_snoc | (refine own_congr ?_; simp; done) | (refine int_congr ?_; (first | omega | (simp; omega))) | (simp; done))), by (repeat' (first | exact True.intro | exact rfl | refine ⟨?_, ?_⟩ | (intro h; cases h; done) | (intro h; exact h) | exact map_snoc | (refine own_congr ?_; simp; done) | (refine int_congr ?_; (first | omega | (simp; omega))) | (simp; done))), rfl⟩ ?_
      rintro ⟨u, v⟩ ⟨h3, h34, h4, h5⟩
      dsimp only at h3 h34 h4 h5 ⊢
      by_cases huv : u < v
      · have em : u + (v - u + 1) / 2 = (u + v + 1) / 2 := by omega
        have hm := ev_Laden h (u + (v - u + 1) / 2) hG hz (by omega) hy (by omega)
        rw [bs.eq_1 _ u v, if_pos huv, ← em] at h5
        conv => whnf
        repeat' (first
          | ((with_reducible refine Split.of_true ?_); conv => whnf)
          | ((with_reducible refine Split.of_false ?_); conv => whnf)
          | ((with_reducible refine Split.neg ?_))
          | ((with_reducible refine Split.is_true ?_ ?_); decide; conv => whnf)
          | ((with_reducible refine Split.is_false ?_ ?_); decide; conv => whnf)
          | ((with_reducible refine Split.nez (fun _ => ?_) (fun _ => ?_)) <;> conv => whnf)
          | ((with_reducible refine Split.eqz (fun _ => ?_) (fun _ => ?_)) <;> conv => whnf)
          | ((with_reducible refine Split.and ?_))
          | ((with_reducible refine Split.or ?_))
          | ((with_reducible refine Split.streq (fun _ => ?_) (fun _ => ?_)) <;> conv => whnf)
          | ((with_reducible refine Split.dec (fun _ => ?_) (fun _ => ?_)) <;> conv => whnf)
          | ((with_reducible refine Split.mk (fun _ => ?_) (fun _ => ?_)) <;> conv => whnf)
          | ((with_reducible refine Need.mk ?_ ?_); (first | omega | rfl | decide | (refine ⟨?_, ?_⟩ <;> simp <;> omega) | (simp; omega)); conv => whnf)
          | ((with_reducible refine Wr.quo ?_ ?_ ?_ ?_); omega; omega; omega; conv => whnf)
          | ((with_reducible refine Wr.inr ?_ ?_); (first | omega | (simp; omega)); conv => whnf)
          | ((with_reducible refine Wr.inu ?_ ?_); omega; conv => whnf)
          | (refine CallK.mk _ (hm) ?_; conv => whnf)
          | (exfalso; first | omega | contradiction))
        · have hp : ladeS h.lines (u + (v - u + 1) / 2) ≤ d := by assumption
          rw [if_pos (by simpa using hp)] at h5
          exact Again.au (u + (v - u + 1) / 2, v) ⟨by simp only; omega, by simp only; omega, h4, h5⟩ (by simp only; omega) ⟨by (repeat' (first | exact True.intro | exact rfl | refine ⟨?_, ?_⟩ | (intro h; cases h; done) | (intro h; exact h) | exact map_snoc | (refine own_congr ?_; simp; done) | (refine int_congr ?_; (first | omega | (simp; omega))) | (simp; done))), by (repeat' (first | exact True.intro | exact rfl | refine ⟨?_, ?_⟩ | (intro h; cases h; done) | (intro h; exact h) | exact map_snoc | (refine own_congr ?_; simp; done) | (refine int_congr ?_; (first | omega | (simp; omega))) | (simp; done))), rfl⟩
        · have hp : ¬ ladeS h.lines (u + (v - u + 1) / 2) ≤ d := by assumption
          rw [if_neg (by simpa using hp)] at h5
          exact Again.au (u, u + (v - u + 1) / 2 - 1) ⟨h3, by simp only; omega, by simp only; omega, h5⟩ (by simp only; omega) ⟨by (repeat' (first | exact True.intro | exact rfl | refine ⟨?_, ?_⟩ | (intro h; cases h; done) | (intro h; exact h) | exact map_snoc | (refine own_congr ?_; simp; done) | (refine int_congr ?_; (first | omega | (simp; omega))) | (simp; done))), by (repeat' (first | exact True.intro | exact rfl | refine ⟨?_, ?_⟩ | (intro h; cases h; done) | (intro h; exact h) | exact map_snoc | (refine own_congr ?_; simp; done) | (refine int_congr ?_; (first | omega | (simp; omega))) | (simp; done))), rfl⟩
      · rw [bs.eq_1 _ u v, if_neg huv] at h5
        rw [h5]
        conv => whnf
        repeat' (first
          | ((with_reducible refine Split.of_true ?_); conv => whnf)
          | ((with_reducible refine Split.of_false ?_); conv => whnf)
          | ((with_reducible refine Split.neg ?_))
          | ((with_reducible refine Split.is_true ?_ ?_); decide; conv => whnf)
          | ((with_reducible refine Split.is_false ?_ ?_); decide; conv => whnf)
          | ((with_reducible refine Split.nez (fun _ => ?_) (fun _ => ?_)) <;> conv => whnf)
          | ((with_reducible refine Split.eqz (fun _ => ?_) (fun _ => ?_)) <;> conv => whnf)
          | ((with_reducible refine Split.and ?_))
          | ((with_reducible refine Split.or ?_))
          | ((with_reducible refine Split.streq (fun _ => ?_) (fun _ => ?_)) <;> conv => whnf)
          | ((with_reducible refine Split.dec (fun _ => ?_) (fun _ => ?_)) <;> conv => whnf)
          | ((with_reducible refine Split.mk (fun _ => ?_) (fun _ => ?_)) <;> conv => whnf)
          | ((with_reducible refine Need.mk ?_ ?_); (first | omega | rfl | decide | (refine ⟨?_, ?_⟩ <;> simp <;> omega) | (simp; omega)); conv => whnf)
          | ((with_reducible refine Wr.quo ?_ ?_ ?_ ?_); omega; omega; omega; conv => whnf)
          | ((with_reducible refine Wr.inr ?_ ?_); (first | omega | (simp; omega)); conv => whnf)
          | ((with_reducible refine Wr.inu ?_ ?_); omega; conv => whnf)
          | (exfalso; first | omega | contradiction))
        rfl
  · have e : masE h d = hopErr h := by rw [masE, if_pos h0]
    rw [masV, e, if_neg h0]
    refine ev_of_awp tysOk mixed (fn := Try.f9) Try.func9 rfl rfl rfl ?_
    conv => whnf
    repeat' (first
      | ((with_reducible refine Split.of_true ?_); conv => whnf)
      | ((with_reducible refine Split.of_false ?_); conv => whnf)
      | ((with_reducible refine Split.neg ?_))
      | ((with_reducible refine Split.is_true ?_ ?_); decide; conv => whnf)
      | ((with_reducible refine Split.is_false ?_ ?_); decide; conv => whnf)
      | ((with_reducible refine Split.nez (fun _ => ?_) (fun _ => ?_)) <;> conv => whnf)
      | ((with_reducible refine Split.eqz (fun _ => ?_) (fun _ => ?_)) <;> conv => whnf)
      | ((with_reducible refine Split.and ?_))
      | ((with_reducible refine Split.or ?_))
      | ((with_reducible refine Split.streq (fun _ => ?_) (fun _ => ?_)) <;> conv => whnf)
      | ((with_reducible refine Split.dec (fun _ => ?_) (fun _ => ?_)) <;> conv => whnf)
      | ((with_reducible refine Split.mk (fun _ => ?_) (fun _ => ?_)) <;> conv => whnf)
      | ((with_reducible refine Need.mk ?_ ?_); (first | omega | rfl | decide | (refine ⟨?_, ?_⟩ <;> simp <;> omega) | (simp; omega)); conv => whnf)
      | ((with_reducible refine Wr.quo ?_ ?_ ?_ ?_); omega; omega; omega; conv => whnf)
      | ((with_reducible refine Wr.inr ?_ ?_); (first | omega | (simp; omega)); conv => whnf)
      | ((with_reducible refine Wr.inu ?_ ?_); omega; conv => whnf)
      | (refine CallK.mk _ (ev_CheckHopperR h) ?_; conv => whnf)
      | (exfalso; first | omega | contradiction))
    rfl
end Go.Proofs.Try
