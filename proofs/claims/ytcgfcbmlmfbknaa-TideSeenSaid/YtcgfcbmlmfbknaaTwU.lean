import Derived.Test.YtcgfcbmlmfbknaaTwT
open Go Go.Vm Go.Shelf
namespace Go.Proofs.Try
set_option maxRecDepth 20000
set_option maxHeartbeats 2000000
def needT (g : Ga) (l : List Mk) : Nat → Int
  | 0 => g.err
  | i + 1 => match l[i]? with
    | some m => maxI (maxI (needT g l i) ((meanS g m.m).1 / (meanS g m.m).2.1 - m.l)) (m.l - upZ (meanS g m.m).1 (meanS g m.m).2.1)
    | none => needT g l i
def calE (g : Ga) (l : List Mk) : Int := if seenErr g l ≠ 0 then seenErr g l else if 1000 < needT g l l.length then 2 else 0
def calG (g : Ga) (l : List Mk) : Ga := if calE g l = 0 then { g with err := needT g l l.length } else gzG
theorem ev_Calibrate (g : Ga) (l : List Mk) : Ev Try.prog 30 [gD g, .sl 2 (l.map mD)] (.tup [gD (calG g l), .int .i64 (calE g l)]) := by
  have hlen : (l.map mD).length = l.length := List.length_map _
  refine ev_of_awp tysOk mixed (fn := Try.f30) Try.func30 rfl rfl rfl ?_
  conv => whnf
  repeat' (first
    | ((with_reducible refine Split.of_true ?_); conv => whnf)
    | ((with_reducible refine Split.of_false ?_); conv => whnf)
    | ((with_reducible refine Split.neg ?_))
    | ((with_reducible refine Split.is_true ?_ ?_); decide; conv => whnf)
    | ((with_reducible refine Split.is_false ?_ ?_); decide; conv => whnf)
    | ((with_reducible refine Split.nez (fun _ => ?_) (fun _ => ?_)) <;> conv => whnf)
    | ((with_reducible refine Split.eqz (fun _ => ?_) (fun _ => ?_)) <;> conv => whnf)
    | ((with_reducible refine Split.and ?_))
    | ((with_reducible refine Split.or ?_))
    | ((with_reducible refine Split.streq (fun _ => ?_) (fun _ => ?_)) <;> conv => whnf)
    | ((with_reducible refine Split.dec (fun _ => ?_) (fun _ => ?_)) <;> conv => whnf)
    | ((with_reducible refine Split.mk (fun _ => ?_) (fun _ => ?_)) <;> conv => whnf)
    | ((with_reducible refine Need.mk ?_ ?_); (first | omega | rfl | decide | (refine ⟨?_, ?_⟩ <;> simp <;> omega) | (simp; omega)); conv => whnf)
    | ((with_reducible refine Wr.quo ?_ ?_ ?_ ?_); omega; omega; omega; conv => whnf)
    | ((with_reducible refine Wr.inr ?_ ?_); (first | omega | (simp; omega)); conv => whnf)
    | ((with_reducible refine Wr.inu ?_ ?_); omega; conv => whnf)
    | (refine CallK.mk _ (ev_checkSeen g l) ?_; conv => whnf)
    | (exfalso; first | omega | contradiction))
  · have h : seenErr g l ≠ 0 := by assumption
    have e : calE g l = seenErr g l := by rw [calE, if_pos h]
    rw [calG, e, if_neg h]; rfl
  have h0 : seenErr g l = 0 := by assumption
  obtain ⟨hG, h1, hl, hl0, hm⟩ := seen_ok h0
  have hgl := hG.len
  conv => whnf
  repeat' (first
    | ((with_reducible refine Split.of_true ?_); conv => whnf)
    | ((with_reducible refine Split.of_false ?_); conv => whnf)
    | ((with_reducible refine Split.neg ?_))
    | ((with_reducible refine Split.is_true ?_ ?_); decide; conv => whnf)
    | ((with_reducible refine Split.is_false ?_ ?_); decide; conv => whnf)
    | ((with_reducible refine Split.nez (fun _ => ?_) (fun _ => ?_)) <;> conv => whnf)
    | ((with_reducible refine Split.eqz (fun _ => ?_) (fun _ => ?_)) <;> conv => whnf)
    | ((with_reducible refine Split.and ?_))
    | ((with_reducible refine Split.or ?_))
    | ((with_reducible refine Split.streq (fun _ => ?_) (fun _ => ?_)) <;> conv => whnf)
    | ((with_reducible refine Split.dec (fun _ => ?_) (fun _ => ?_)) <;> conv => whnf)
    | ((with_reducible refine Split.mk (fun _ => ?_) (fun _ => ?_)) <;> conv => whnf)
    | ((with_reducible refine Need.mk ?_ ?_); (first | omega | rfl | decide | (refine ⟨?_, ?_⟩ <;> simp <;> omega) | (simp; omega)); conv => whnf)
    | ((with_reducible refine Wr.quo ?_ ?_ ?_ ?_); omega; omega; omega; conv => whnf)
    | ((with_reducible refine Wr.inr ?_ ?_); (first | omega | (simp; omega)); conv => whnf)
    | ((with_reducible refine Wr.inu ?_ ?_); omega; conv => whnf)
    | (refine CallK.mk _ (ev_cloneMarks g.marks (by omega)) ?_; conv => whnf)
    | (refine CallK.mk _ (ev_with g g.marks) ?_; conv => whnf)
    | (exfalso; first | omega | contradiction))
  refine LoopK.o2 (fun i : Nat => i ≤ l.length) (fun i => [(27, .d (.int .i64 i))]) (fun i => [(7, .var [.d (.str g.name), .d (.int .i64 g.x), .d (.int .i64 (needT g l i)), .d (.sl 2 (g.marks.map mD))] false)])
    (fun i => l.length - i) 0 (by omega) ⟨by (repeat' (first | exact True.intro | exact rfl | refine ⟨?_, ?_⟩ | (intro h; cases h; done) | (intro h; exact h) | exact map_snoc | (refine own_congr ?_; simp; done) | (refine int_congr ?_; (first | omega | (simp; omega))) | (simp; done))), by (repeat' (first | exact True.intro | exact rfl | refine ⟨?_, ?_⟩ | (intro h; cases h; done) | (intro h; exact h) | exact map_snoc | (refine own_congr ?_; simp; done) | (refine int_congr ?_; (first | omega | (simp; omega))) | (simp; done))), rfl⟩ ?_
  rintro i hi
  have hn : (i : Int) < l.length → ∃ m, l[i]? = some m := fun h => some_of_lt (by omega)
  by_cases hlt : i < l.length
  · obtain ⟨m, hmi⟩ := hn (by omega)
    obtain ⟨hw, hok⟩ := hm m (List.mem_of_getElem? hmi)
    have hw := wrongB_false hw
    have hM := ev_meanS (t := m.m) hG (by omega)
    have hb := mean_bd (t := m.m) hG
    have eR : needT g l (i + 1) = maxI (maxI (needT g l i) ((meanS g m.m).1 / (meanS g m.m).2.1 - m.l)) (m.l - upZ (meanS g m.m).1 (meanS g m.m).2.1) := by simp only [needT, hmi]
    generalize meanS g m.m = x at hM hb eR
    obtain ⟨n, d, ok⟩ := x
    dsimp only at hb eR
    have q1 := ediv_bd (a := n) (M := 60000000000) hb.1 (by omega)
    have q2 := ediv_bd (a := -n) (M := 60000000000) hb.1 (by omega)
    have q3 : -60000000000 ≤ upZ n d ∧ upZ n d ≤ 60000000000 := by unfold upZ; omega
    have d1 := ev_down n d hb.1 (by omega)
    have d2 := ev_up n d hb.1 (by omega)
    conv => whnf
    repeat' (first
      | ((refine PickE.map i hmi (by omega) ?_); conv => whnf)
      | ((with_reducible refine Split.of_true ?_); conv => whnf)
      | ((with_reducible refine Split.of_false ?_); conv => whnf)
      | ((with_reducible refine Split.neg ?_))
      | ((with_reducible refine Split.is_true ?_ ?_); decide; conv => whnf)
      | ((with_reducible refine Split.is_false ?_ ?_); decide; conv => whnf)
      | ((with_reducible refine Split.nez (fun _ => ?_) (fun _ => ?_)) <;> conv => whnf)
      | ((with_reducible refine Split.eqz (fun _ => ?_) (fun _ => ?_)) <;> conv => whnf)
      | ((with_reducible refine Split.and ?_))
      | ((with_reducible refine Split.or ?_))
      | ((with_reducible refine Split.streq (fun _ => ?_) (fun _ => ?_)) <;> conv => whnf)
      | ((with_reducible refine Split.dec (fun _ => ?_) (fun _ => ?_)) <;> conv => whnf)
      | ((with_reducible refine Split.mk (fun _ => ?_) (fun _ => ?_)) <;> conv => whnf)
      | ((with_reducible refine Need.mk ?_ ?_); (first | omega | rfl | decide | (refine ⟨?_, ?_⟩ <;> simp <;> omega) | (simp; omega)); conv => whnf)
      | ((with_reducible refine Wr.quo ?_ ?_ ?_ ?_); omega; omega; omega; conv => whnf)
      | ((with_reducible refine Wr.inr ?_ ?_); (first | omega | (simp; omega)); conv => whnf)
      | ((with_reducible refine Wr.inu ?_ ?_); omega; conv => whnf)
      | (refine CallK.mk _ (hM) ?_; conv => whnf)
      | (refine CallK.mk _ (d1) ?_; conv => whnf)
      | (refine CallK.mk _ (d2) ?_; conv => whnf)
      | (exfalso; first | omega | contradiction))
    refine Again.au (i + 1) (by omega) (by omega) ?_
    rw [eR]
    exact ⟨by (repeat' (first | exact True.intro | exact rfl | refine ⟨?_, ?_⟩ | (intro h; cases h; done) | (intro h; exact h) | exact map_snoc | (refine own_congr ?_; simp; done) | (refine int_congr ?_; (first | omega | (simp; omega))) | (simp; done))), by (repeat' (first | exact True.intro | exact rfl | refine ⟨?_, ?_⟩ | (intro h; cases h; done) | (intro h; exact h) | exact map_snoc | (refine own_congr ?_; simp; done) | (refine int_congr ?_; (first | omega | (simp; omega))) | (simp; done))), rfl⟩
  · have e : i = l.length := by omega
    subst e
    conv => whnf
    repeat' (first
      | ((with_reducible refine Split.of_true ?_); conv => whnf)
      | ((with_reducible refine Split.of_false ?_); conv => whnf)
      | ((with_reducible refine Split.neg ?_))
      | ((with_reducible refine Split.is_true ?_ ?_); decide; conv => whnf)
      | ((with_reducible refine Split.is_false ?_ ?_); decide; conv => whnf)
      | ((with_reducible refine Split.nez (fun _ => ?_) (fun _ => ?_)) <;> conv => whnf)
      | ((with_reducible refine Split.eqz (fun _ => ?_) (fun _ => ?_)) <;> conv => whnf)
      | ((with_reducible refine Split.and ?_))
      | ((with_reducible refine Split.or ?_))
      | ((with_reducible refine Split.streq (fun _ => ?_) (fun _ => ?_)) <;> conv => whnf)
      | ((with_reducible refine Split.dec (fun _ => ?_) (fun _ => ?_)) <;> conv => whnf)
      | ((with_reducible refine Split.mk (fun _ => ?_) (fun _ => ?_)) <;> conv => whnf)
      | ((with_reducible refine Need.mk ?_ ?_); (first | omega | rfl | decide | (refine ⟨?_, ?_⟩ <;> simp <;> omega) | (simp; omega)); conv => whnf)
      | ((with_reducible refine Wr.quo ?_ ?_ ?_ ?_); omega; omega; omega; conv => whnf)
      | ((with_reducible refine Wr.inr ?_ ?_); (first | omega | (simp; omega)); conv => whnf)
      | ((with_reducible refine Wr.inu ?_ ?_); omega; conv => whnf)
      | (exfalso; first | omega | contradiction))
    · have e : calE g l = 2 := by rw [calE, if_neg (by simp [h0]), if_pos (by omega)]
      rw [calG, e, if_neg (by decide)]; rfl
    · have e : calE g l = 0 := by rw [calE, if_neg (by simp [h0]), if_neg (by omega)]
      rw [calG, if_pos e, e]; rfl
theorem ev_Need (g : Ga) (l : List Mk) (h0 : seenErr g l = 0) : Ev Try.prog 33 [gD g, .sl 2 (l.map mD)] (.int .i64 (needT g l l.length)) := by
  have hlen : (l.map mD).length = l.length := List.length_map _
  obtain ⟨hG, h1, hl, hl0, hm⟩ := seen_ok h0
  refine ev_of_awp tysOk mixed (fn := Try.f33) Try.func33 rfl rfl rfl ?_
  conv => whnf
  repeat' (first
    | ((with_reducible refine Split.of_true ?_); conv => whnf)
    | ((with_reducible refine Split.of_false ?_); conv => whnf)
    | ((with_reducible refine Split.neg ?_))
    | ((with_reducible refine Split.is_true ?_ ?_); decide; conv => whnf)
    | ((with_reducible refine Split.is_false ?_ ?_); decide; conv => whnf)
    | ((with_reducible refine Split.nez (fun _ => ?_) (fun _ => ?_)) <;> conv => whnf)
    | ((with_reducible refine Split.eqz (fun _ => ?_) (fun _ => ?_)) <;> conv => whnf)
    | ((with_reducible refine Split.and ?_))
    | ((with_reducible refine Split.or ?_))
    | ((with_reducible refine Split.streq (fun _ => ?_) (fun _ => ?_)) <;> conv => whnf)
    | ((with_reducible refine Split.dec (fun _ => ?_) (fun _ => ?_)) <;> conv => whnf)
    | ((with_reducible refine Split.mk (fun _ => ?_) (fun _ => ?_)) <;> conv => whnf)
    | ((with_reducible refine Need.mk ?_ ?_); (first | omega | rfl | decide | (refine ⟨?_, ?_⟩ <;> simp <;> omega) | (simp; omega)); conv => whnf)
    | ((with_reducible refine Wr.quo ?_ ?_ ?_ ?_); omega; omega; omega; conv => whnf)
    | ((with_reducible refine Wr.inr ?_ ?_); (first | omega | (simp; omega)); conv => whnf)
    | ((with_reducible refine Wr.inu ?_ ?_); omega; conv => whnf)
    | (exfalso; first | omega | contradiction))
  refine LoopK.ov (fun i : Nat => i ≤ l.length) (fun i => [(5, .d (.int .i64 (needT g l i))), (6, .d (.int .i64 i))]) [] (fun _ => [])
    (fun i => l.length - i) 0 (by omega) ⟨by (repeat' (first | exact True.intro | exact rfl | refine ⟨?_, ?_⟩ | (intro h; cases h; done) | (intro h; exact h) | exact map_snoc | (refine own_congr ?_; simp; done) | (refine int_congr ?_; (first | omega | (simp; omega))) | (simp; done))), by (repeat' (first | exact True.intro | exact rfl | refine ⟨?_, ?_⟩ | (intro h; cases h; done) | (intro h; exact h) | exact map_snoc | (refine own_congr ?_; simp; done) | (refine int_congr ?_; (first | omega | (simp; omega))) | (simp; done))), rfl⟩ ?_
  rintro i hi
  have hn : (i : Int) < l.length → ∃ m, l[i]? = some m := fun h => some_of_lt (by omega)
  by_cases hlt : i < l.length
  · obtain ⟨m, hmi⟩ := hn (by omega)
    obtain ⟨hw, hok⟩ := hm m (List.mem_of_getElem? hmi)
    have hw := wrongB_false hw
    have hM := ev_Mean (t := m.m) hG (by omega)
    have hb := mean_bd (t := m.m) hG
    have eR : needT g l (i + 1) = maxI (maxI (needT g l i) ((meanS g m.m).1 / (meanS g m.m).2.1 - m.l)) (m.l - upZ (meanS g m.m).1 (meanS g m.m).2.1) := by simp only [needT, hmi]
    generalize meanS g m.m = x at hM hb eR
    obtain ⟨n, d, ok⟩ := x
    dsimp only at hb eR
    have q1 := ediv_bd (a := n) (M := 60000000000) hb.1 (by omega)
    have q2 := ediv_bd (a := -n) (M := 60000000000) hb.1 (by omega)
    have q3 : -60000000000 ≤ upZ n d ∧ upZ n d ≤ 60000000000 := by unfold upZ; omega
    have d1 := ev_Down n d hb.1 (by omega)
    have d2 := ev_Up n d hb.1 (by omega)
    conv => whnf
    repeat' (first
      | ((refine PickE.map i hmi (by omega) ?_); conv => whnf)
      | ((with_reducible refine Split.of_true ?_); conv => whnf)
      | ((with_reducible refine Split.of_false ?_); conv => whnf)
      | ((with_reducible refine Split.neg ?_))
      | ((with_reducible refine Split.is_true ?_ ?_); decide; conv => whnf)
      | ((with_reducible refine Split.is_false ?_ ?_); decide; conv => whnf)
      | ((with_reducible refine Split.nez (fun _ => ?_) (fun _ => ?_)) <;> conv => whnf)
      | ((with_reducible refine Split.eqz (fun _ => ?_) (fun _ => ?_)) <;> conv => whnf)
      | ((with_reducible refine Split.and ?_))
      | ((with_reducible refine Split.or ?_))
      | ((with_reducible refine Split.streq (fun _ => ?_) (fun _ => ?_)) <;> conv => whnf)
      | ((with_reducible refine Split.dec (fun _ => ?_) (fun _ => ?_)) <;> conv => whnf)
      | ((with_reducible refine Split.mk (fun _ => ?_) (fun _ => ?_)) <;> conv => whnf)
      | ((with_reducible refine Need.mk ?_ ?_); (first | omega | rfl | decide | (refine ⟨?_, ?_⟩ <;> simp <;> omega) | (simp; omega)); conv => whnf)
      | ((with_reducible refine Wr.quo ?_ ?_ ?_ ?_); omega; omega; omega; conv => whnf)
      | ((with_reducible refine Wr.inr ?_ ?_); (first | omega | (simp; omega)); conv => whnf)
      | ((with_reducible refine Wr.inu ?_ ?_); omega; conv => whnf)
      | (refine CallK.mk _ (hM) ?_; conv => whnf)
      | (refine CallK.mk _ (d1) ?_; conv => whnf)
      | (refine CallK.mk _ (d2) ?_; conv => whnf)
      | (exfalso; first | omega | contradiction))
    refine Again.au (i + 1) (by omega) (by omega) ?_
    rw [eR]
    exact ⟨by (repeat' (first | exact True.intro | exact rfl | refine ⟨?_, ?_⟩ | (intro h; cases h; done) | (intro h; exact h) | exact map_snoc | (refine own_congr ?_; simp; done) | (refine int_congr ?_; (first | omega | (simp; omega))) | (simp; done))), by (repeat' (first | exact True.intro | exact rfl | refine ⟨?_, ?_⟩ | (intro h; cases h; done) | (intro h; exact h) | exact map_snoc | (refine own_congr ?_; simp; done) | (refine int_congr ?_; (first | omega | (simp; omega))) | (simp; done))), rfl⟩
  · have e : i = l.length := by omega
    subst e
    conv => whnf
    repeat' (first
      | ((with_reducible refine Split.of_true ?_); conv => whnf)
      | ((with_reducible refine Split.of_false ?_); conv => whnf)
      | ((with_reducible refine Split.neg ?_))
      | ((with_reducible refine Split.is_true ?_ ?_); decide; conv => whnf)
      | ((with_reducible refine Split.is_false ?_ ?_); decide; conv => whnf)
      | ((with_reducible refine Split.nez (fun _ => ?_) (fun _ => ?_)) <;> conv => whnf)
      | ((with_reducible refine Split.eqz (fun _ => ?_) (fun _ => ?_)) <;> conv => whnf)
      | ((with_reducible refine Split.and ?_))
      | ((with_reducible refine Split.or ?_))
      | ((with_reducible refine Split.streq (fun _ => ?_) (fun _ => ?_)) <;> conv => whnf)
      | ((with_reducible refine Split.dec (fun _ => ?_) (fun _ => ?_)) <;> conv => whnf)
      | ((with_reducible refine Split.mk (fun _ => ?_) (fun _ => ?_)) <;> conv => whnf)
      | ((with_reducible refine Need.mk ?_ ?_); (first | omega | rfl | decide | (refine ⟨?_, ?_⟩ <;> simp <;> omega) | (simp; omega)); conv => whnf)
      | ((with_reducible refine Wr.quo ?_ ?_ ?_ ?_); omega; omega; omega; conv => whnf)
      | ((with_reducible refine Wr.inr ?_ ?_); (first | omega | (simp; omega)); conv => whnf)
      | ((with_reducible refine Wr.inu ?_ ?_); omega; conv => whnf)
      | (exfalso; first | omega | contradiction))
    rfl
theorem maxI_le (a b : Int) : a ≤ maxI a b ∧ b ≤ maxI a b ∧ (maxI a b = a ∨ maxI a b = b) := by unfold maxI; split <;> omega
def fl (g : Ga) (m : Mk) : Int := (meanS g m.m).1 / (meanS g m.m).2.1
def cl (g : Ga) (m : Mk) : Int := upZ (meanS g m.m).1 (meanS g m.m).2.1
theorem need_facts (g : Ga) (l : List Mk) : ∀ k, k ≤ l.length → g.err ≤ needT g l k ∧ (∀ (j : Nat) m, j < k → l[j]? = some m → fl g m - m.l ≤ needT g l k ∧ m.l - cl g m ≤ needT g l k) ∧
    (needT g l k = g.err ∨ ∃ (j : Nat) (m : Mk), j < k ∧ l[j]? = some m ∧ (needT g l k = fl g m - m.l ∨ needT g l k = m.l - cl g m))
  | 0, _ => ⟨Int.le_refl _, fun j m h => absurd h (by omega), .inl rfl⟩
  | k + 1, hk => by
    obtain ⟨h1, h2, h3⟩ := need_facts g l k (by omega)
    obtain ⟨m, hm⟩ := some_of_lt (l := l) (i := k) (by omega)
    have e : needT g l (k + 1) = maxI (maxI (needT g l k) (fl g m - m.l)) (m.l - cl g m) := by simp only [needT, hm, fl, cl]
    rw [e]
    have a := maxI_le (needT g l k) (fl g m - m.l)
    have b := maxI_le (maxI (needT g l k) (fl g m - m.l)) (m.l - cl g m)
    generalize maxI (needT g l k) (fl g m - m.l) = u at *
    generalize maxI u (m.l - cl g m) = v at *
    refine ⟨by omega, ?_, ?_⟩
    · intro j x hj hx
      by_cases ej : j = k
      · subst ej
        rw [hm] at hx; cases hx
        omega
      · have := h2 j x (by omega) hx
        omega
    · rcases b.2.2 with h | h
      · rcases a.2.2 with h' | h'
        · rcases h3 with h3 | ⟨j, x, hj, hx, h3⟩
          · exact .inl (by omega)
          · exact .inr ⟨j, x, by omega, hx, by omega⟩
        · exact .inr ⟨k, m, by omega, hm, .inl (by omega)⟩
      · exact .inr ⟨k, m, by omega, hm, .inr (by omega)⟩
end Go.Proofs.Try
