import Derived.Test.YtcgfcbmlmfbknaaTwQ
namespace Go.Proofs.Try
open Go Go.Vm
set_option maxRecDepth 20000
set_option maxHeartbeats 2000000
theorem win_sep (l : List Ga) (x : Int) (p : Int → Int → Bool) (a : Int) : ∀ k o y, winS l x p a k = o ++ [y] → ∀ z ∈ o, z.2 < y.1
  | 0, o, y, h => by simp [winS] at h
  | k + 1, o, y, h => by
    have ih := win_sep l x p a k
    have hin := win_in l x p a k
    have hlt := win_lt l x p a k
    rw [winS] at h
    split at h
    · rcases nil_or_snoc (winS l x p a k) with e | ⟨o', y', e⟩
      · rw [e] at h
        obtain ⟨rfl, -⟩ := List.append_inj' (show ([] : List (Int × Int)) ++ [(a + (k : Int), a + (k : Int))] = o ++ [y] from h) rfl
        intro z hz; cases hz
      · rw [e, wAdd_snoc] at h
        split at h
        · obtain ⟨rfl, h2⟩ := List.append_inj' h rfl
          simp only [List.cons.injEq, and_true] at h2
          subst h2
          exact ih o' y' e
        · obtain ⟨rfl, h2⟩ := List.append_inj' h rfl
          simp only [List.cons.injEq, and_true] at h2
          subst h2
          intro z hz
          exact hlt z (by rw [e]; exact hz)
    · exact ih o y h
theorem win_good (l : List Ga) (x : Int) (p : Int → Int → Bool) (a : Int) : ∀ k, ∀ z ∈ winS l x p a k, ∀ t, z.1 ≤ t → t ≤ z.2 → gdB l x p t = true
  | 0, z, h => by cases h
  | k + 1, z, h => by
    have ih := win_good l x p a k
    rw [winS] at h
    split at h
    · rename_i hg
      rcases nil_or_snoc (winS l x p a k) with e | ⟨o, y, e⟩
      · rw [e] at h; simp [wAdd] at h; subst h
        intro t h1 h2
        dsimp only at h1 h2
        rw [show t = a + k by omega]; exact hg
      · rw [e] at ih h
        rw [wAdd_snoc] at h
        split at h
        · rename_i hy
          rcases List.mem_append.1 h with h | h
          · exact ih z (by simp [h])
          · rw [List.mem_singleton.1 h]
            intro t h1 h2
            dsimp only at h1 h2
            by_cases ht : t = a + k
            · rw [ht]; exact hg
            · exact ih y (by simp) t h1 (by omega)
        · rcases List.mem_append.1 h with h | h
          · exact ih z h
          · rw [List.mem_singleton.1 h]
            intro t h1 h2
            dsimp only at h1 h2
            rw [show t = a + k by omega]; exact hg
    · exact ih z h
theorem win_cov (l : List Ga) (x : Int) (p : Int → Int → Bool) (a : Int) : ∀ (k : Nat) (t0 t1 : Int), a ≤ t0 → t0 ≤ t1 → t1 < a + k → (∀ t, t0 ≤ t → t ≤ t1 → gdB l x p t = true) → ∃ z ∈ winS l x p a k, z.1 ≤ t0 ∧ t1 ≤ z.2
  | 0, t0, t1, h1, h2, h3, _ => by omega
  | k + 1, t0, t1, h1, h2, h3, h4 => by
    have ih := win_cov l x p a k
    have hin := win_in l x p a k
    have hsep := win_sep l x p a k
    rw [winS]
    by_cases ht : t1 = a + k
    · have hg := h4 t1 h2 (by omega)
      rw [ht] at hg
      rw [if_pos hg]
      rcases nil_or_snoc (winS l x p a k) with e | ⟨o, y, e⟩
      · by_cases h0 : t0 = a + k
        · rw [e]; exact ⟨(a + k, a + k), by simp [wAdd], by dsimp only; omega⟩
        · obtain ⟨z, hz, -⟩ := ih t0 (a + k - 1) h1 (by omega) (by omega) (fun t h5 h6 => h4 t h5 (by omega))
          rw [e] at hz; cases hz
      · by_cases h0 : t0 = a + k
        · rw [e, wAdd_snoc]
          split
          · have := hin y (by rw [e]; simp)
            exact ⟨(y.1, a + k), by simp, by dsimp only; omega⟩
          · exact ⟨(a + k, a + k), by simp, by dsimp only; omega⟩
        · obtain ⟨z, hz, k1, k2⟩ := ih t0 (a + k - 1) h1 (by omega) (by omega) (fun t h5 h6 => h4 t h5 (by omega))
          have hzi := hin z hz
          have hyi := hin y (by rw [e]; simp)
          rw [e] at hz
          have hzy : z = y := by
            rcases List.mem_append.1 hz with hz | hz
            · have := hsep o y e z hz; omega
            · exact List.mem_singleton.1 hz
          subst hzy
          rw [e, wAdd_snoc, if_pos (by omega)]
          exact ⟨(z.1, a + k), by simp, by dsimp only; omega⟩
    · obtain ⟨z, hz, k1, k2⟩ := ih t0 t1 h1 h2 (by omega) h4
      split
      · rcases nil_or_snoc (winS l x p a k) with e | ⟨o, y, e⟩
        · rw [e] at hz; cases hz
        · rw [e] at hz ⊢
          rw [wAdd_snoc]
          split
          · rcases List.mem_append.1 hz with hz | hz
            · exact ⟨z, by simp [hz], k1, k2⟩
            · rw [List.mem_singleton.1 hz] at k1 k2
              exact ⟨(y.1, a + k), by simp, by dsimp only; omega⟩
          · exact ⟨z, List.mem_append_left _ hz, k1, k2⟩
      · exact ⟨z, hz, k1, k2⟩
def coversB (big small : List (Int × Int)) : Bool := small.all fun s => big.any fun b => decide (b.1 ≤ s.1) && decide (s.2 ≤ b.2)
theorem win_covers {l l' : List Ga} {x : Int} {p p' : Int → Int → Bool} {a : Int} {k : Nat} (h : ∀ t, a ≤ t → t < a + k → gdB l x p t = true → gdB l' x p' t = true) : coversB (winS l' x p' a k) (winS l x p a k) = true := by
  rw [coversB, List.all_eq_true]
  intro s hs
  have hi := win_in _ _ _ _ _ s hs
  obtain ⟨z, hz, h1, h2⟩ := win_cov l' x p' a k s.1 s.2 hi.1 hi.2.1 hi.2.2 (fun t h1 h2 => h t (by omega) (by omega) (win_good _ _ _ _ _ s hs t h1 h2))
  exact List.any_eq_true.2 ⟨z, hz, by simp [h1, h2]⟩
theorem bool_congr {b b' : Bool} (h : b = b') : AV.d (.bool b) = AV.d (.bool b') := by rw [h]
theorem ev_covers (b s : List (Int × Int)) (hb : b.length ≤ 1000000) (hs : s.length ≤ 1000000) : Ev Try.prog 46 [.sl 2 (b.map wD), .sl 2 (s.map wD)] (.bool (coversB b s)) := by
  have hlb : (b.map wD).length = b.length := List.length_map _
  have hls : (s.map wD).length = s.length := List.length_map _
  refine ev_of_awp tysOk mixed (fn := Try.f46) Try.func46 rfl rfl rfl ?_
  conv => whnf
  repeat' (first
    | ((with_reducible refine Split.of_true ?_); conv => whnf)
    | ((with_reducible refine Split.of_false ?_); conv => whnf)
    | ((with_reducible refine Split.neg ?_))
    | ((with_reducible refine Split.is_true ?_ ?_); decide; conv => whnf)
    | ((with_reducible refine Split.is_false ?_ ?_); decide; conv => whnf)
    | ((with_reducible refine Split.nez (fun _ => ?_) (fun _ => ?_)) <;> conv => whnf)
    | ((with_reducible refine Split.eqz (fun _ => ?_) (fun _ => ?_)) <;> conv => whnf)
    | ((with_reducible refine Split.and ?_))
    | ((with_reducible refine Split.or ?_))
    | ((with_reducible refine Split.streq (fun _ => ?_) (fun _ => ?_)) <;> conv => whnf)
    | ((with_reducible refine Split.dec (fun _ => ?_) (fun _ => ?_)) <;> conv => whnf)
    | ((with_reducible refine Split.mk (fun _ => ?_) (fun _ => ?_)) <;> conv => whnf)
    | ((with_reducible refine Need.mk ?_ ?_); (first | omega | rfl | decide | (refine ⟨?_, ?_⟩ <;> simp <;> omega) | (simp; omega)); conv => whnf)
    | ((with_reducible refine Wr.quo ?_ ?_ ?_ ?_); omega; omega; omega; conv => whnf)
    | ((with_reducible refine Wr.inr ?_ ?_); (first | omega | (simp; omega)); conv => whnf)
    | ((with_reducible refine Wr.inu ?_ ?_); omega; conv => whnf)
    | (exfalso; first | omega | contradiction))
  refine LoopK.o2 (fun i : Nat => i ≤ s.length ∧ coversB b (s.take i) = true) (fun i => [(5, .d (.int .i64 i))]) (fun _ => []) (fun i => s.length - i) 0 (by simp [coversB]) ⟨by (repeat' (first | exact True.intro | exact rfl | refine ⟨?_, ?_⟩ | (intro h; cases h; done) | (intro h; exact h) | exact map_snoc | (refine own_congr ?_; simp; done) | (refine int_congr ?_; (first | omega | (simp; omega))) | (simp; done))), by (repeat' (first | exact True.intro | exact rfl | refine ⟨?_, ?_⟩ | (intro h; cases h; done) | (intro h; exact h) | exact map_snoc | (refine own_congr ?_; simp; done) | (refine int_congr ?_; (first | omega | (simp; omega))) | (simp; done))), rfl⟩ ?_
  rintro i ⟨hi, hp⟩
  have hn : (i : Int) < s.length → ∃ m, s[i]? = some m := fun h => some_of_lt (by omega)
  conv => whnf
  repeat' (first
    | ((with_reducible refine Split.of_true ?_); conv => whnf)
    | ((with_reducible refine Split.of_false ?_); conv => whnf)
    | ((with_reducible refine Split.neg ?_))
    | ((with_reducible refine Split.is_true ?_ ?_); decide; conv => whnf)
    | ((with_reducible refine Split.is_false ?_ ?_); decide; conv => whnf)
    | ((with_reducible refine Split.nez (fun _ => ?_) (fun _ => ?_)) <;> conv => whnf)
    | ((with_reducible refine Split.eqz (fun _ => ?_) (fun _ => ?_)) <;> conv => whnf)
    | ((with_reducible refine Split.and ?_))
    | ((with_reducible refine Split.or ?_))
    | ((with_reducible refine Split.streq (fun _ => ?_) (fun _ => ?_)) <;> conv => whnf)
    | ((with_reducible refine Split.dec (fun _ => ?_) (fun _ => ?_)) <;> conv => whnf)
    | ((with_reducible refine Split.mk (fun _ => ?_) (fun _ => ?_)) <;> conv => whnf)
    | ((with_reducible refine Need.mk ?_ ?_); (first | omega | rfl | decide | (refine ⟨?_, ?_⟩ <;> simp <;> omega) | (simp; omega)); conv => whnf)
    | ((with_reducible refine Wr.quo ?_ ?_ ?_ ?_); omega; omega; omega; conv => whnf)
    | ((with_reducible refine Wr.inr ?_ ?_); (first | omega | (simp; omega)); conv => whnf)
    | ((with_reducible refine Wr.inu ?_ ?_); omega; conv => whnf)
    | (exfalso; first | omega | contradiction))
  · obtain ⟨z, hz⟩ := hn (by omega)
    refine LoopK.o2 (fun x : Nat × Bool => x.1 ≤ b.length ∧ ((b.take x.1).any fun b => decide (b.1 ≤ z.1) && decide (z.2 ≤ b.2)) = x.2) (fun x => [(7, .d (.int .i64 x.1)), (6, .d (.bool x.2))]) (fun _ => []) (fun x => b.length - x.1) (0, false) (by simp) ⟨by (repeat' (first | exact True.intro | exact rfl | refine ⟨?_, ?_⟩ | (intro h; cases h; done) | (intro h; exact h) | exact map_snoc | (refine own_congr ?_; simp; done) | (refine int_congr ?_; (first | omega | (simp; omega))) | (simp; done))), by (repeat' (first | exact True.intro | exact rfl | refine ⟨?_, ?_⟩ | (intro h; cases h; done) | (intro h; exact h) | exact map_snoc | (refine own_congr ?_; simp; done) | (refine int_congr ?_; (first | omega | (simp; omega))) | (simp; done))), rfl⟩ ?_
    rintro ⟨k, q⟩ ⟨hk, hq⟩
    dsimp only at hk hq ⊢
    by_cases hkl : k < b.length
    · obtain ⟨y, hy⟩ := some_of_lt hkl
      have hs : ((b.take (k + 1)).any fun b => decide (b.1 ≤ z.1) && decide (z.2 ≤ b.2)) = (q || (decide (y.1 ≤ z.1) && decide (z.2 ≤ y.2))) := by
        rw [← hq, take_snoc hy, List.any_append]; simp
      cases q with
      | true =>
        rw [Bool.true_or] at hs
        conv => whnf
        repeat' (first
          | ((refine PickE.map k hy (by omega) ?_); conv => whnf)
          | ((refine PickE.map i hz (by omega) ?_); conv => whnf)
          | ((with_reducible refine Split.of_true ?_); conv => whnf)
          | ((with_reducible refine Split.of_false ?_); conv => whnf)
          | ((with_reducible refine Split.neg ?_))
          | ((with_reducible refine Split.is_true ?_ ?_); decide; conv => whnf)
          | ((with_reducible refine Split.is_false ?_ ?_); decide; conv => whnf)
          | ((with_reducible refine Split.nez (fun _ => ?_) (fun _ => ?_)) <;> conv => whnf)
          | ((with_reducible refine Split.eqz (fun _ => ?_) (fun _ => ?_)) <;> conv => whnf)
          | ((with_reducible refine Split.and ?_))
          | ((with_reducible refine Split.or ?_))
          | ((with_reducible refine Split.streq (fun _ => ?_) (fun _ => ?_)) <;> conv => whnf)
          | ((with_reducible refine Split.dec (fun _ => ?_) (fun _ => ?_)) <;> conv => whnf)
          | ((with_reducible refine Split.mk (fun _ => ?_) (fun _ => ?_)) <;> conv => whnf)
          | ((with_reducible refine Need.mk ?_ ?_); (first | omega | rfl | decide | (refine ⟨?_, ?_⟩ <;> simp <;> omega) | (simp; omega)); conv => whnf)
          | ((with_reducible refine Wr.quo ?_ ?_ ?_ ?_); omega; omega; omega; conv => whnf)
          | ((with_reducible refine Wr.inr ?_ ?_); (first | omega | (simp; omega)); conv => whnf)
          | ((with_reducible refine Wr.inu ?_ ?_); omega; conv => whnf)
          | (exfalso; first | omega | contradiction))
        exact Again.au (k + 1, true) ⟨by dsimp only; omega, hs⟩ (by dsimp only; omega) ⟨by (repeat' (first | exact True.intro | exact rfl | refine ⟨?_, ?_⟩ | (intro h; cases h; done) | (intro h; exact h) | exact map_snoc | (refine own_congr ?_; simp; done) | (refine int_congr ?_; (first | omega | (simp; omega))) | (simp; done))), by (repeat' (first | exact True.intro | exact rfl | refine ⟨?_, ?_⟩ | (intro h; cases h; done) | (intro h; exact h) | exact map_snoc | (refine own_congr ?_; simp; done) | (refine int_congr ?_; (first | omega | (simp; omega))) | (simp; done))), rfl⟩
      | false =>
        rw [Bool.false_or] at hs
        by_cases h1 : y.1 ≤ z.1
        · by_cases h2 : z.2 ≤ y.2
          · rw [decide_eq_true h1, decide_eq_true h2] at hs
            conv => whnf
            repeat' (first
              | ((refine PickE.map k hy (by omega) ?_); conv => whnf)
              | ((refine PickE.map i hz (by omega) ?_); conv => whnf)
              | ((with_reducible refine Split.of_true ?_); conv => whnf)
              | ((with_reducible refine Split.of_false ?_); conv => whnf)
              | ((with_reducible refine Split.neg ?_))
              | ((with_reducible refine Split.is_true ?_ ?_); decide; conv => whnf)
              | ((with_reducible refine Split.is_false ?_ ?_); decide; conv => whnf)
              | ((with_reducible refine Split.nez (fun _ => ?_) (fun _ => ?_)) <;> conv => whnf)
              | ((with_reducible refine Split.eqz (fun _ => ?_) (fun _ => ?_)) <;> conv => whnf)
              | ((with_reducible refine Split.and ?_))
              | ((with_reducible refine Split.or ?_))
              | ((with_reducible refine Split.streq (fun _ => ?_) (fun _ => ?_)) <;> conv => whnf)
              | ((with_reducible refine Split.dec (fun _ => ?_) (fun _ => ?_)) <;> conv => whnf)
              | ((with_reducible refine Split.mk (fun _ => ?_) (fun _ => ?_)) <;> conv => whnf)
              | ((with_reducible refine Need.mk ?_ ?_); (first | omega | rfl | decide | (refine ⟨?_, ?_⟩ <;> simp <;> omega) | (simp; omega)); conv => whnf)
              | ((with_reducible refine Wr.quo ?_ ?_ ?_ ?_); omega; omega; omega; conv => whnf)
              | ((with_reducible refine Wr.inr ?_ ?_); (first | omega | (simp; omega)); conv => whnf)
              | ((with_reducible refine Wr.inu ?_ ?_); omega; conv => whnf)
              | (exfalso; first | omega | contradiction))
            exact Again.au (k + 1, true) ⟨by dsimp only; omega, hs⟩ (by dsimp only; omega) ⟨by (repeat' (first | exact True.intro | exact rfl | refine ⟨?_, ?_⟩ | (refine int_congr ?_; omega) | (refine bool_congr ?_; simp; omega))), by (repeat' (first | exact True.intro | exact rfl | refine ⟨?_, ?_⟩ | (intro h; cases h; done) | (intro h; exact h))), rfl⟩
          · rw [decide_eq_true h1, decide_eq_false h2] at hs
            conv => whnf
            repeat' (first
              | ((refine PickE.map k hy (by omega) ?_); conv => whnf)
              | ((refine PickE.map i hz (by omega) ?_); conv => whnf)
              | ((with_reducible refine Split.of_true ?_); conv => whnf)
              | ((with_reducible refine Split.of_false ?_); conv => whnf)
              | ((with_reducible refine Split.neg ?_))
              | ((with_reducible refine Split.is_true ?_ ?_); decide; conv => whnf)
              | ((with_reducible refine Split.is_false ?_ ?_); decide; conv => whnf)
              | ((with_reducible refine Split.nez (fun _ => ?_) (fun _ => ?_)) <;> conv => whnf)
              | ((with_reducible refine Split.eqz (fun _ => ?_) (fun _ => ?_)) <;> conv => whnf)
              | ((with_reducible refine Split.and ?_))
              | ((with_reducible refine Split.or ?_))
              | ((with_reducible refine Split.streq (fun _ => ?_) (fun _ => ?_)) <;> conv => whnf)
              | ((with_reducible refine Split.dec (fun _ => ?_) (fun _ => ?_)) <;> conv => whnf)
              | ((with_reducible refine Split.mk (fun _ => ?_) (fun _ => ?_)) <;> conv => whnf)
              | ((with_reducible refine Need.mk ?_ ?_); (first | omega | rfl | decide | (refine ⟨?_, ?_⟩ <;> simp <;> omega) | (simp; omega)); conv => whnf)
              | ((with_reducible refine Wr.quo ?_ ?_ ?_ ?_); omega; omega; omega; conv => whnf)
              | ((with_reducible refine Wr.inr ?_ ?_); (first | omega | (simp; omega)); conv => whnf)
              | ((with_reducible refine Wr.inu ?_ ?_); omega; conv => whnf)
              | (exfalso; first | omega | contradiction))
            exact Again.au (k + 1, false) ⟨by dsimp only; omega, hs⟩ (by dsimp only; omega) ⟨by (repeat' (first | exact True.intro | exact rfl | refine ⟨?_, ?_⟩ | (refine int_congr ?_; omega) | (refine bool_congr ?_; simp; omega))), by (repeat' (first | exact True.intro | exact rfl | refine ⟨?_, ?_⟩ | (intro h; cases h; done) | (intro h; exact h))), rfl⟩
        · rw [decide_eq_false h1, Bool.false_and] at hs
          conv => whnf
          repeat' (first
            | ((refine PickE.map k hy (by omega) ?_); conv => whnf)
            | ((refine PickE.map i hz (by omega) ?_); conv => whnf)
            | ((with_reducible refine Split.of_true ?_); conv => whnf)
            | ((with_reducible refine Split.of_false ?_); conv => whnf)
            | ((with_reducible refine Split.neg ?_))
            | ((with_reducible refine Split.is_true ?_ ?_); decide; conv => whnf)
            | ((with_reducible refine Split.is_false ?_ ?_); decide; conv => whnf)
            | ((with_reducible refine Split.nez (fun _ => ?_) (fun _ => ?_)) <;> conv => whnf)
            | ((with_reducible refine Split.eqz (fun _ => ?_) (fun _ => ?_)) <;> conv => whnf)
            | ((with_reducible refine Split.and ?_))
            | ((with_reducible refine Split.or ?_))
            | ((with_reducible refine Split.streq (fun _ => ?_) (fun _ => ?_)) <;> conv => whnf)
            | ((with_reducible refine Split.dec (fun _ => ?_) (fun _ => ?_)) <;> conv => whnf)
            | ((with_reducible refine Split.mk (fun _ => ?_) (fun _ => ?_)) <;> conv => whnf)
            | ((with_reducible refine Need.mk ?_ ?_); (first | omega | rfl | decide | (refine ⟨?_, ?_⟩ <;> simp <;> omega) | (simp; omega)); conv => whnf)
            | ((with_reducible refine Wr.quo ?_ ?_ ?_ ?_); omega; omega; omega; conv => whnf)
            | ((with_reducible refine Wr.inr ?_ ?_); (first | omega | (simp; omega)); conv => whnf)
            | ((with_reducible refine Wr.inu ?_ ?_); omega; conv => whnf)
            | (exfalso; first | omega | contradiction))
          exact Again.au (k + 1, false) ⟨by dsimp only; omega, hs⟩ (by dsimp only; omega) ⟨by (repeat' (first | exact True.intro | exact rfl | refine ⟨?_, ?_⟩ | (intro h; cases h; done) | (intro h; exact h) | exact map_snoc | (refine own_congr ?_; simp; done) | (refine int_congr ?_; (first | omega | (simp; omega))) | (simp; done))), by (repeat' (first | exact True.intro | exact rfl | refine ⟨?_, ?_⟩ | (intro h; cases h; done) | (intro h; exact h) | exact map_snoc | (refine own_congr ?_; simp; done) | (refine int_congr ?_; (first | omega | (simp; omega))) | (simp; done))), rfl⟩
    · rw [List.take_of_length_le (by omega)] at hq
      have hc : coversB b (s.take (i + 1)) = (coversB b (s.take i) && q) := by
        rw [← hq]; simp only [coversB]; rw [take_snoc hz, List.all_append]; simp
      cases q with
      | true =>
        conv => whnf
        repeat' (first
          | ((with_reducible refine Split.of_true ?_); conv => whnf)
          | ((with_reducible refine Split.of_false ?_); conv => whnf)
          | ((with_reducible refine Split.neg ?_))
          | ((with_reducible refine Split.is_true ?_ ?_); decide; conv => whnf)
          | ((with_reducible refine Split.is_false ?_ ?_); decide; conv => whnf)
          | ((with_reducible refine Split.nez (fun _ => ?_) (fun _ => ?_)) <;> conv => whnf)
          | ((with_reducible refine Split.eqz (fun _ => ?_) (fun _ => ?_)) <;> conv => whnf)
          | ((with_reducible refine Split.and ?_))
          | ((with_reducible refine Split.or ?_))
          | ((with_reducible refine Split.streq (fun _ => ?_) (fun _ => ?_)) <;> conv => whnf)
          | ((with_reducible refine Split.dec (fun _ => ?_) (fun _ => ?_)) <;> conv => whnf)
          | ((with_reducible refine Split.mk (fun _ => ?_) (fun _ => ?_)) <;> conv => whnf)
          | ((with_reducible refine Need.mk ?_ ?_); (first | omega | rfl | decide | (refine ⟨?_, ?_⟩ <;> simp <;> omega) | (simp; omega)); conv => whnf)
          | ((with_reducible refine Wr.quo ?_ ?_ ?_ ?_); omega; omega; omega; conv => whnf)
          | ((with_reducible refine Wr.inr ?_ ?_); (first | omega | (simp; omega)); conv => whnf)
          | ((with_reducible refine Wr.inu ?_ ?_); omega; conv => whnf)
          | (exfalso; first | omega | contradiction))
        exact Again.au (i + 1) ⟨by omega, by rw [hc, hp]; rfl⟩ (by omega) ⟨by (repeat' (first | exact True.intro | exact rfl | refine ⟨?_, ?_⟩ | (intro h; cases h; done) | (intro h; exact h) | exact map_snoc | (refine own_congr ?_; simp; done) | (refine int_congr ?_; (first | omega | (simp; omega))) | (simp; done))), by (repeat' (first | exact True.intro | exact rfl | refine ⟨?_, ?_⟩ | (intro h; cases h; done) | (intro h; exact h) | exact map_snoc | (refine own_congr ?_; simp; done) | (refine int_congr ?_; (first | omega | (simp; omega))) | (simp; done))), rfl⟩
      | false =>
        conv => whnf
        repeat' (first
          | ((with_reducible refine Split.of_true ?_); conv => whnf)
          | ((with_reducible refine Split.of_false ?_); conv => whnf)
          | ((with_reducible refine Split.neg ?_))
          | ((with_reducible refine Split.is_true ?_ ?_); decide; conv => whnf)
          | ((with_reducible refine Split.is_false ?_ ?_); decide; conv => whnf)
          | ((with_reducible refine Split.nez (fun _ => ?_) (fun _ => ?_)) <;> conv => whnf)
          | ((with_reducible refine Split.eqz (fun _ => ?_) (fun _ => ?_)) <;> conv => whnf)
          | ((with_reducible refine Split.and ?_))
          | ((with_reducible refine Split.or ?_))
          | ((with_reducible refine Split.streq (fun _ => ?_) (fun _ => ?_)) <;> conv => whnf)
          | ((with_reducible refine Split.dec (fun _ => ?_) (fun _ => ?_)) <;> conv => whnf)
          | ((with_reducible refine Split.mk (fun _ => ?_) (fun _ => ?_)) <;> conv => whnf)
          | ((with_reducible refine Need.mk ?_ ?_); (first | omega | rfl | decide | (refine ⟨?_, ?_⟩ <;> simp <;> omega) | (simp; omega)); conv => whnf)
          | ((with_reducible refine Wr.quo ?_ ?_ ?_ ?_); omega; omega; omega; conv => whnf)
          | ((with_reducible refine Wr.inr ?_ ?_); (first | omega | (simp; omega)); conv => whnf)
          | ((with_reducible refine Wr.inu ?_ ?_); omega; conv => whnf)
          | (exfalso; first | omega | contradiction))
        have : coversB b s = false := by
          rw [coversB, List.all_eq_false]
          exact ⟨z, List.mem_of_getElem? hz, by rw [hq]; decide⟩
        rw [this]; rfl
  · rw [List.take_of_length_le (by omega)] at hp
    rw [hp]; rfl
end Go.Proofs.Try
