import Derived.Test.YticnipadahihhaaTvI
import Derived.Test.YticnipadahihhaaTwH
namespace Go.Proofs.Try
open Go Go.Vm
set_option maxRecDepth 20000
set_option maxHeartbeats 8000000
/-! TideMerges. -/
theorem mergeS_eq {a b : Ga} {L : List Mk} (h1 : gErr a = 0) (h2 : gErr b = 0) (hn : a.name = b.name) (hx : a.x = b.x) (he : a.err = b.err) (hm : mref a.marks b.marks = some L) (hL : L.length ≤ 400) : mergeS a b = ({ a with marks := L }, 0) := by
  unfold mergeS
  rw [if_neg (by simp [h1]), if_neg (by simp [h2]), if_neg (by simp [hn, hx, he]), hm]
  dsimp only
  rw [if_neg (by omega)]
theorem mergeS_zero {a b : Ga} (h : (mergeS a b).2 = 0) : ∃ L, gErr a = 0 ∧ gErr b = 0 ∧ a.name = b.name ∧ a.x = b.x ∧ a.err = b.err ∧ mref a.marks b.marks = some L ∧ L.length ≤ 400 := by
  unfold mergeS at h
  by_cases h1 : gErr a ≠ 0
  · rw [if_pos h1] at h; exact absurd h h1
  rw [if_neg h1] at h
  by_cases h2 : gErr b ≠ 0
  · rw [if_pos h2] at h; exact absurd h h2
  rw [if_neg h2] at h
  by_cases h3 : a.name ≠ b.name ∨ a.x ≠ b.x ∨ a.err ≠ b.err
  · rw [if_pos h3] at h; cases h
  rw [if_neg h3] at h
  have hn : a.name = b.name := Classical.byContradiction fun h => h3 (.inl h)
  have hx : a.x = b.x := Classical.byContradiction fun h => h3 (.inr (.inl h))
  have he : a.err = b.err := Classical.byContradiction fun h => h3 (.inr (.inr h))
  cases hm : mref a.marks b.marks with
  | none => rw [hm] at h; cases h
  | some L =>
    rw [hm] at h
    dsimp only at h
    by_cases h4 : 400 < L.length
    · rw [if_pos h4] at h; cases h
    · exact ⟨L, by omega, by omega, hn, hx, he, rfl, by omega⟩
theorem mergeS_ok {a b : Ga} (h : (mergeS a b).2 = 0) : mergeS b a = mergeS a b ∧ mergeS (mergeS a b).1 a = mergeS a b ∧ (mergeS a b).1.marks.length ≤ 400 := by
  obtain ⟨L, h1, h2, hn, hx, he, hm, hL⟩ := mergeS_zero h
  have e1 := mergeS_eq h1 h2 hn hx he hm hL
  have e2 := mergeS_eq h2 h1 hn.symm hx.symm he.symm (by rw [mref_comm]; exact hm) hL
  have g1 := good_of h1
  have g2 := good_of h2
  have hz : gErr { a with marks := L } = 0 := by
    refine gErr_parts.2 ⟨(gErr_parts.1 h1).1, ⟨g1.err, g1.x, hL, fun m hmm => ?_, mref_asc hm g1.asc g2.asc⟩⟩
    rcases mref_mem hm m hmm with h | h
    · exact g1.ok m h
    · exact g2.ok m h
  have e3 := mergeS_eq (a := { a with marks := L }) (b := a) hz h1 rfl rfl rfl (mref_again hm) hL
  rw [e1]
  refine ⟨?_, e3, hL⟩
  rw [e2, hn, hx, he]
theorem mergeS_len {a b : Ga} : (mergeS a b).1.marks.length < 1000000 := by
  by_cases h : (mergeS a b).2 = 0
  · have := (mergeS_ok h).2.2; omega
  · unfold mergeS at h ⊢
    split
    · exact gz_len
    · rename_i h1
      rw [if_neg h1] at h
      split
      · exact gz_len
      · rename_i h2
        rw [if_neg h2] at h
        split
        · exact gz_len
        · rename_i h3
          rw [if_neg h3] at h
          cases hm : mref a.marks b.marks with
          | none => exact gz_len
          | some L =>
            rw [hm] at h
            dsimp only at h ⊢
            split
            · exact gz_len
            · rename_i h4
              rw [if_neg h4] at h
              exact absurd rfl h
theorem ev_TideMerges (a b : Ga) : Ev Try.prog 3 [gD a, gD b] (.bool true) := by
  have hM := ev_Merge a b
  have hR := ev_MergeR a b
  have hE := ev_same (mergeS a b).1 (mergeS a b).1 mergeS_len
  rw [eqB_self] at hE
  by_cases h0 : (mergeS a b).2 = 0
  · obtain ⟨k1, k2, -⟩ := mergeS_ok h0
    have hN := ev_Merge b a
    have hA := ev_Merge (mergeS a b).1 a
    rw [k1] at hN
    rw [k2] at hA
    unfold mgD at hM hR hN hA
    rw [h0] at hM hR hN hA
    generalize (mergeS a b).1 = m at *
    clear k1 k2
    refine ev_of_awp tysOk mixed (fn := Try.f3) Try.func3 rfl rfl rfl ?_
    conv => whnf
    repeat' (first
      | ((with_reducible refine Split.of_true ?_); conv => whnf)
      | ((with_reducible refine Split.of_false ?_); conv => whnf)
      | ((with_reducible refine Split.neg ?_))
      | ((with_reducible refine Split.is_true ?_ ?_); decide; conv => whnf)
      | ((with_reducible refine Split.is_false ?_ ?_); decide; conv => whnf)
      | ((with_reducible refine Split.nez (fun _ => ?_) (fun _ => ?_)) <;> conv => whnf)
      | ((with_reducible refine Split.eqz (fun _ => ?_) (fun _ => ?_)) <;> conv => whnf)
      | ((with_reducible refine Split.and ?_))
      | ((with_reducible refine Split.or ?_))
      | ((with_reducible refine Split.streq (fun _ => ?_) (fun _ => ?_)) <;> conv => whnf)
      | ((with_reducible refine Split.dec (fun _ => ?_) (fun _ => ?_)) <;> conv => whnf)
      | ((with_reducible refine Split.mk (fun _ => ?_) (fun _ => ?_)) <;> conv => whnf)
      | ((with_reducible refine NilK.mk (fun _ => ?_) ?_) <;> conv => whnf)
      | ((with_reducible refine AltK.l ?_); (conv => whnf); (with_reducible refine Need.mk ?_ ?_); (first | omega | (refine ⟨?_, ?_⟩ <;> simp <;> omega) | (simp; omega)); conv => whnf)
      | ((with_reducible refine Need.mk ?_ ?_); (first | omega | rfl | decide | (refine ⟨?_, ?_⟩ <;> simp <;> omega) | (simp; omega)); conv => whnf)
      | ((with_reducible refine Wr.quo ?_ ?_ ?_ ?_); omega; omega; omega; conv => whnf)
      | ((with_reducible refine Wr.inr ?_ ?_); (first | omega | (simp; omega)); conv => whnf)
      | ((with_reducible refine Wr.inu ?_ ?_); omega; conv => whnf)
      | ((with_reducible refine AltK.l ?_); (conv => whnf); (first | (refine CallK.mk _ (ev_awake) ?_) | (refine CallK.mk _ (ev_Short a) ?_) | (refine CallK.mk _ (ev_Short b) ?_) | (refine CallK.mk _ (hM) ?_) | (refine CallK.mk _ (hR) ?_) | (refine CallK.mk _ (hE) ?_) | (refine CallK.mk _ (hN) ?_) | (refine CallK.mk _ (hA) ?_)); conv => whnf)
      | (exfalso; first | omega | contradiction))
    all_goals first | rfl | simp [retOf]
  · unfold mgD at hM hR
    generalize (mergeS a b).1 = m at *
    generalize (mergeS a b).2 = e at *
    refine ev_of_awp tysOk mixed (fn := Try.f3) Try.func3 rfl rfl rfl ?_
    conv => whnf
    repeat' (first
      | ((with_reducible refine Split.of_true ?_); conv => whnf)
      | ((with_reducible refine Split.of_false ?_); conv => whnf)
      | ((with_reducible refine Split.neg ?_))
      | ((with_reducible refine Split.is_true ?_ ?_); decide; conv => whnf)
      | ((with_reducible refine Split.is_false ?_ ?_); decide; conv => whnf)
      | ((with_reducible refine Split.nez (fun _ => ?_) (fun _ => ?_)) <;> conv => whnf)
      | ((with_reducible refine Split.eqz (fun _ => ?_) (fun _ => ?_)) <;> conv => whnf)
      | ((with_reducible refine Split.and ?_))
      | ((with_reducible refine Split.or ?_))
      | ((with_reducible refine Split.streq (fun _ => ?_) (fun _ => ?_)) <;> conv => whnf)
      | ((with_reducible refine Split.dec (fun _ => ?_) (fun _ => ?_)) <;> conv => whnf)
      | ((with_reducible refine Split.mk (fun _ => ?_) (fun _ => ?_)) <;> conv => whnf)
      | ((with_reducible refine NilK.mk (fun _ => ?_) ?_) <;> conv => whnf)
      | ((with_reducible refine AltK.l ?_); (conv => whnf); (with_reducible refine Need.mk ?_ ?_); (first | omega | (refine ⟨?_, ?_⟩ <;> simp <;> omega) | (simp; omega)); conv => whnf)
      | ((with_reducible refine Need.mk ?_ ?_); (first | omega | rfl | decide | (refine ⟨?_, ?_⟩ <;> simp <;> omega) | (simp; omega)); conv => whnf)
      | ((with_reducible refine Wr.quo ?_ ?_ ?_ ?_); omega; omega; omega; conv => whnf)
      | ((with_reducible refine Wr.inr ?_ ?_); (first | omega | (simp; omega)); conv => whnf)
      | ((with_reducible refine Wr.inu ?_ ?_); omega; conv => whnf)
      | ((with_reducible refine AltK.l ?_); (conv => whnf); (first | (refine CallK.mk _ (ev_awake) ?_) | (refine CallK.mk _ (ev_Short a) ?_) | (refine CallK.mk _ (ev_Short b) ?_) | (refine CallK.mk _ (hM) ?_) | (refine CallK.mk _ (hR) ?_) | (refine CallK.mk _ (hE) ?_)); conv => whnf)
      | (exfalso; first | omega | contradiction))
    all_goals first | rfl | contradiction | simp [retOf]
end Go.Proofs.Try
