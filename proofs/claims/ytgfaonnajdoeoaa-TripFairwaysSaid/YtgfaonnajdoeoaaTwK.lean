import Derived.Test.YtgfaonnajdoeoaaTwJ
namespace Go.Proofs.Try
open Go Go.Vm
set_option maxRecDepth 20000
set_option maxHeartbeats 2000000
/-- A mark of the twelfths is a mark, or strictly between two. -/
def PE (l : List Mk) (m : Mk) : Prop := ∃ j a, l[j]? = some a ∧ (m = a ∨ ∃ b, l[j + 1]? = some b ∧ a.m < m.m ∧ m.m < b.m ∧ min a.l b.l ≤ m.l ∧ m.l ≤ max a.l b.l)
def Asc (l : List Mk) : Prop := l.Pairwise fun a b => a.m < b.m
theorem asc_snoc {l : List Mk} {n : Mk} (h : Asc l) (hn : ∀ m ∈ l, m.m < n.m) : Asc (l ++ [n]) := by
  unfold Asc
  rw [List.pairwise_append]
  exact ⟨h, List.pairwise_singleton _ _, fun a ha b hb => by rw [List.mem_singleton.1 hb]; exact hn a ha⟩
theorem asc_last {o : List Mk} {z : Mk} (h : Asc (o ++ [z])) : ∀ m ∈ o ++ [z], m.m ≤ z.m := by
  unfold Asc at h
  rw [List.pairwise_append] at h
  intro m hm
  rcases List.mem_append.1 hm with hm | hm
  · have := h.2.2 m hm z (by simp); omega
  · rw [List.mem_singleton.1 hm]; omega
theorem mids_good {l : List Mk} {a b : Mk} {j : Nat} (ha : l[j]? = some a) (hb : l[j + 1]? = some b) (hab : a.m < b.m) : ∀ (k : Nat) (o : List Mk), Asc (o ++ [a]) → (∀ m ∈ o ++ [a], PE l m) → Asc (mids (o ++ [a]) a b k) ∧ ∀ m ∈ mids (o ++ [a]) a b k, PE l m
  | 0, o, h1, h2 => ⟨h1, h2⟩
  | k + 1, o, h1, h2 => by
    obtain ⟨k1, k2⟩ := mids_good ha hb hab k o h1 h2
    obtain ⟨o', z, hz, hz1, hz2⟩ := mids_snoc hab k o
    cases hk : midL[k]? with
    | none =>
      have hn := List.getElem?_eq_none_iff.1 hk
      unfold mids at k1 k2 ⊢
      rw [List.take_of_length_le (by omega)] at k1 k2 ⊢
      exact ⟨k1, k2⟩
    | some x =>
      have hin := midM_in hk hab
      rw [mids_succ hk, hz, addTw_snoc]
      rw [hz] at k1 k2
      split
      · rename_i hlt
        refine ⟨asc_snoc k1 fun m hm => ?_, fun m hm => ?_⟩
        · have := asc_last k1 m hm; omega
        · rcases List.mem_append.1 hm with hm | hm
          · exact k2 m hm
          · rw [List.mem_singleton.1 hm]
            exact ⟨j, a, ha, .inr ⟨b, hb, by omega, hin.2.1, hin.2.2.1, hin.2.2.2⟩⟩
      · exact ⟨k1, k2⟩
theorem twGo_good {g : Ga} (hG : Good g) : ∀ (r : List Mk) (j : Nat) (o : List Mk) (a : Mk), g.marks[j]? = some a → g.marks.drop (j + 1) = r → Asc (o ++ [a]) → (∀ m ∈ o ++ [a], PE g.marks m) →
    Asc (twGo (o ++ [a]) a r) ∧ ∀ m ∈ twGo (o ++ [a]) a r, PE g.marks m
  | [], j, o, a, _, _, h1, h2 => ⟨h1, h2⟩
  | b :: r, j, o, a, ha, hr, h1, h2 => by
    have hb : g.marks[j + 1]? = some b := by
      have := congrArg List.head? hr
      rw [List.head?_drop] at this
      exact this
    have hab := asc_at hG ha hb
    obtain ⟨k1, k2⟩ := mids_good ha hb hab 5 o h1 h2
    obtain ⟨o', z, hz, hz1, hz2⟩ := mids_snoc hab 5 o
    have hdr := drop_of hb
    rw [hr] at hdr
    simp only [List.cons.injEq, true_and] at hdr
    simp only [twGo]
    refine twGo_good hG r (j + 1) _ b hb hdr.symm (asc_snoc k1 fun m hm => ?_) fun m hm => ?_
    · rw [hz] at hm k1
      have := asc_last k1 m hm; omega
    · rcases List.mem_append.1 hm with hm | hm
      · exact k2 m hm
      · rw [List.mem_singleton.1 hm]; exact ⟨j + 1, b, hb, .inl rfl⟩
theorem twL_good {g : Ga} (hG : Good g) : Asc (twL g.marks) ∧ ∀ m ∈ twL g.marks, PE g.marks m := by
  cases h : g.marks with
  | nil => exact ⟨.nil, fun m hm => by cases hm⟩
  | cons a r =>
    have ha : g.marks[0]? = some a := by rw [h]; rfl
    have := twGo_good hG r 0 [] a ha (by rw [h]; rfl) (List.pairwise_singleton _ _) (fun m hm => by rw [List.mem_singleton.1 hm]; exact ⟨0, a, ha, .inl rfl⟩)
    rw [h] at this
    exact this
/-- The mark that holds a minute. -/
theorem pe_at {g : Ga} (hG : Good g) {m : Mk} (h : PE g.marks m) {k : Nat} {x : Mk} (hk : g.marks[k]? = some x) (h1 : x.m ≤ m.m) (h2 : ∀ y, g.marks[k + 1]? = some y → m.m < y.m) :
    m = x ∨ (m.m ≠ x.m ∧ ∃ b, g.marks[k + 1]? = some b ∧ min x.l b.l ≤ m.l ∧ m.l ≤ max x.l b.l) := by
  obtain ⟨j, a, ha, h⟩ := h
  have lt : ∀ {i j : Nat} {p q : Mk}, g.marks[i]? = some p → g.marks[j]? = some q → i < j → p.m < q.m := by
    intro i j p q hp hq hij
    have := (List.pairwise_iff_getElem.1 hG.asc) i j (lt_of_some hp) (lt_of_some hq) hij
    rw [(List.getElem?_eq_some_iff.1 hp).2, (List.getElem?_eq_some_iff.1 hq).2] at this
    exact this
  have hnext : ∀ {i : Nat} {p : Mk}, g.marks[i]? = some p → k < i → m.m < p.m := by
    intro i p hp hki
    obtain ⟨y, hy⟩ := some_of_lt (l := g.marks) (i := k + 1) (by have := lt_of_some hp; omega)
    have := h2 y hy
    rcases Nat.lt_or_ge (k + 1) i with h | h
    · have := lt hy hp h; omega
    · obtain rfl : i = k + 1 := by omega
      rw [hp] at hy; cases hy; exact this
  rcases h with rfl | ⟨b, hb, h3, h4, h5⟩
  · left
    rcases Nat.lt_trichotomy j k with h | rfl | h
    · have := lt ha hk h; omega
    · exact Option.some.inj (ha.symm.trans hk)
    · have := hnext ha h; omega
  · right
    have : j = k := by
      rcases Nat.lt_trichotomy j k with h | rfl | h
      · rcases Nat.lt_or_ge (j + 1) k with h' | h'
        · have := lt hb hk h'; omega
        · obtain rfl : k = j + 1 := by omega
          rw [hb] at hk; cases hk; omega
      · rfl
      · have := hnext ha h; omega
    subst this
    rw [ha] at hk; cases hk
    exact ⟨by omega, b, hb, h5⟩
theorem twR_ok {g : Ga} (h : twE g = 0) : gErr g = 0 ∧ twR g = { g with marks := twL g.marks } ∧ (twL g.marks).length ≤ 400 := by
  have h' := h
  unfold twE at h'
  split at h'
  · contradiction
  · rename_i h0
    split at h'
    · cases h'
    · exact ⟨by simpa using h0, by rw [twR, if_pos h], by omega⟩
theorem tw_first {g : Ga} (hG : Good g) {m : Mk} (h : PE g.marks m) : ∃ x, g.marks[0]? = some x ∧ x.m ≤ m.m := by
  obtain ⟨j, a, ha, h⟩ := h
  obtain ⟨x, hx⟩ := some_of_lt (l := g.marks) (i := 0) (by have := lt_of_some ha; omega)
  refine ⟨x, hx, ?_⟩
  have : x.m ≤ a.m := by
    rcases Nat.eq_zero_or_pos j with rfl | hj
    · rw [hx] at ha; cases ha; omega
    · have := (List.pairwise_iff_getElem.1 hG.asc) 0 j (lt_of_some hx) (lt_of_some ha) hj
      rw [(List.getElem?_eq_some_iff.1 hx).2, (List.getElem?_eq_some_iff.1 ha).2] at this
      omega
  rcases h with rfl | ⟨b, -, h, -⟩ <;> omega
end Go.Proofs.Try
