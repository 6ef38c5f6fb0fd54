import Derived.Test.YticnipadahihhaaVmYv
namespace Go.Proofs.Try
open Go Go.Vm
set_option maxRecDepth 20000
/-! Stable merging and sorting by a number, plain law. -/
section
variable {α : Type} (key : α → Int)
/-- Two lists merged by their heads; of equal ones the left one is first. -/
def mrg : List α → List α → List α
  | [], Y => Y
  | U, [] => U
  | x :: U, y :: Y => if key y < key x then y :: mrg (x :: U) Y else x :: mrg U (y :: Y)
termination_by U Y => U.length + Y.length
theorem mrg_nil {Y : List α} : mrg key [] Y = Y := by rw [mrg]
theorem nil_mrg : ∀ {U : List α}, mrg key U [] = U
  | [] => by rw [mrg]
  | _ :: _ => by rw [mrg]; simp
theorem mrg_cons {x y : α} {U Y : List α} : mrg key (x :: U) (y :: Y) = if key y < key x then y :: mrg key (x :: U) Y else x :: mrg key U (y :: Y) := by rw [mrg]
theorem mrg_split : ∀ {X1 Y1 X2 Y2 : List α}, (∀ x ∈ X1, ∀ y ∈ Y2, ¬ key y < key x) → (∀ y ∈ Y1, ∀ x ∈ X2, key y < key x) → mrg key (X1 ++ X2) (Y1 ++ Y2) = mrg key X1 Y1 ++ mrg key X2 Y2
  | [], [], X2, Y2, _, _ => by rw [mrg_nil]; rfl
  | [], y :: Y1, [], Y2, _, _ => by rw [List.append_nil, mrg_nil, mrg_nil, mrg_nil]
  | [], y :: Y1, x :: X2, Y2, h1, h2 => by
    have ih := mrg_split (X1 := []) (Y1 := Y1) (X2 := x :: X2) (Y2 := Y2) h1 fun z hz => h2 z (List.mem_cons_of_mem _ hz)
    rw [mrg_nil] at ih ⊢
    show mrg key (x :: X2) (y :: (Y1 ++ Y2)) = _
    rw [mrg_cons, if_pos (h2 y List.mem_cons_self x List.mem_cons_self)]
    rw [List.nil_append] at ih
    rw [ih]; rfl
  | x :: X1, [], X2, [], _, _ => by rw [List.append_nil, nil_mrg, nil_mrg, nil_mrg]
  | x :: X1, [], X2, y :: Y2, h1, h2 => by
    have ih := mrg_split (X1 := X1) (Y1 := []) (X2 := X2) (Y2 := y :: Y2) (fun z hz => h1 z (List.mem_cons_of_mem _ hz)) h2
    rw [nil_mrg] at ih ⊢
    show mrg key (x :: (X1 ++ X2)) (y :: Y2) = _
    rw [mrg_cons, if_neg (h1 x List.mem_cons_self y List.mem_cons_self)]
    rw [List.nil_append] at ih
    rw [ih]; rfl
  | x :: X1, y :: Y1, X2, Y2, h1, h2 => by
    show mrg key (x :: (X1 ++ X2)) (y :: (Y1 ++ Y2)) = _
    rw [mrg_cons, mrg_cons]
    split
    · have ih := mrg_split (X1 := x :: X1) (Y1 := Y1) (X2 := X2) (Y2 := Y2) h1 fun z hz => h2 z (List.mem_cons_of_mem _ hz)
      rw [List.cons_append] at ih
      rw [ih]; rfl
    · have ih := mrg_split (X1 := X1) (Y1 := y :: Y1) (X2 := X2) (Y2 := Y2) (fun z hz => h1 z (List.mem_cons_of_mem _ hz)) h2
      rw [List.cons_append] at ih
      rw [ih]; rfl
termination_by X1 Y1 => X1.length + Y1.length
theorem mrg_assoc : ∀ {A B C : List α}, mrg key (mrg key A B) C = mrg key A (mrg key B C)
  | [], B, C => by rw [mrg_nil, mrg_nil]
  | a :: A, [], C => by rw [nil_mrg, mrg_nil]
  | a :: A, b :: B, [] => by rw [nil_mrg, nil_mrg]
  | a :: A, b :: B, c :: C => by
    have i1 := mrg_assoc (A := A) (B := b :: B) (C := c :: C)
    have i2 := mrg_assoc (A := a :: A) (B := B) (C := c :: C)
    have i3 := mrg_assoc (A := a :: A) (B := b :: B) (C := C)
    rw [mrg_cons] at i3
    rw [mrg_cons, mrg_cons (x := b)]
    by_cases h1 : key b < key a
    · rw [if_pos h1] at i3 ⊢
      rw [mrg_cons]
      by_cases h2 : key c < key b
      · rw [if_pos h2, if_pos h2, mrg_cons, if_pos (by omega), i3]
      · rw [if_neg h2, if_neg h2, mrg_cons, if_pos h1, i2]
    · rw [if_neg h1] at i3 ⊢
      rw [mrg_cons]
      by_cases h2 : key c < key b
      · rw [if_pos h2]
        by_cases h3 : key c < key a
        · rw [if_pos h3, mrg_cons, if_pos h3, i3]
        · rw [if_neg h3, mrg_cons, if_neg h3, i1, mrg_cons, if_pos h2]
      · rw [if_neg h2, if_neg (by omega), mrg_cons, if_neg h1, i1, mrg_cons, if_neg h2]
termination_by A B C => A.length + B.length + C.length
theorem mrg_perm : ∀ {A B : List α}, (mrg key A B).Perm (A ++ B)
  | [], B => by rw [mrg_nil]; exact .refl _
  | a :: A, [] => by rw [nil_mrg, List.append_nil]
  | a :: A, b :: B => by
    rw [mrg_cons]
    split
    · exact (List.Perm.cons b (mrg_perm (A := a :: A) (B := B))).trans List.perm_middle.symm
    · exact List.Perm.cons a (mrg_perm (A := A) (B := b :: B))
termination_by A B => A.length + B.length
def Asc (l : List α) : Prop := l.Pairwise fun a b => key a ≤ key b
theorem mrg_asc : ∀ {A B : List α}, Asc key A → Asc key B → Asc key (mrg key A B)
  | [], B, _, h => by rw [mrg_nil]; exact h
  | a :: A, [], h, _ => by rw [nil_mrg]; exact h
  | a :: A, b :: B, ha, hb => by
    have ha' := List.pairwise_cons.1 ha
    have hb' := List.pairwise_cons.1 hb
    rw [mrg_cons]
    split
    · rename_i h
      refine List.pairwise_cons.2 ⟨fun z hz => ?_, mrg_asc ha hb'.2⟩
      rcases List.mem_append.1 ((mrg_perm key).mem_iff.1 hz) with hz | hz
      · rcases List.mem_cons.1 hz with rfl | hz
        · omega
        · have := ha'.1 z hz; omega
      · exact hb'.1 z hz
    · rename_i h
      refine List.pairwise_cons.2 ⟨fun z hz => ?_, mrg_asc ha'.2 hb⟩
      rcases List.mem_append.1 ((mrg_perm key).mem_iff.1 hz) with hz | hz
      · exact ha'.1 z hz
      · rcases List.mem_cons.1 hz with rfl | hz
        · omega
        · have := hb'.1 z hz; omega
termination_by A B => A.length + B.length
/-- Sorted, equal ones as they came. -/
def srt : List α → List α
  | [] => []
  | x :: U => mrg key [x] (srt U)
theorem srt_one {x : α} : srt key [x] = [x] := by rw [srt, srt, nil_mrg]
theorem srt_app : ∀ {A B : List α}, srt key (A ++ B) = mrg key (srt key A) (srt key B)
  | [], B => by rw [srt, mrg_nil]; rfl
  | a :: A, B => by rw [List.cons_append, srt, srt_app (A := A), srt, mrg_assoc]
theorem srt_asc : ∀ {U : List α}, Asc key (srt key U)
  | [] => .nil
  | _ :: _ => mrg_asc key (List.pairwise_singleton _ _) srt_asc
theorem srt_perm : ∀ {U : List α}, (srt key U).Perm U
  | [] => .refl _
  | x :: _ => (mrg_perm key).trans (List.Perm.cons x srt_perm)
theorem srt_len {U : List α} : (srt key U).length = U.length := (srt_perm key).length_eq
theorem mrg_len {A B : List α} : (mrg key A B).length = A.length + B.length := by rw [(mrg_perm key).length_eq, List.length_append]
/-- An element finds its place from the right. -/
theorem srt_ins {B S1 S2 : List α} {x : α} (h : srt key B = S1 ++ S2) (h1 : ∀ s ∈ S1, key s ≤ key x) (h2 : ∀ s ∈ S2, key x < key s) : srt key (B ++ [x]) = S1 ++ x :: S2 := by
  rw [srt_app, srt_one, h]
  have e1 := mrg_split key (X1 := S1) (Y1 := []) (X2 := S2) (Y2 := [x]) (fun s hs y hy => by
    have := h1 s hs
    rw [List.mem_singleton.1 hy]; omega) (fun _ h => (by cases h))
  have e2 := mrg_split key (X1 := []) (Y1 := [x]) (X2 := S2) (Y2 := []) (fun _ h => (by cases h)) (fun y hy s hs => by rw [List.mem_singleton.1 hy]; exact h2 s hs)
  rw [List.nil_append, nil_mrg] at e1
  rw [List.nil_append, List.append_nil, mrg_nil, nil_mrg] at e2
  rw [e1, e2]; rfl
/-- One element merged with many. -/
theorem mrg_left {Y : List α} {x : α} {i : Nat} (h1 : ∀ y ∈ Y.take i, key y < key x) (h2 : ∀ y ∈ Y.drop i, ¬ key y < key x) : mrg key [x] Y = Y.take i ++ x :: Y.drop i := by
  have e := mrg_split key (X1 := []) (Y1 := Y.take i) (X2 := [x]) (Y2 := Y.drop i) (fun _ h => (by cases h)) (fun y hy s hs => by rw [List.mem_singleton.1 hs]; exact h1 y hy)
  rw [List.nil_append, List.take_append_drop, mrg_nil] at e
  rw [e]
  congr 1
  have e2 := mrg_split key (X1 := [x]) (Y1 := []) (X2 := []) (Y2 := Y.drop i) (fun s hs y hy => by rw [List.mem_singleton.1 hs]; exact h2 y hy) (fun _ h => (by cases h))
  rw [List.nil_append, List.append_nil, nil_mrg, mrg_nil] at e2
  exact e2
theorem mrg_right {U : List α} {y : α} {i : Nat} (h1 : ∀ x ∈ U.take i, ¬ key y < key x) (h2 : ∀ x ∈ U.drop i, key y < key x) : mrg key U [y] = U.take i ++ y :: U.drop i := by
  have e := mrg_split key (X1 := U.take i) (Y1 := []) (X2 := U.drop i) (Y2 := [y]) (fun s hs z hz => by rw [List.mem_singleton.1 hz]; exact h1 s hs) (fun _ h => (by cases h))
  rw [List.nil_append, List.take_append_drop, nil_mrg] at e
  rw [e]
  congr 1
  have e2 := mrg_split key (X1 := []) (Y1 := [y]) (X2 := U.drop i) (Y2 := []) (fun _ h => (by cases h)) (fun z hz s hs => by rw [List.mem_singleton.1 hz]; exact h2 s hs)
  rw [List.nil_append, List.append_nil, mrg_nil, nil_mrg] at e2
  exact e2
/-- Ascending, by places. -/
theorem asc_at {l : List α} (h : Asc key l) {i j : Nat} {a b : α} (ha : l[i]? = some a) (hb : l[j]? = some b) (hij : i ≤ j) : key a ≤ key b := by
  obtain ⟨hi, ea⟩ := List.getElem?_eq_some_iff.1 ha
  obtain ⟨hj, eb⟩ := List.getElem?_eq_some_iff.1 hb
  by_cases e : i = j
  · subst e; rw [← ea, ← eb]; exact Int.le_refl _
  · rw [← ea, ← eb]; exact List.pairwise_iff_getElem.1 h i j hi hj (by omega)
theorem mem_take_at {l : List α} {n : Nat} {x : α} (h : x ∈ l.take n) : ∃ i, i < n ∧ l[i]? = some x := by
  obtain ⟨i, hi, e⟩ := List.mem_take_iff_getElem.1 h
  exact ⟨i, by omega, by rw [← e]; exact List.getElem?_eq_getElem _⟩
theorem mem_drop_at {l : List α} {n : Nat} {x : α} (h : x ∈ l.drop n) : ∃ i, n ≤ i ∧ l[i]? = some x := by
  obtain ⟨i, hi⟩ := List.getElem?_of_mem h
  rw [List.getElem?_drop] at hi
  exact ⟨n + i, by omega, hi⟩
/-- Where both lists are cut: all of the left parts before all of the right ones. -/
theorem cut_left {U Y : List α} (hX : Asc key U) (hY : Asc key Y) {u v : Nat} (h : u = 0 ∨ Y.length ≤ v ∨ ∃ x y, U[u - 1]? = some x ∧ Y[v]? = some y ∧ ¬ key y < key x) : ∀ x ∈ U.take u, ∀ y ∈ Y.drop v, ¬ key y < key x := by
  intro x hx y hy
  obtain ⟨i, hi, ex⟩ := mem_take_at hx
  obtain ⟨j, hj, ey⟩ := mem_drop_at hy
  have hjl := (List.getElem?_eq_some_iff.1 ey).1
  rcases h with h | h | ⟨a, b, ha, hb, hab⟩
  · omega
  · omega
  · have h1 := asc_at key hX ex ha (by omega)
    have h2 := asc_at key hY hb ey hj
    omega
theorem cut_right {U Y : List α} (hX : Asc key U) (hY : Asc key Y) {u v : Nat} (h : v = 0 ∨ U.length ≤ u ∨ ∃ x y, U[u]? = some x ∧ Y[v - 1]? = some y ∧ key y < key x) : ∀ y ∈ Y.take v, ∀ x ∈ U.drop u, key y < key x := by
  intro y hy x hx
  obtain ⟨j, hj, ey⟩ := mem_take_at hy
  obtain ⟨i, hi, ex⟩ := mem_drop_at hx
  have hil := (List.getElem?_eq_some_iff.1 ex).1
  rcases h with h | h | ⟨a, b, ha, hb, hab⟩
  · omega
  · omega
  · have h1 := asc_at key hX ha ex hi
    have h2 := asc_at key hY ey hb (by omega)
    omega
end
end Go.Proofs.Try
