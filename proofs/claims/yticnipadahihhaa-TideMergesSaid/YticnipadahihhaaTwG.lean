import Derived.Test.YticnipadahihhaaTwF
namespace Go.Proofs.Try
open Go Go.Vm
/-- The mean level, by recursion on the marks. -/
def meanR : List Mk → Int → Option (Int × Int)
  | [], _ => none
  | [b], t => if b.m = t then some (b.l, 1) else none
  | a :: b :: r, t => if a.m = t then some (a.l, 1) else if t < a.m then none else if t < b.m then some (a.l * (b.m - a.m) + (b.l - a.l) * (t - a.m), b.m - a.m) else meanR (b :: r) t
def mean3 : Option (Int × Int) → Int × Int × Bool
  | some (n, d) => (n, d, true)
  | none => (0, 1, false)
theorem posF_cons (a : Mk) (r : List Mk) (t : Int) : posF (a :: r) t = if a.m < t then posF r t + 1 else 0 := by
  by_cases h : a.m < t <;> simp [posF, h]
theorem meanAt_cons {a : Mk} {l : List Mk} {p : Nat} {t : Int} (hp : p ≠ 0) : meanAt (a :: l) (p + 1) t = meanAt l p t := by
  cases p with
  | zero => exact absurd rfl hp
  | succ p =>
    unfold meanAt
    simp only [List.getElem?_cons_succ]
theorem meanR_eq : ∀ {l : List Mk} {t : Int}, l.Pairwise (fun a b => a.m < b.m) → meanAt l (posF l t) t = mean3 (meanR l t)
  | [], t, _ => rfl
  | [b], t, _ => by
    rw [posF_cons]
    by_cases h : b.m < t
    · rw [if_pos h]
      have : b.m ≠ t := by omega
      simp [posF, meanAt, meanR, mean3, this]
    · rw [if_neg h]
      by_cases e : b.m = t <;> simp [meanAt, meanR, mean3, e]
  | a :: b :: r, t, hp => by
    obtain ⟨h1, h2⟩ := List.pairwise_cons.1 hp
    have hab := h1 b (List.mem_cons_self ..)
    rw [posF_cons]
    by_cases h : a.m < t
    · rw [if_pos h]
      by_cases hb : b.m < t
      · have ih := meanR_eq (t := t) h2
        rw [meanAt_cons (by rw [posF_cons, if_pos hb]; omega), ih]
        simp only [meanR]
        rw [if_neg (by omega), if_neg (by omega), if_neg (by omega)]
      · rw [posF_cons, if_neg hb]
        simp only [meanR]
        rw [if_neg (by omega), if_neg (by omega)]
        by_cases e : b.m = t
        · rw [if_neg (by omega)]
          subst e
          cases r with
          | nil => simp [meanAt, mean3, meanR]
          | cons c r => simp [meanAt, mean3, meanR]
        · rw [if_pos (by omega)]
          simp [meanAt, mean3, e]
    · rw [if_neg h]
      simp only [meanR]
      by_cases e : a.m = t
      · rw [if_pos e]
        simp [meanAt, mean3, e]
      · rw [if_neg e, if_pos (by omega)]
        simp [meanAt, mean3, e]
/-- Two fractions (or none) of one value. -/
def Fr : Option (Int × Int) → Option (Int × Int) → Prop
  | none, none => True
  | some (n, d), some (n', d') => 0 < d ∧ 0 < d' ∧ n * d' = n' * d
  | _, _ => False
theorem Fr.trans {a b c : Option (Int × Int)} (h1 : Fr a b) (h2 : Fr b c) : Fr a c := by
  match a, b, c, h1, h2 with
  | none, none, none, _, _ => trivial
  | some (n, d), some (n', d'), some (n'', d''), ⟨p1, p2, e1⟩, ⟨_, p3, e2⟩ =>
    refine ⟨p1, p3, ?_⟩
    have : (n * d'') * d' = (n'' * d) * d' := by grind
    exact Int.eq_of_mul_eq_mul_right (by omega) this
theorem meanR_pos : ∀ {l : List Mk} {t n d : Int}, l.Pairwise (fun a b => a.m < b.m) → meanR l t = some (n, d) → 0 < d
  | [], t, n, d, _, h => by cases h
  | [b], t, n, d, _, h => by
    simp only [meanR] at h
    split at h
    · simp at h; omega
    · cases h
  | a :: b :: r, t, n, d, hp, h => by
    obtain ⟨h1, h2⟩ := List.pairwise_cons.1 hp
    have hab := h1 b (List.mem_cons_self ..)
    simp only [meanR] at h
    split at h
    · simp at h; omega
    · split at h
      · cases h
      · split at h
        · simp at h; omega
        · exact meanR_pos h2 h
theorem Fr.refl {l : List Mk} {t : Int} (hp : l.Pairwise (fun a b => a.m < b.m)) : Fr (meanR l t) (meanR l t) := by
  cases h : meanR l t with
  | none => trivial
  | some x => obtain ⟨n, d⟩ := x; have := meanR_pos hp h; exact ⟨this, this, rfl⟩
theorem fr_straight {a m b : Mk} {r : List Mk} {t : Int} (hp : (a :: m :: b :: r).Pairwise (fun a b => a.m < b.m)) (hs : straightB a m b = true) : Fr (meanR (a :: b :: r) t) (meanR (a :: m :: b :: r) t) := by
  obtain ⟨h1, h2⟩ := List.pairwise_cons.1 hp
  obtain ⟨h3, h4⟩ := List.pairwise_cons.1 h2
  have ham := h1 m (by simp)
  have hmb := h3 b (by simp)
  have hs : (m.l - a.l) * (b.m - a.m) = (b.l - a.l) * (m.m - a.m) := by simpa [straightB] using hs
  simp only [meanR]
  by_cases e1 : a.m = t
  · simp only [if_pos e1]; exact ⟨by omega, by omega, rfl⟩
  · simp only [if_neg e1]
    by_cases e2 : t < a.m
    · simp only [if_pos e2]; trivial
    · simp only [if_neg e2]
      by_cases e3 : t < m.m
      · simp only [if_pos e3, if_pos (show t < b.m by omega)]
        exact ⟨by omega, by omega, by grind⟩
      · simp only [if_neg e3]
        by_cases e4 : m.m = t
        · simp only [if_pos e4, if_pos (show t < b.m by omega)]
          subst e4
          exact ⟨by omega, by omega, by grind⟩
        · simp only [if_neg e4]
          by_cases e5 : t < b.m
          · simp only [if_pos e5]
            exact ⟨by omega, by omega, by grind⟩
          · simp only [if_neg e5]
            exact Fr.refl h4
theorem simp_sub : ∀ (l : List Mk) (o : Option Mk), (simpGo o l).Sublist l
  | [], o => by cases o <;> simp [simpGo]
  | [m], o => by cases o <;> simp [simpGo]
  | m :: b :: r, none => by simp only [simpGo]; exact (simp_sub (b :: r) _).cons_cons m
  | m :: b :: r, some a => by
    simp only [simpGo]
    split
    · exact (simp_sub (b :: r) _).cons m
    · exact (simp_sub (b :: r) _).cons_cons m
theorem simp_mean : ∀ (l : List Mk) (a : Mk) (t : Int), (a :: l).Pairwise (fun a b => a.m < b.m) → Fr (meanR (a :: simpGo (some a) l) t) (meanR (a :: l) t)
  | [], a, t, hp => by simp only [simpGo]; exact Fr.refl hp
  | [m], a, t, hp => by simp only [simpGo]; exact Fr.refl hp
  | m :: b :: r, a, t, hp => by
    simp only [simpGo]
    split
    · rename_i hs
      have hp' : (a :: b :: r).Pairwise (fun a b => a.m < b.m) := hp.sublist ((List.sublist_cons_self m (b :: r)).cons_cons a)
      exact (simp_mean (b :: r) a t hp').trans (fr_straight hp hs)
    · have hp2 := (List.pairwise_cons.1 hp).2
      have ih := simp_mean (b :: r) m t hp2
      have ham := (List.pairwise_cons.1 hp).1 m (by simp)
      generalize simpGo (some m) (b :: r) = s at ih
      have u1 : ∀ (s : List Mk), meanR (a :: m :: s) t = if a.m = t then some (a.l, 1) else if t < a.m then none else if t < m.m then some (a.l * (m.m - a.m) + (m.l - a.l) * (t - a.m), m.m - a.m) else meanR (m :: s) t := fun s => by simp only [meanR]
      rw [u1, u1]
      split
      · exact ⟨by omega, by omega, rfl⟩
      · split
        · trivial
        · split
          · exact ⟨by omega, by omega, rfl⟩
          · exact ih
theorem simp_mean0 {l : List Mk} {t : Int} (hp : l.Pairwise (fun a b => a.m < b.m)) : Fr (meanR (simpGo none l) t) (meanR l t) := by
  cases l with
  | nil => exact trivial
  | cons a r => simp only [simpGo]; exact simp_mean r a t hp
theorem floor_fr {n d n' d' : Int} (h1 : 0 < d) (h2 : 0 < d') (h : n * d' = n' * d) : n / d = n' / d' := by
  rw [← Int.mul_ediv_mul_of_pos_left n d h2, h, Int.mul_comm d d', Int.mul_ediv_mul_of_pos_left n' d' h1]
theorem up_fr {n d n' d' : Int} (h1 : 0 < d) (h2 : 0 < d') (h : n * d' = n' * d) : upZ n d = upZ n' d' := by
  unfold upZ; rw [floor_fr h1 h2 (n := -n) (n' := -n') (by rw [Int.neg_mul, Int.neg_mul, h])]
theorem atS_fr {g g' : Ga} {t : Int} (he : g.err = g'.err) (h1 : g.marks.Pairwise fun a b => a.m < b.m) (h2 : g'.marks.Pairwise fun a b => a.m < b.m) (h : Fr (meanR g.marks t) (meanR g'.marks t)) : atS g t = atS g' t := by
  unfold atS meanS
  rw [meanR_eq h1, meanR_eq h2]
  generalize meanR g.marks t = x at h
  generalize meanR g'.marks t = y at h
  match x, y, h with
  | none, none, _ => rfl
  | some (n, d), some (n', d'), ⟨p1, p2, e⟩ => simp [mean3, floor_fr p1 p2 e, up_fr p1 p2 e, he]
theorem markErr_of : ∀ {l : List Mk} {p : Option Mk}, (∀ m ∈ l, wrongB m.m m.l = false) → l.Pairwise (fun a b => a.m < b.m) → (∀ q, p = some q → ∀ m ∈ l, q.m < m.m) → markErr p l = 0
  | [], p, _, _, _ => by cases p <;> rfl
  | m :: r, p, h1, h2, h3 => by
    obtain ⟨k1, k2⟩ := List.pairwise_cons.1 h2
    have ih : markErr (some m) r = 0 := markErr_of (fun x hx => h1 x (by simp [hx])) k2 (fun q hq x hx => by cases hq; exact k1 x hx)
    simp only [markErr, h1 m (by simp), Bool.false_eq_true, if_false]
    cases p with
    | none => exact ih
    | some q =>
      have := h3 q rfl m (by simp)
      simp only
      rw [if_neg (by omega)]
      exact ih
theorem gErr_parts {g : Ga} : gErr g = 0 ↔ nameB g.name = true ∧ Good g := by
  constructor
  · intro h
    refine ⟨?_, good_of h⟩
    unfold gErr at h
    split at h
    · assumption
    · cases h
  · rintro ⟨h1, h2⟩
    have hx := h2.x
    have he := h2.err
    have hl := h2.len
    unfold gErr recErr
    rw [if_pos h1, if_neg (by simp [outsideB]; omega), if_neg (by omega)]
    exact markErr_of h2.ok h2.asc (fun q h => (by cases h))
def simpG (g : Ga) : Ga := { g with marks := simpGo none g.marks }
theorem good_sub {g : Ga} {l : List Mk} (h : Good g) (hs : l.Sublist g.marks) : Good { g with marks := l } :=
  ⟨h.err, h.x, Nat.le_trans hs.length_le h.len, fun m hm => h.ok m (hs.subset hm), h.asc.sublist hs⟩
theorem simpG_ok {g : Ga} (h : gErr g = 0) : gErr (simpG g) = 0 := by
  obtain ⟨h1, h2⟩ := gErr_parts.1 h
  exact gErr_parts.2 ⟨h1, good_sub h2 (simp_sub _ _)⟩
theorem simpG_At {g : Ga} (h : gErr g = 0) (t : Int) : AtS (simpG g) t = AtS g t := by
  have h2 := good_of h
  unfold AtS
  rw [h, simpG_ok h, atS_fr (g := simpG g) (g' := g) rfl (good_of (simpG_ok h)).asc h2.asc (simp_mean0 h2.asc)]
end Go.Proofs.Try
