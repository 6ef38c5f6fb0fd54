import Derived.Test.YticnipadahihhaaTwC
namespace Go.Proofs.Try
open Go Go.Vm
set_option maxRecDepth 20000
set_option maxHeartbeats 2000000
def posF (l : List Mk) (t : Int) : Nat := (l.takeWhile fun m => decide (m.m < t)).length
theorem posF_le (l : List Mk) (t : Int) : posF l t ≤ l.length := (List.takeWhile_prefix _).length_le
theorem markErr_zero : ∀ (l : List Mk) (p : Option Mk), markErr p l = 0 → (∀ m ∈ l, wrongB m.m m.l = false) ∧ l.Pairwise (fun a b => a.m < b.m) ∧ ∀ q, p = some q → ∀ m ∈ l, q.m < m.m
  | [], p, _ => ⟨(fun m h => (by cases h)), .nil, (fun q _ m h => (by cases h))⟩
  | m :: r, p, h => by
    simp only [markErr] at h
    split at h
    · cases h
    · rename_i hw
      have hw : wrongB m.m m.l = false := by simpa using hw
      have key : markErr (some m) r = 0 ∧ ∀ q, p = some q → q.m < m.m := by
        cases p with
        | none => exact ⟨h, (fun q hq => (by cases hq))⟩
        | some q0 =>
          simp only at h
          split at h
          · cases h
          · rename_i hlt
            exact ⟨h, fun q hq => by cases hq; omega⟩
      obtain ⟨h1, h2, h3⟩ := markErr_zero r (some m) key.1
      refine ⟨fun x hx => ?_, List.pairwise_cons.2 ⟨h3 m rfl, h2⟩, fun q hq x hx => ?_⟩
      · cases hx with
        | head => exact hw
        | tail _ hx => exact h1 x hx
      · cases hx with
        | head => exact key.2 q hq
        | tail _ hx => have := key.2 q hq; have := h3 m rfl x hx; omega
theorem posF_spec {t : Int} : ∀ {l : List Mk}, l.Pairwise (fun a b => a.m < b.m) → ∀ (k : Nat) m, l[k]? = some m → (k < posF l t → m.m < t) ∧ (posF l t ≤ k → t ≤ m.m)
  | [], _, k, m, h => by simp at h
  | a :: r, hp, k, m, h => by
    obtain ⟨h1, h2⟩ := List.pairwise_cons.1 hp
    by_cases ha : a.m < t
    · have e : posF (a :: r) t = posF r t + 1 := by simp [posF, ha]
      rw [e]
      cases k with
      | zero => simp only [List.getElem?_cons_zero, Option.some.injEq] at h; subst h; exact ⟨fun _ => ha, fun h => by omega⟩
      | succ k =>
        have := posF_spec (t := t) h2 k m (by simpa using h)
        exact ⟨fun h => this.1 (by omega), fun h => this.2 (by omega)⟩
    · have e : posF (a :: r) t = 0 := by simp [posF, ha]
      rw [e]
      refine ⟨fun h => by omega, fun _ => ?_⟩
      cases k with
      | zero => simp only [List.getElem?_cons_zero, Option.some.injEq] at h; subst h; omega
      | succ k =>
        have := h1 m (List.mem_of_getElem? (i := k) (by simpa using h))
        omega
structure Good (g : Ga) : Prop where
  err : 0 ≤ g.err ∧ g.err ≤ 1000
  x : -1000000 ≤ g.x ∧ g.x ≤ 1000000
  len : g.marks.length ≤ 400
  ok : ∀ m ∈ g.marks, wrongB m.m m.l = false
  asc : g.marks.Pairwise fun a b => a.m < b.m
theorem wrongB_false {m : Mk} (h : wrongB m.m m.l = false) : 0 ≤ m.m ∧ m.m ≤ 1000000 ∧ -20000 ≤ m.l ∧ m.l ≤ 20000 := by
  simp only [wrongB, outsideB, Bool.or_eq_false_iff, decide_eq_false_iff_not] at h
  omega
theorem good_of_rec {g : Ga} (h : recErr g = 0) : Good g := by
  unfold recErr at h
  split at h
  · cases h
  · rename_i h1
    split at h
    · cases h
    · obtain ⟨a, b, -⟩ := markErr_zero _ _ h
      simp only [outsideB, Bool.or_eq_true, decide_eq_true_eq, not_or] at h1
      exact ⟨by omega, by omega, by omega, a, b⟩
theorem good_of {g : Ga} (h : gErr g = 0) : Good g := by
  unfold gErr at h
  split at h
  · exact good_of_rec h
  · cases h
def meanS (g : Ga) (t : Int) : Int × Int × Bool := meanAt g.marks (posF g.marks t) t
theorem ev_meanS {g : Ga} {t : Int} (h : Good g) (ht : 0 ≤ t ∧ t ≤ 1000000) : Ev Try.prog 28 [gD g, .int .i64 t] (m3D (meanS g t)) :=
  ev_mean g t _ h.len h.ok ht (posF_le _ _) (posF_spec h.asc)
theorem mean_bd {g : Ga} {t : Int} (h : Good g) : 0 < (meanS g t).2.1 ∧ (meanS g t).2.1 ≤ 1000000 ∧ -60000000000 ≤ (meanS g t).1 ∧ (meanS g t).1 ≤ 60000000000 := by
  have hp := posF_spec (t := t) h.asc
  unfold meanS
  generalize posF g.marks t = p at hp
  unfold meanAt
  split
  · rename_i b hb
    have wb := wrongB_false (h.ok b (List.mem_of_getElem? hb))
    split
    · simp only; omega
    · split
      · simp only; omega
      · rename_i q' q
        split
        · rename_i a ha
          have wa := wrongB_false (h.ok a (List.mem_of_getElem? ha))
          have h1 := (hp q a ha).1 (by omega)
          have h2 := (hp (q+1) b hb).2 (by omega)
          have e1 := mul_bd (x := a.l) (y := b.m - a.m) (X := 20000) (Y := 1000000) (by omega) (by omega)
          have e2 := mul_bd (x := b.l - a.l) (y := t - a.m) (X := 40000) (Y := 1000000) (by omega) (by omega)
          simp only
          omega
        · simp only; omega
  · simp only; omega
def ivD (lo hi : Int) : D := .agg [.int .i64 lo, .int .i64 hi]
def atS (g : Ga) (t : Int) : Int × Int × Bool := if (meanS g t).2.2 then ((meanS g t).1 / (meanS g t).2.1 - g.err, upZ (meanS g t).1 (meanS g t).2.1 + g.err, true) else (0, 0, false)
def at3D (x : Int × Int × Bool) : D := .tup [ivD x.1 x.2.1, .bool x.2.2]
theorem ev_at {g : Ga} {t : Int} (h : Good g) (ht : 0 ≤ t ∧ t ≤ 1000000) : Ev Try.prog 21 [gD g, .int .i64 t] (at3D (atS g t)) := by
  have hm := ev_meanS h ht
  have hb := mean_bd (t := t) h
  have he := h.err
  unfold atS
  generalize meanS g t = x at hm hb
  obtain ⟨n, d, ok⟩ := x
  dsimp only at hb ⊢
  have q1 := ediv_bd (a := n) (M := 60000000000) hb.1 (by omega)
  have q2 := ediv_bd (a := -n) (M := 60000000000) hb.1 (by omega)
  have d1 := ev_down n d hb.1 (by omega)
  have d2 := ev_up n d hb.1 (by omega)
  unfold upZ at d2 ⊢
  generalize n / d = u at *
  generalize -n / d = v at *
  refine ev_of_awp tysOk mixed (fn := Try.f21) Try.func21 rfl rfl rfl ?_
  conv => whnf
  repeat' (first
    | ((with_reducible refine Split.of_true ?_); conv => whnf)
    | ((with_reducible refine Split.of_false ?_); conv => whnf)
    | ((with_reducible refine Split.neg ?_))
    | ((with_reducible refine Split.is_true ?_ ?_); decide; conv => whnf)
    | ((with_reducible refine Split.is_false ?_ ?_); decide; conv => whnf)
    | ((with_reducible refine Split.nez (fun _ => ?_) (fun _ => ?_)) <;> conv => whnf)
    | ((with_reducible refine Split.eqz (fun _ => ?_) (fun _ => ?_)) <;> conv => whnf)
    | ((with_reducible refine Split.and ?_))
    | ((with_reducible refine Split.or ?_))
    | ((with_reducible refine Split.streq (fun _ => ?_) (fun _ => ?_)) <;> conv => whnf)
    | ((with_reducible refine Split.dec (fun _ => ?_) (fun _ => ?_)) <;> conv => whnf)
    | ((with_reducible refine Split.mk (fun _ => ?_) (fun _ => ?_)) <;> conv => whnf)
    | ((with_reducible refine NilK.mk (fun _ => ?_) ?_) <;> conv => whnf)
    | ((with_reducible refine AltK.l ?_); (conv => whnf); (with_reducible refine Need.mk ?_ ?_); (first | omega | (refine ⟨?_, ?_⟩ <;> simp <;> omega) | (simp; omega)); conv => whnf)
    | ((with_reducible refine Need.mk ?_ ?_); (first | omega | rfl | decide | (refine ⟨?_, ?_⟩ <;> simp <;> omega) | (simp; omega)); conv => whnf)
    | ((with_reducible refine Wr.quo ?_ ?_ ?_ ?_); omega; omega; omega; conv => whnf)
    | ((with_reducible refine Wr.inr ?_ ?_); (first | omega | (simp; omega)); conv => whnf)
    | ((with_reducible refine Wr.inu ?_ ?_); omega; conv => whnf)
    | ((with_reducible refine AltK.l ?_); (conv => whnf); (first | (refine CallK.mk _ (hm) ?_) | (refine CallK.mk _ (d1) ?_) | (refine CallK.mk _ (d2) ?_)); conv => whnf)
    | (exfalso; first | omega | contradiction))
  · have hok : ok = true := by assumption
    simp only [retOf, at3D, ivD, hok, if_true]
  · have hok : ok = false := by assumption
    simp only [retOf, at3D, ivD, hok, Bool.false_eq_true, if_false]
def AtS (g : Ga) (t : Int) : Int × Int × Int := if gErr g ≠ 0 then (0, 0, gErr g) else if outsideB t 0 1000000 then (0, 0, 2) else
  if (atS g t).2.2 then ((atS g t).1, (atS g t).2.1, 0) else (0, 0, 11)
def At3D (x : Int × Int × Int) : D := .tup [ivD x.1 x.2.1, .int .i64 x.2.2]
theorem ev_At (g : Ga) (t : Int) : Ev Try.prog 9 [gD g, .int .i64 t] (At3D (AtS g t)) := by
  by_cases h0 : gErr g = 0
  · by_cases ht : outsideB t 0 1000000 = true
    · refine ev_of_awp tysOk mixed (fn := Try.f9) Try.func9 rfl rfl rfl ?_
      conv => whnf
      repeat' (first
        | ((with_reducible refine Split.of_true ?_); conv => whnf)
        | ((with_reducible refine Split.of_false ?_); conv => whnf)
        | ((with_reducible refine Split.neg ?_))
        | ((with_reducible refine Split.is_true ?_ ?_); decide; conv => whnf)
        | ((with_reducible refine Split.is_false ?_ ?_); decide; conv => whnf)
        | ((with_reducible refine Split.nez (fun _ => ?_) (fun _ => ?_)) <;> conv => whnf)
        | ((with_reducible refine Split.eqz (fun _ => ?_) (fun _ => ?_)) <;> conv => whnf)
        | ((with_reducible refine Split.and ?_))
        | ((with_reducible refine Split.or ?_))
        | ((with_reducible refine Split.streq (fun _ => ?_) (fun _ => ?_)) <;> conv => whnf)
        | ((with_reducible refine Split.dec (fun _ => ?_) (fun _ => ?_)) <;> conv => whnf)
        | ((with_reducible refine Split.mk (fun _ => ?_) (fun _ => ?_)) <;> conv => whnf)
        | ((with_reducible refine NilK.mk (fun _ => ?_) ?_) <;> conv => whnf)
        | ((with_reducible refine AltK.l ?_); (conv => whnf); (with_reducible refine Need.mk ?_ ?_); (first | omega | (refine ⟨?_, ?_⟩ <;> simp <;> omega) | (simp; omega)); conv => whnf)
        | ((with_reducible refine Need.mk ?_ ?_); (first | omega | rfl | decide | (refine ⟨?_, ?_⟩ <;> simp <;> omega) | (simp; omega)); conv => whnf)
        | ((with_reducible refine Wr.quo ?_ ?_ ?_ ?_); omega; omega; omega; conv => whnf)
        | ((with_reducible refine Wr.inr ?_ ?_); (first | omega | (simp; omega)); conv => whnf)
        | ((with_reducible refine Wr.inu ?_ ?_); omega; conv => whnf)
        | ((with_reducible refine AltK.l ?_); (conv => whnf); (first | (refine CallK.mk _ (ev_CheckGauge g) ?_) | (refine CallK.mk _ (ev_outside _ _ _) ?_)); conv => whnf)
        | (exfalso; first | omega | contradiction))
      all_goals simp_all [retOf, At3D, AtS, ivD]
    · have hb : 0 ≤ t ∧ t ≤ 1000000 := by simp [outsideB] at ht; omega
      have ha := ev_at (good_of h0) hb
      unfold AtS
      generalize atS g t = x at *
      obtain ⟨lo, hi, ok⟩ := x
      refine ev_of_awp tysOk mixed (fn := Try.f9) Try.func9 rfl rfl rfl ?_
      conv => whnf
      repeat' (first
        | ((with_reducible refine Split.of_true ?_); conv => whnf)
        | ((with_reducible refine Split.of_false ?_); conv => whnf)
        | ((with_reducible refine Split.neg ?_))
        | ((with_reducible refine Split.is_true ?_ ?_); decide; conv => whnf)
        | ((with_reducible refine Split.is_false ?_ ?_); decide; conv => whnf)
        | ((with_reducible refine Split.nez (fun _ => ?_) (fun _ => ?_)) <;> conv => whnf)
        | ((with_reducible refine Split.eqz (fun _ => ?_) (fun _ => ?_)) <;> conv => whnf)
        | ((with_reducible refine Split.and ?_))
        | ((with_reducible refine Split.or ?_))
        | ((with_reducible refine Split.streq (fun _ => ?_) (fun _ => ?_)) <;> conv => whnf)
        | ((with_reducible refine Split.dec (fun _ => ?_) (fun _ => ?_)) <;> conv => whnf)
        | ((with_reducible refine Split.mk (fun _ => ?_) (fun _ => ?_)) <;> conv => whnf)
        | ((with_reducible refine NilK.mk (fun _ => ?_) ?_) <;> conv => whnf)
        | ((with_reducible refine AltK.l ?_); (conv => whnf); (with_reducible refine Need.mk ?_ ?_); (first | omega | (refine ⟨?_, ?_⟩ <;> simp <;> omega) | (simp; omega)); conv => whnf)
        | ((with_reducible refine Need.mk ?_ ?_); (first | omega | rfl | decide | (refine ⟨?_, ?_⟩ <;> simp <;> omega) | (simp; omega)); conv => whnf)
        | ((with_reducible refine Wr.quo ?_ ?_ ?_ ?_); omega; omega; omega; conv => whnf)
        | ((with_reducible refine Wr.inr ?_ ?_); (first | omega | (simp; omega)); conv => whnf)
        | ((with_reducible refine Wr.inu ?_ ?_); omega; conv => whnf)
        | ((with_reducible refine AltK.l ?_); (conv => whnf); (first | (refine CallK.mk _ (ev_CheckGauge g) ?_) | (refine CallK.mk _ (ev_outside _ _ _) ?_) | (refine CallK.mk _ (ha) ?_)); conv => whnf)
        | (exfalso; first | omega | contradiction))
      all_goals simp_all [retOf, At3D, ivD]
  · refine ev_of_awp tysOk mixed (fn := Try.f9) Try.func9 rfl rfl rfl ?_
    conv => whnf
    repeat' (first
      | ((with_reducible refine Split.of_true ?_); conv => whnf)
      | ((with_reducible refine Split.of_false ?_); conv => whnf)
      | ((with_reducible refine Split.neg ?_))
      | ((with_reducible refine Split.is_true ?_ ?_); decide; conv => whnf)
      | ((with_reducible refine Split.is_false ?_ ?_); decide; conv => whnf)
      | ((with_reducible refine Split.nez (fun _ => ?_) (fun _ => ?_)) <;> conv => whnf)
      | ((with_reducible refine Split.eqz (fun _ => ?_) (fun _ => ?_)) <;> conv => whnf)
      | ((with_reducible refine Split.and ?_))
      | ((with_reducible refine Split.or ?_))
      | ((with_reducible refine Split.streq (fun _ => ?_) (fun _ => ?_)) <;> conv => whnf)
      | ((with_reducible refine Split.dec (fun _ => ?_) (fun _ => ?_)) <;> conv => whnf)
      | ((with_reducible refine Split.mk (fun _ => ?_) (fun _ => ?_)) <;> conv => whnf)
      | ((with_reducible refine NilK.mk (fun _ => ?_) ?_) <;> conv => whnf)
      | ((with_reducible refine AltK.l ?_); (conv => whnf); (with_reducible refine Need.mk ?_ ?_); (first | omega | (refine ⟨?_, ?_⟩ <;> simp <;> omega) | (simp; omega)); conv => whnf)
      | ((with_reducible refine Need.mk ?_ ?_); (first | omega | rfl | decide | (refine ⟨?_, ?_⟩ <;> simp <;> omega) | (simp; omega)); conv => whnf)
      | ((with_reducible refine Wr.quo ?_ ?_ ?_ ?_); omega; omega; omega; conv => whnf)
      | ((with_reducible refine Wr.inr ?_ ?_); (first | omega | (simp; omega)); conv => whnf)
      | ((with_reducible refine Wr.inu ?_ ?_); omega; conv => whnf)
      | ((with_reducible refine AltK.l ?_); (conv => whnf); (first | (refine CallK.mk _ (ev_CheckGauge g) ?_) | (refine CallK.mk _ (ev_outside _ _ _) ?_)); conv => whnf)
      | (exfalso; first | omega | contradiction))
    simp_all [retOf, At3D, AtS, ivD]
def shortB (g : Ga) : Bool := decide (g.name.size ≤ 40) && (decide (g.marks.length ≤ 30) || (decide (400 < g.marks.length) && decide (g.marks.length < 420)))
theorem ev_Short (g : Ga) : Ev Try.prog 5 [gD g] (.bool (shortB g)) := by
  have hlen : (g.marks.map mD).length = g.marks.length := List.length_map _
  refine ev_of_awp tysOk mixed (fn := Try.f5) Try.func5 rfl rfl rfl ?_
  conv => whnf
  repeat' (first
    | ((with_reducible refine Split.of_true ?_); conv => whnf)
    | ((with_reducible refine Split.of_false ?_); conv => whnf)
    | ((with_reducible refine Split.neg ?_))
    | ((with_reducible refine Split.is_true ?_ ?_); decide; conv => whnf)
    | ((with_reducible refine Split.is_false ?_ ?_); decide; conv => whnf)
    | ((with_reducible refine Split.nez (fun _ => ?_) (fun _ => ?_)) <;> conv => whnf)
    | ((with_reducible refine Split.eqz (fun _ => ?_) (fun _ => ?_)) <;> conv => whnf)
    | ((with_reducible refine Split.and ?_))
    | ((with_reducible refine Split.or ?_))
    | ((with_reducible refine Split.streq (fun _ => ?_) (fun _ => ?_)) <;> conv => whnf)
    | ((with_reducible refine Split.dec (fun _ => ?_) (fun _ => ?_)) <;> conv => whnf)
    | ((with_reducible refine Split.mk (fun _ => ?_) (fun _ => ?_)) <;> conv => whnf)
    | ((with_reducible refine NilK.mk (fun _ => ?_) ?_) <;> conv => whnf)
    | ((with_reducible refine AltK.l ?_); (conv => whnf); (with_reducible refine Need.mk ?_ ?_); (first | omega | (refine ⟨?_, ?_⟩ <;> simp <;> omega) | (simp; omega)); conv => whnf)
    | ((with_reducible refine Need.mk ?_ ?_); (first | omega | rfl | decide | (refine ⟨?_, ?_⟩ <;> simp <;> omega) | (simp; omega)); conv => whnf)
    | ((with_reducible refine Wr.quo ?_ ?_ ?_ ?_); omega; omega; omega; conv => whnf)
    | ((with_reducible refine Wr.inr ?_ ?_); (first | omega | (simp; omega)); conv => whnf)
    | ((with_reducible refine Wr.inu ?_ ?_); omega; conv => whnf)
    | (exfalso; first | omega | contradiction))
  all_goals simp only [retOf, shortB]
  all_goals congr 1
  all_goals rw [Bool.eq_iff_iff]
  all_goals simp
  all_goals omega
def pierG : Ga := ⟨⟨#[112, 105, 101, 114]⟩, 0, 2, [⟨0, 0⟩, ⟨10, 25⟩]⟩
theorem ev_pier : Ev Try.prog 10 [] (gD pierG) := by
  refine ev_of_awp tysOk mixed (fn := Try.f10) Try.func10 rfl rfl rfl ?_
  conv => whnf
  repeat' (first
    | ((with_reducible refine Split.of_true ?_); conv => whnf)
    | ((with_reducible refine Split.of_false ?_); conv => whnf)
    | ((with_reducible refine Split.neg ?_))
    | ((with_reducible refine Split.is_true ?_ ?_); decide; conv => whnf)
    | ((with_reducible refine Split.is_false ?_ ?_); decide; conv => whnf)
    | ((with_reducible refine Split.nez (fun _ => ?_) (fun _ => ?_)) <;> conv => whnf)
    | ((with_reducible refine Split.eqz (fun _ => ?_) (fun _ => ?_)) <;> conv => whnf)
    | ((with_reducible refine Split.and ?_))
    | ((with_reducible refine Split.or ?_))
    | ((with_reducible refine Split.streq (fun _ => ?_) (fun _ => ?_)) <;> conv => whnf)
    | ((with_reducible refine Split.dec (fun _ => ?_) (fun _ => ?_)) <;> conv => whnf)
    | ((with_reducible refine Split.mk (fun _ => ?_) (fun _ => ?_)) <;> conv => whnf)
    | ((with_reducible refine NilK.mk (fun _ => ?_) ?_) <;> conv => whnf)
    | ((with_reducible refine AltK.l ?_); (conv => whnf); (with_reducible refine Need.mk ?_ ?_); (first | omega | (refine ⟨?_, ?_⟩ <;> simp <;> omega) | (simp; omega)); conv => whnf)
    | ((with_reducible refine Need.mk ?_ ?_); (first | omega | rfl | decide | (refine ⟨?_, ?_⟩ <;> simp <;> omega) | (simp; omega)); conv => whnf)
    | ((with_reducible refine Wr.quo ?_ ?_ ?_ ?_); omega; omega; omega; conv => whnf)
    | ((with_reducible refine Wr.inr ?_ ?_); (first | omega | (simp; omega)); conv => whnf)
    | ((with_reducible refine Wr.inu ?_ ?_); omega; conv => whnf)
    | (exfalso; first | omega | contradiction))
  rfl
theorem pier_at : AtS pierG 3 = (5, 10, 0) := by decide
theorem ev_awake : Ev Try.prog 4 [] (.bool true) := by
  have h := ev_At pierG 3
  rw [pier_at] at h
  refine ev_of_awp tysOk mixed (fn := Try.f4) Try.func4 rfl rfl rfl ?_
  conv => whnf
  repeat' (first
    | ((with_reducible refine Split.of_true ?_); conv => whnf)
    | ((with_reducible refine Split.of_false ?_); conv => whnf)
    | ((with_reducible refine Split.neg ?_))
    | ((with_reducible refine Split.is_true ?_ ?_); decide; conv => whnf)
    | ((with_reducible refine Split.is_false ?_ ?_); decide; conv => whnf)
    | ((with_reducible refine Split.nez (fun _ => ?_) (fun _ => ?_)) <;> conv => whnf)
    | ((with_reducible refine Split.eqz (fun _ => ?_) (fun _ => ?_)) <;> conv => whnf)
    | ((with_reducible refine Split.and ?_))
    | ((with_reducible refine Split.or ?_))
    | ((with_reducible refine Split.streq (fun _ => ?_) (fun _ => ?_)) <;> conv => whnf)
    | ((with_reducible refine Split.dec (fun _ => ?_) (fun _ => ?_)) <;> conv => whnf)
    | ((with_reducible refine Split.mk (fun _ => ?_) (fun _ => ?_)) <;> conv => whnf)
    | ((with_reducible refine NilK.mk (fun _ => ?_) ?_) <;> conv => whnf)
    | ((with_reducible refine AltK.l ?_); (conv => whnf); (with_reducible refine Need.mk ?_ ?_); (first | omega | (refine ⟨?_, ?_⟩ <;> simp <;> omega) | (simp; omega)); conv => whnf)
    | ((with_reducible refine Need.mk ?_ ?_); (first | omega | rfl | decide | (refine ⟨?_, ?_⟩ <;> simp <;> omega) | (simp; omega)); conv => whnf)
    | ((with_reducible refine Wr.quo ?_ ?_ ?_ ?_); omega; omega; omega; conv => whnf)
    | ((with_reducible refine Wr.inr ?_ ?_); (first | omega | (simp; omega)); conv => whnf)
    | ((with_reducible refine Wr.inu ?_ ?_); omega; conv => whnf)
    | ((with_reducible refine AltK.l ?_); (conv => whnf); (first | (refine CallK.mk _ (ev_pier) ?_) | (refine CallK.mk _ (h) ?_)); conv => whnf)
    | (exfalso; first | omega | contradiction))
  rfl
theorem floor_facts {n d : Int} (hd : 0 < d) : (n / d) * d ≤ n ∧ n ≤ upZ n d * d ∧ upZ n d - n / d ≤ 1 := by
  have h1 := Int.ediv_mul_le n (Int.ne_of_gt hd)
  have h2 := Int.ediv_mul_le (-n) (Int.ne_of_gt hd)
  have h3 := Int.lt_ediv_add_one_mul_self n hd
  have h4 : -(n / d) - 1 ≤ -n / d := by
    refine (Int.le_ediv_iff_mul_le hd).2 ?_
    have e1 : (-(n / d) - 1) * d = -((n / d + 1) * d) := by rw [← Int.neg_mul]; congr 1; omega
    omega
  unfold upZ
  refine ⟨h1, ?_, by omega⟩
  rw [Int.neg_mul]
  omega
end Go.Proofs.Try
