/- Texts TwD TwG TwH TwI TwL, joined; what is not needed is left out. -/
import Derived.Test.YtpbhikmlcaddmaaGreatMpa
import Derived.Test.YtpbhikmlcaddmaaGreatMgH
section
namespace Go.Proofs.Tryz
open Go Go.Vm
set_option maxRecDepth 20000
set_option maxHeartbeats 2000000
def posF (l : List Mk) (t : Int) : Nat := (l.takeWhile fun m => decide (m.m < t)).length
theorem posF_le (l : List Mk) (t : Int) : posF l t ≤ l.length := (List.takeWhile_prefix _).length_le
theorem markErr_zero : ∀ (l : List Mk) (p : Option Mk), markErr p l = 0 → (∀ m ∈ l, wrongB m.m m.l = false) ∧ l.Pairwise (fun a b => a.m < b.m) ∧ ∀ q, p = some q → ∀ m ∈ l, q.m < m.m
  | [], p, _ => ⟨(fun m h => (by cases h)), .nil, (fun q _ m h => (by cases h))⟩
  | m :: r, p, h => by
    simp only [markErr] at h
    split at h
    · cases h
    · rename_i hw
      have hw : wrongB m.m m.l = false := by simpa using hw
      have key : markErr (some m) r = 0 ∧ ∀ q, p = some q → q.m < m.m := by
        cases p with
        | none => exact ⟨h, (fun q hq => (by cases hq))⟩
        | some q0 =>
          simp only at h
          split at h
          · cases h
          · rename_i hlt
            exact ⟨h, fun q hq => by cases hq; omega⟩
      obtain ⟨h1, h2, h3⟩ := markErr_zero r (some m) key.1
      refine ⟨fun x hx => ?_, List.pairwise_cons.2 ⟨h3 m rfl, h2⟩, fun q hq x hx => ?_⟩
      · cases hx with
        | head => exact hw
        | tail _ hx => exact h1 x hx
      · cases hx with
        | head => exact key.2 q hq
        | tail _ hx => have := key.2 q hq; have := h3 m rfl x hx; omega
theorem posF_spec {t : Int} : ∀ {l : List Mk}, l.Pairwise (fun a b => a.m < b.m) → ∀ (k : Nat) m, l[k]? = some m → (k < posF l t → m.m < t) ∧ (posF l t ≤ k → t ≤ m.m)
  | [], _, k, m, h => by simp at h
  | a :: r, hp, k, m, h => by
    obtain ⟨h1, h2⟩ := List.pairwise_cons.1 hp
    by_cases ha : a.m < t
    · have e : posF (a :: r) t = posF r t + 1 := by simp [posF, ha]
      rw [e]
      cases k with
      | zero => simp only [List.getElem?_cons_zero, Option.some.injEq] at h; subst h; exact ⟨fun _ => ha, fun h => by omega⟩
      | succ k =>
        have := posF_spec (t := t) h2 k m (by simpa using h)
        exact ⟨fun h => this.1 (by omega), fun h => this.2 (by omega)⟩
    · have e : posF (a :: r) t = 0 := by simp [posF, ha]
      rw [e]
      refine ⟨fun h => by omega, fun _ => ?_⟩
      cases k with
      | zero => simp only [List.getElem?_cons_zero, Option.some.injEq] at h; subst h; omega
      | succ k =>
        have := h1 m (List.mem_of_getElem? (i := k) (by simpa using h))
        omega
structure Good (g : Ga) : Prop where
  err : 0 ≤ g.err ∧ g.err ≤ 1000
  x : -1000000 ≤ g.x ∧ g.x ≤ 1000000
  len : g.marks.length ≤ 400
  ok : ∀ m ∈ g.marks, wrongB m.m m.l = false
  asc : g.marks.Pairwise fun a b => a.m < b.m
theorem wrongB_false {m : Mk} (h : wrongB m.m m.l = false) : 0 ≤ m.m ∧ m.m ≤ 1000000 ∧ -20000 ≤ m.l ∧ m.l ≤ 20000 := by
  simp only [wrongB, outsideB, Bool.or_eq_false_iff, decide_eq_false_iff_not] at h
  omega
theorem good_of_rec {g : Ga} (h : recErr g = 0) : Good g := by
  unfold recErr at h
  split at h
  · cases h
  · rename_i h1
    split at h
    · cases h
    · obtain ⟨a, b, -⟩ := markErr_zero _ _ h
      simp only [outsideB, Bool.or_eq_true, decide_eq_true_eq, not_or] at h1
      exact ⟨by omega, by omega, by omega, a, b⟩
theorem good_of {g : Ga} (h : gErr g = 0) : Good g := by
  unfold gErr at h
  split at h
  · exact good_of_rec h
  · cases h
def meanS (g : Ga) (t : Int) : Int × Int × Bool := meanAt g.marks (posF g.marks t) t
theorem ev_meanS {g : Ga} {t : Int} (h : Good g) (ht : 0 ≤ t ∧ t ≤ 1000000) : Ev Tryz.prog 126 [gD g, .int .i64 t] (m3D (meanS g t)) :=
  ev_mean g t _ h.len h.ok ht (posF_le _ _) (posF_spec h.asc)
theorem mean_bd {g : Ga} {t : Int} (h : Good g) : 0 < (meanS g t).2.1 ∧ (meanS g t).2.1 ≤ 1000000 ∧ -60000000000 ≤ (meanS g t).1 ∧ (meanS g t).1 ≤ 60000000000 := by
  have hp := posF_spec (t := t) h.asc
  unfold meanS
  generalize posF g.marks t = p at hp
  unfold meanAt
  split
  · rename_i b hb
    have wb := wrongB_false (h.ok b (List.mem_of_getElem? hb))
    split
    · simp only; omega
    · split
      · simp only; omega
      · rename_i q' q
        split
        · rename_i a ha
          have wa := wrongB_false (h.ok a (List.mem_of_getElem? ha))
          have h1 := (hp q a ha).1 (by omega)
          have h2 := (hp (q+1) b hb).2 (by omega)
          have e1 := mul_bd (x := a.l) (y := b.m - a.m) (X := 20000) (Y := 1000000) (by omega) (by omega)
          have e2 := mul_bd (x := b.l - a.l) (y := t - a.m) (X := 40000) (Y := 1000000) (by omega) (by omega)
          simp only
          omega
        · simp only; omega
  · simp only; omega
def ivD (lo hi : Int) : D := .agg [.int .i64 lo, .int .i64 hi]
def atS (g : Ga) (t : Int) : Int × Int × Bool := if (meanS g t).2.2 then ((meanS g t).1 / (meanS g t).2.1 - g.err, upZ (meanS g t).1 (meanS g t).2.1 + g.err, true) else (0, 0, false)
def at3D (x : Int × Int × Bool) : D := .tup [ivD x.1 x.2.1, .bool x.2.2]
theorem ev_at {g : Ga} {t : Int} (h : Good g) (ht : 0 ≤ t ∧ t ≤ 1000000) : Ev Tryz.prog 109 [gD g, .int .i64 t] (at3D (atS g t)) := by
  have hm := ev_meanS h ht
  have hb := mean_bd (t := t) h
  have he := h.err
  unfold atS
  generalize meanS g t = x at hm hb
  obtain ⟨n, d, ok⟩ := x
  dsimp only at hb ⊢
  have q1 := ediv_bd (a := n) (M := 60000000000) hb.1 (by omega)
  have q2 := ediv_bd (a := -n) (M := 60000000000) hb.1 (by omega)
  have d1 := ev_down n d hb.1 (by omega)
  have d2 := ev_up n d hb.1 (by omega)
  unfold upZ at d2 ⊢
  generalize n / d = u at *
  generalize -n / d = v at *
  refine ev_of_awp tysOk mixed (fn := Tryz.f109) Tryz.func109 rfl rfl rfl ?_
  conv => whnf
  repeat' (first | ((with_reducible refine Split.of_true ?_); conv => whnf) | ((with_reducible refine Split.of_false ?_); conv => whnf) | ((with_reducible refine Split.neg ?_)) | ((with_reducible refine Split.is_true ?_ ?_); decide; conv => whnf) | ((with_reducible refine Split.is_false ?_ ?_); decide; conv => whnf) | ((with_reducible refine Split.nez (fun _ => ?_) (fun _ => ?_)) <;> conv => whnf) | ((with_reducible refine Split.eqz (fun _ => ?_) (fun _ => ?_)) <;> conv => whnf) | ((with_reducible refine Split.and ?_)) | ((with_reducible refine Split.or ?_)) | ((with_reducible refine Split.streq (fun _ => ?_) (fun _ => ?_)) <;> conv => whnf) | ((with_reducible refine Split.dec (fun _ => ?_) (fun _ => ?_)) <;> conv => whnf) | ((with_reducible refine Split.mk (fun _ => ?_) (fun _ => ?_)) <;> conv => whnf) | ((with_reducible refine NilK.mk (fun _ => ?_) ?_) <;> conv => whnf) | ((with_reducible refine AltK.l ?_); (conv => whnf); (with_reducible refine Need.mk ?_ ?_); (first | omega | (refine ⟨?_, ?_⟩ <;> simp <;> omega) | (simp; omega)); conv => whnf) | ((with_reducible refine Need.mk ?_ ?_); (first | omega | rfl | decide | (refine ⟨?_, ?_⟩ <;> simp <;> omega) | (simp; omega)); conv => whnf) | ((with_reducible refine Wr.quo ?_ ?_ ?_ ?_); omega; omega; omega; conv => whnf) | ((with_reducible refine Wr.inr ?_ ?_); (first | omega | (simp; omega)); conv => whnf) | ((with_reducible refine Wr.inu ?_ ?_); omega; conv => whnf) | ((with_reducible refine AltK.l ?_); (conv => whnf); (first | (refine CallK.mk _ (hm) ?_) | (refine CallK.mk _ (d1) ?_) | (refine CallK.mk _ (d2) ?_)); conv => whnf) | (exfalso; first | omega | contradiction))
  · have hok : ok = true := by assumption
    simp only [retOf, at3D, ivD, hok, if_true]
  · have hok : ok = false := by assumption
    simp only [retOf, at3D, ivD, hok, Bool.false_eq_true, if_false]
def At3D (x : Int × Int × Int) : D := .tup [ivD x.1 x.2.1, .int .i64 x.2.2]
/-- The slow way to the mean level agrees. -/
theorem ev_Mean {g : Ga} {t : Int} (h : Good g) (ht : 0 ≤ t ∧ t ≤ 1000000) : Ev Tryz.prog 72 [gD g, .int .i64 t] (m3D (meanS g t)) := by
  have hlen : (g.marks.map mD).length = g.marks.length := List.length_map _
  have hl := h.len
  have hp := posF_spec (t := t) h.asc
  have hple := posF_le g.marks t
  unfold meanS
  generalize posF g.marks t = p at hp hple
  refine ev_of_awp tysOk mixed (fn := Tryz.f72) Tryz.func72 rfl rfl rfl ?_
  conv => whnf
  repeat' (first | ((with_reducible refine Split.of_true ?_); conv => whnf) | ((with_reducible refine Split.of_false ?_); conv => whnf) | ((with_reducible refine Split.neg ?_)) | ((with_reducible refine Split.is_true ?_ ?_); decide; conv => whnf) | ((with_reducible refine Split.is_false ?_ ?_); decide; conv => whnf) | ((with_reducible refine Split.nez (fun _ => ?_) (fun _ => ?_)) <;> conv => whnf) | ((with_reducible refine Split.eqz (fun _ => ?_) (fun _ => ?_)) <;> conv => whnf) | ((with_reducible refine Split.and ?_)) | ((with_reducible refine Split.or ?_)) | ((with_reducible refine Split.streq (fun _ => ?_) (fun _ => ?_)) <;> conv => whnf) | ((with_reducible refine Split.dec (fun _ => ?_) (fun _ => ?_)) <;> conv => whnf) | ((with_reducible refine Split.mk (fun _ => ?_) (fun _ => ?_)) <;> conv => whnf) | ((with_reducible refine NilK.mk (fun _ => ?_) ?_) <;> conv => whnf) | ((with_reducible refine AltK.l ?_); (conv => whnf); (with_reducible refine Need.mk ?_ ?_); (first | omega | (refine ⟨?_, ?_⟩ <;> simp <;> omega) | (simp; omega)); conv => whnf) | ((with_reducible refine Need.mk ?_ ?_); (first | omega | rfl | decide | (refine ⟨?_, ?_⟩ <;> simp <;> omega) | (simp; omega)); conv => whnf) | ((with_reducible refine Wr.quo ?_ ?_ ?_ ?_); omega; omega; omega; conv => whnf) | ((with_reducible refine Wr.inr ?_ ?_); (first | omega | (simp; omega)); conv => whnf) | ((with_reducible refine Wr.inu ?_ ?_); omega; conv => whnf) | (exfalso; first | omega | contradiction))
  refine LoopK.mk (fun i => i ≤ g.marks.length ∧ i ≤ p)
    (fun i => ⟨[(0, .d (gD g)), (1, .d (.int .i64 t)), (2, .ptr 2 0), (4, .d (.int .i64 0)), (5, .d (.int .i64 0)), (6, .d (.bool false)), (7, .d (.int .i64 i))],
      [(2, .var [.d (.str g.name), .d (.int .i64 g.x), .d (.int .i64 g.err), .d (.sl 2 (g.marks.map mD))] false)]⟩)
    (fun i => g.marks.length - i) 0 [] ⟨by omega, by omega⟩ (by refine ⟨?_, ?_, rfl⟩ <;> (repeat' (first | exact True.intro | exact rfl | refine ⟨?_, ?_⟩ | (intro h; cases h; done) | (intro h; exact h) | exact map_snoc | (refine own_congr ?_; simp; done) | (refine int_congr ?_; (first | omega | (simp; omega))) | (simp; done)))) ?_
  rintro i ⟨hi, hip⟩
  conv => whnf
  repeat' (first | ((with_reducible refine Split.of_true ?_); conv => whnf) | ((with_reducible refine Split.of_false ?_); conv => whnf) | ((with_reducible refine Split.neg ?_)) | ((with_reducible refine Split.is_true ?_ ?_); decide; conv => whnf) | ((with_reducible refine Split.is_false ?_ ?_); decide; conv => whnf) | ((with_reducible refine Split.nez (fun _ => ?_) (fun _ => ?_)) <;> conv => whnf) | ((with_reducible refine Split.eqz (fun _ => ?_) (fun _ => ?_)) <;> conv => whnf) | ((with_reducible refine Split.and ?_)) | ((with_reducible refine Split.or ?_)) | ((with_reducible refine Split.streq (fun _ => ?_) (fun _ => ?_)) <;> conv => whnf) | ((with_reducible refine Split.dec (fun _ => ?_) (fun _ => ?_)) <;> conv => whnf) | ((with_reducible refine Split.mk (fun _ => ?_) (fun _ => ?_)) <;> conv => whnf) | ((with_reducible refine NilK.mk (fun _ => ?_) ?_) <;> conv => whnf) | ((with_reducible refine AltK.l ?_); (conv => whnf); (with_reducible refine Need.mk ?_ ?_); (first | omega | (refine ⟨?_, ?_⟩ <;> simp <;> omega) | (simp; omega)); conv => whnf) | ((with_reducible refine Need.mk ?_ ?_); (first | omega | rfl | decide | (refine ⟨?_, ?_⟩ <;> simp <;> omega) | (simp; omega)); conv => whnf) | ((with_reducible refine Wr.quo ?_ ?_ ?_ ?_); omega; omega; omega; conv => whnf) | ((with_reducible refine Wr.inr ?_ ?_); (first | omega | (simp; omega)); conv => whnf) | ((with_reducible refine Wr.inu ?_ ?_); omega; conv => whnf) | (exfalso; first | omega | contradiction))
  · obtain ⟨b, hb⟩ := some_of_lt (l := g.marks) (i := i) (by omega)
    have hpi := hp i b hb
    refine PickE.map i hb (by omega) ?_
    have hq : i = 0 ∨ ∃ q a, i = q + 1 ∧ g.marks[q]? = some a := by
      cases i with
      | zero => exact .inl rfl
      | succ q =>
        obtain ⟨a, ha⟩ := some_of_lt (l := g.marks) (i := q) (by omega)
        exact .inr ⟨q, a, rfl, ha⟩
    conv => whnf
    repeat' (first | ((with_reducible refine Split.of_true ?_); conv => whnf) | ((with_reducible refine Split.of_false ?_); conv => whnf) | ((with_reducible refine Split.neg ?_)) | ((with_reducible refine Split.is_true ?_ ?_); decide; conv => whnf) | ((with_reducible refine Split.is_false ?_ ?_); decide; conv => whnf) | ((with_reducible refine Split.nez (fun _ => ?_) (fun _ => ?_)) <;> conv => whnf) | ((with_reducible refine Split.eqz (fun _ => ?_) (fun _ => ?_)) <;> conv => whnf) | ((with_reducible refine Split.and ?_)) | ((with_reducible refine Split.or ?_)) | ((with_reducible refine Split.streq (fun _ => ?_) (fun _ => ?_)) <;> conv => whnf) | ((with_reducible refine Split.dec (fun _ => ?_) (fun _ => ?_)) <;> conv => whnf) | ((with_reducible refine Split.mk (fun _ => ?_) (fun _ => ?_)) <;> conv => whnf) | ((with_reducible refine NilK.mk (fun _ => ?_) ?_) <;> conv => whnf) | ((with_reducible refine AltK.l ?_); (conv => whnf); (with_reducible refine Need.mk ?_ ?_); (first | omega | (refine ⟨?_, ?_⟩ <;> simp <;> omega) | (simp; omega)); conv => whnf) | ((with_reducible refine Need.mk ?_ ?_); (first | omega | rfl | decide | (refine ⟨?_, ?_⟩ <;> simp <;> omega) | (simp; omega)); conv => whnf) | ((with_reducible refine Wr.quo ?_ ?_ ?_ ?_); omega; omega; omega; conv => whnf) | ((with_reducible refine Wr.inr ?_ ?_); (first | omega | (simp; omega)); conv => whnf) | ((with_reducible refine Wr.inu ?_ ?_); omega; conv => whnf) | (exfalso; first | omega | contradiction))
    · have e : p = i := by omega
      have hbt : b.m = t := by assumption
      subst e
      simp only [retOf, meanAt, hb, hbt, if_true, m3D]
    · have e : p = 0 := by omega
      have e' : i = 0 := by omega
      subst e; subst e'
      have hbt : b.m ≠ t := by assumption
      simp only [retOf, meanAt, hb, hbt, if_false, m3D]
    · obtain ⟨q, a, rfl, ha⟩ := hq.resolve_left (by omega)
      have e : p = q + 1 := by omega
      subst e
      have hbt : b.m ≠ t := by assumption
      have wa := wrongB_false (h.ok a (List.mem_of_getElem? ha))
      have wb := wrongB_false (h.ok b (List.mem_of_getElem? hb))
      have h1 := (hp q a ha).1 (by omega)
      have e1 := mul_bd (x := a.l) (y := b.m - a.m) (X := 20000) (Y := 1000000) (by omega) (by omega)
      have e2 := mul_bd (x := b.l - a.l) (y := t - a.m) (X := 40000) (Y := 1000000) (by omega) (by omega)
      refine PickE.map q ha (by omega) ?_
      conv => whnf
      repeat' (first | ((with_reducible refine Split.of_true ?_); conv => whnf) | ((with_reducible refine Split.of_false ?_); conv => whnf) | ((with_reducible refine Split.neg ?_)) | ((with_reducible refine Split.is_true ?_ ?_); decide; conv => whnf) | ((with_reducible refine Split.is_false ?_ ?_); decide; conv => whnf) | ((with_reducible refine Split.nez (fun _ => ?_) (fun _ => ?_)) <;> conv => whnf) | ((with_reducible refine Split.eqz (fun _ => ?_) (fun _ => ?_)) <;> conv => whnf) | ((with_reducible refine Split.and ?_)) | ((with_reducible refine Split.or ?_)) | ((with_reducible refine Split.streq (fun _ => ?_) (fun _ => ?_)) <;> conv => whnf) | ((with_reducible refine Split.dec (fun _ => ?_) (fun _ => ?_)) <;> conv => whnf) | ((with_reducible refine Split.mk (fun _ => ?_) (fun _ => ?_)) <;> conv => whnf) | ((with_reducible refine NilK.mk (fun _ => ?_) ?_) <;> conv => whnf) | ((with_reducible refine AltK.l ?_); (conv => whnf); (with_reducible refine Need.mk ?_ ?_); (first | omega | (refine ⟨?_, ?_⟩ <;> simp <;> omega) | (simp; omega)); conv => whnf) | ((with_reducible refine Need.mk ?_ ?_); (first | omega | rfl | decide | (refine ⟨?_, ?_⟩ <;> simp <;> omega) | (simp; omega)); conv => whnf) | ((with_reducible refine Wr.quo ?_ ?_ ?_ ?_); omega; omega; omega; conv => whnf) | ((with_reducible refine Wr.inr ?_ ?_); (first | omega | (simp; omega)); conv => whnf) | ((with_reducible refine Wr.inu ?_ ?_); omega; conv => whnf) | (exfalso; first | omega | contradiction))
      simp only [retOf, meanAt, hb, ha, hbt, if_false, m3D]
    · exact Again.mk (i + 1) [] ⟨by omega, by omega⟩ (by omega) (by refine ⟨?_, ?_, rfl⟩ <;> (repeat' (first | exact True.intro | exact rfl | refine ⟨?_, ?_⟩ | (intro h; cases h; done) | (intro h; exact h) | exact map_snoc | (refine own_congr ?_; simp; done) | (refine int_congr ?_; (first | omega | (simp; omega))) | (simp; done))))
  · have : g.marks[p]? = none := List.getElem?_eq_none (by omega)
    simp only [retOf, meanAt, this, m3D]
theorem ev_AtR {g : Ga} {t : Int} (h : Good g) (ht : 0 ≤ t ∧ t ≤ 1000000) : Ev Tryz.prog 44 [gD g, .int .i64 t] (at3D (atS g t)) := by
  have hm := ev_Mean h ht
  have hb := mean_bd (t := t) h
  have he := h.err
  unfold atS
  generalize meanS g t = x at hm hb
  obtain ⟨n, d, ok⟩ := x
  dsimp only at hb ⊢
  have q1 := ediv_bd (a := n) (M := 60000000000) hb.1 (by omega)
  have q2 := ediv_bd (a := -n) (M := 60000000000) hb.1 (by omega)
  have d1 := ev_Down n d hb.1 (by omega)
  have d2 := ev_Up n d hb.1 (by omega)
  unfold upZ at d2 ⊢
  generalize n / d = u at *
  generalize -n / d = v at *
  refine ev_of_awp tysOk mixed (fn := Tryz.f44) Tryz.func44 rfl rfl rfl ?_
  conv => whnf
  repeat' (first | ((with_reducible refine Split.of_true ?_); conv => whnf) | ((with_reducible refine Split.of_false ?_); conv => whnf) | ((with_reducible refine Split.neg ?_)) | ((with_reducible refine Split.is_true ?_ ?_); decide; conv => whnf) | ((with_reducible refine Split.is_false ?_ ?_); decide; conv => whnf) | ((with_reducible refine Split.nez (fun _ => ?_) (fun _ => ?_)) <;> conv => whnf) | ((with_reducible refine Split.eqz (fun _ => ?_) (fun _ => ?_)) <;> conv => whnf) | ((with_reducible refine Split.and ?_)) | ((with_reducible refine Split.or ?_)) | ((with_reducible refine Split.streq (fun _ => ?_) (fun _ => ?_)) <;> conv => whnf) | ((with_reducible refine Split.dec (fun _ => ?_) (fun _ => ?_)) <;> conv => whnf) | ((with_reducible refine Split.mk (fun _ => ?_) (fun _ => ?_)) <;> conv => whnf) | ((with_reducible refine NilK.mk (fun _ => ?_) ?_) <;> conv => whnf) | ((with_reducible refine AltK.l ?_); (conv => whnf); (with_reducible refine Need.mk ?_ ?_); (first | omega | (refine ⟨?_, ?_⟩ <;> simp <;> omega) | (simp; omega)); conv => whnf) | ((with_reducible refine Need.mk ?_ ?_); (first | omega | rfl | decide | (refine ⟨?_, ?_⟩ <;> simp <;> omega) | (simp; omega)); conv => whnf) | ((with_reducible refine Wr.quo ?_ ?_ ?_ ?_); omega; omega; omega; conv => whnf) | ((with_reducible refine Wr.inr ?_ ?_); (first | omega | (simp; omega)); conv => whnf) | ((with_reducible refine Wr.inu ?_ ?_); omega; conv => whnf) | ((with_reducible refine AltK.l ?_); (conv => whnf); (first | (refine CallK.mk _ (hm) ?_) | (refine CallK.mk _ (d1) ?_) | (refine CallK.mk _ (d2) ?_)); conv => whnf) | (exfalso; first | omega | contradiction))
  · have hok : ok = true := by assumption
    simp only [retOf, at3D, ivD, hok, if_true]
  · have hok : ok = false := by assumption
    simp only [retOf, at3D, ivD, hok, Bool.false_eq_true, if_false]
theorem floor_facts {n d : Int} (hd : 0 < d) : (n / d) * d ≤ n ∧ n ≤ upZ n d * d ∧ upZ n d - n / d ≤ 1 := by
  have h1 := Int.ediv_mul_le n (Int.ne_of_gt hd)
  have h2 := Int.ediv_mul_le (-n) (Int.ne_of_gt hd)
  have h3 := Int.lt_ediv_add_one_mul_self n hd
  have h4 : -(n / d) - 1 ≤ -n / d := by
    refine (Int.le_ediv_iff_mul_le hd).2 ?_
    have e1 : (-(n / d) - 1) * d = -((n / d + 1) * d) := by rw [← Int.neg_mul]; congr 1; omega
    omega
  unfold upZ
  refine ⟨h1, ?_, by omega⟩
  rw [Int.neg_mul]
  omega
end Go.Proofs.Tryz
end

section
namespace Go.Proofs.Tryz
open Go Go.Vm
/-- The mean level, by recursion on the marks. -/
def meanR : List Mk → Int → Option (Int × Int)
  | [], _ => none
  | [b], t => if b.m = t then some (b.l, 1) else none
  | a :: b :: r, t => if a.m = t then some (a.l, 1) else if t < a.m then none else if t < b.m then some (a.l * (b.m - a.m) + (b.l - a.l) * (t - a.m), b.m - a.m) else meanR (b :: r) t
/-- Two fractions (or none) of one value. -/
def Fr : Option (Int × Int) → Option (Int × Int) → Prop
  | none, none => True
  | some (n, d), some (n', d') => 0 < d ∧ 0 < d' ∧ n * d' = n' * d
  | _, _ => False
theorem Fr.trans {a b c : Option (Int × Int)} (h1 : Fr a b) (h2 : Fr b c) : Fr a c := by
  match a, b, c, h1, h2 with
  | none, none, none, _, _ => trivial
  | some (n, d), some (n', d'), some (n'', d''), ⟨p1, p2, e1⟩, ⟨_, p3, e2⟩ =>
    refine ⟨p1, p3, ?_⟩
    have : (n * d'') * d' = (n'' * d) * d' := by grind
    exact Int.eq_of_mul_eq_mul_right (by omega) this
theorem meanR_pos : ∀ {l : List Mk} {t n d : Int}, l.Pairwise (fun a b => a.m < b.m) → meanR l t = some (n, d) → 0 < d
  | [], t, n, d, _, h => by cases h
  | [b], t, n, d, _, h => by
    simp only [meanR] at h
    split at h
    · simp at h; omega
    · cases h
  | a :: b :: r, t, n, d, hp, h => by
    obtain ⟨h1, h2⟩ := List.pairwise_cons.1 hp
    have hab := h1 b (List.mem_cons_self ..)
    simp only [meanR] at h
    split at h
    · simp at h; omega
    · split at h
      · cases h
      · split at h
        · simp at h; omega
        · exact meanR_pos h2 h
theorem Fr.refl {l : List Mk} {t : Int} (hp : l.Pairwise (fun a b => a.m < b.m)) : Fr (meanR l t) (meanR l t) := by
  cases h : meanR l t with
  | none => trivial
  | some x => obtain ⟨n, d⟩ := x; have := meanR_pos hp h; exact ⟨this, this, rfl⟩
end Go.Proofs.Tryz
end

section
/- TideSimple: its contract. -/
namespace Go.Proofs.Tryz
open Go Go.Vm
set_option maxRecDepth 20000
set_option maxHeartbeats 2000000
end Go.Proofs.Tryz
end

section
namespace Go.Proofs.Tryz
open Go Go.Vm
set_option maxRecDepth 20000
set_option maxHeartbeats 2000000
theorem take_snoc {α : Type} {l : List α} {i : Nat} {m : α} (h : l[i]? = some m) : l.take (i + 1) = l.take i ++ [m] := by
  rw [List.take_add_one, h]; rfl
end Go.Proofs.Tryz
end

section
namespace Go.Proofs.Tryz
open Go Go.Vm
set_option maxRecDepth 20000
set_option maxHeartbeats 2000000
theorem ev_IndexG (l : List Ga) (f : Nat) (caps : List D) (p : Ga → Bool) (hn : l.length ≤ 1000000) (hf : ∀ g ∈ l, Ev Tryz.prog f ([gD g] ++ caps) (.bool (p g))) :
    Ev Tryz.prog 105 [.sl 4 (l.map gD), .fn f caps] (.int .i64 (match l.findIdx? p with | some i => (i : Int) | none => -1)) := by
  have hlen : (l.map gD).length = l.length := List.length_map _
  refine ev_of_awp tysOk mixed (fn := Tryz.f105) Tryz.func105 rfl rfl rfl ?_
  conv => whnf
  repeat' (first | ((with_reducible refine Split.of_true ?_); conv => whnf) | ((with_reducible refine Split.of_false ?_); conv => whnf) | ((with_reducible refine Split.neg ?_)) | ((with_reducible refine Split.is_true ?_ ?_); decide; conv => whnf) | ((with_reducible refine Split.is_false ?_ ?_); decide; conv => whnf) | ((with_reducible refine Split.nez (fun _ => ?_) (fun _ => ?_)) <;> conv => whnf) | ((with_reducible refine Split.eqz (fun _ => ?_) (fun _ => ?_)) <;> conv => whnf) | ((with_reducible refine Split.and ?_)) | ((with_reducible refine Split.or ?_)) | ((with_reducible refine Split.streq (fun _ => ?_) (fun _ => ?_)) <;> conv => whnf) | ((with_reducible refine Split.dec (fun _ => ?_) (fun _ => ?_)) <;> conv => whnf) | ((with_reducible refine Split.mk (fun _ => ?_) (fun _ => ?_)) <;> conv => whnf) | ((with_reducible refine NilK.mk (fun _ => ?_) ?_) <;> conv => whnf) | ((with_reducible refine AltK.l ?_); (conv => whnf); (with_reducible refine Need.mk ?_ ?_); (first | omega | (refine ⟨?_, ?_⟩ <;> simp <;> omega) | (simp; omega)); conv => whnf) | ((with_reducible refine Need.mk ?_ ?_); (first | omega | rfl | decide | (refine ⟨?_, ?_⟩ <;> simp <;> omega) | (simp; omega)); conv => whnf) | ((with_reducible refine Wr.quo ?_ ?_ ?_ ?_); omega; omega; omega; conv => whnf) | ((with_reducible refine Wr.inr ?_ ?_); (first | omega | (simp; omega)); conv => whnf) | ((with_reducible refine Wr.inu ?_ ?_); omega; conv => whnf) | (exfalso; first | omega | contradiction))
  refine LoopK.o2 (fun i : Nat => i ≤ l.length ∧ ∀ g ∈ l.take i, p g = false) (fun i => [(8, .d (.int .i64 i))]) (fun _ => []) (fun i => l.length - i) 0 (by simp) (by refine ⟨?_, ?_, rfl⟩ <;> (repeat' (first | exact True.intro | exact rfl | refine ⟨?_, ?_⟩ | (intro h; cases h; done) | (intro h; exact h) | exact map_snoc | (refine own_congr ?_; simp; done) | (refine int_congr ?_; (first | omega | (simp; omega))) | (simp; done)))) ?_
  rintro i ⟨hi, hp⟩
  have hn : (i : Int) < l.length → ∃ m, l[i]? = some m := fun h => some_of_lt (by omega)
  conv => whnf
  repeat' (first | ((with_reducible refine Split.of_true ?_); conv => whnf) | ((with_reducible refine Split.of_false ?_); conv => whnf) | ((with_reducible refine Split.neg ?_)) | ((with_reducible refine Split.is_true ?_ ?_); decide; conv => whnf) | ((with_reducible refine Split.is_false ?_ ?_); decide; conv => whnf) | ((with_reducible refine Split.nez (fun _ => ?_) (fun _ => ?_)) <;> conv => whnf) | ((with_reducible refine Split.eqz (fun _ => ?_) (fun _ => ?_)) <;> conv => whnf) | ((with_reducible refine Split.and ?_)) | ((with_reducible refine Split.or ?_)) | ((with_reducible refine Split.streq (fun _ => ?_) (fun _ => ?_)) <;> conv => whnf) | ((with_reducible refine Split.dec (fun _ => ?_) (fun _ => ?_)) <;> conv => whnf) | ((with_reducible refine Split.mk (fun _ => ?_) (fun _ => ?_)) <;> conv => whnf) | ((with_reducible refine NilK.mk (fun _ => ?_) ?_) <;> conv => whnf) | ((with_reducible refine AltK.l ?_); (conv => whnf); (with_reducible refine Need.mk ?_ ?_); (first | omega | (refine ⟨?_, ?_⟩ <;> simp <;> omega) | (simp; omega)); conv => whnf) | ((with_reducible refine Need.mk ?_ ?_); (first | omega | rfl | decide | (refine ⟨?_, ?_⟩ <;> simp <;> omega) | (simp; omega)); conv => whnf) | ((with_reducible refine Wr.quo ?_ ?_ ?_ ?_); omega; omega; omega; conv => whnf) | ((with_reducible refine Wr.inr ?_ ?_); (first | omega | (simp; omega)); conv => whnf) | ((with_reducible refine Wr.inu ?_ ?_); omega; conv => whnf) | (exfalso; first | omega | contradiction))
  · obtain ⟨g, hg⟩ := hn (by omega)
    have hf := hf g (List.mem_of_getElem? hg)
    conv => whnf
    repeat' (first | ((refine PickE.map i hg (by omega) ?_); conv => whnf) | ((with_reducible refine Split.of_true ?_); conv => whnf) | ((with_reducible refine Split.of_false ?_); conv => whnf) | ((with_reducible refine Split.neg ?_)) | ((with_reducible refine Split.is_true ?_ ?_); decide; conv => whnf) | ((with_reducible refine Split.is_false ?_ ?_); decide; conv => whnf) | ((with_reducible refine Split.nez (fun _ => ?_) (fun _ => ?_)) <;> conv => whnf) | ((with_reducible refine Split.eqz (fun _ => ?_) (fun _ => ?_)) <;> conv => whnf) | ((with_reducible refine Split.and ?_)) | ((with_reducible refine Split.or ?_)) | ((with_reducible refine Split.streq (fun _ => ?_) (fun _ => ?_)) <;> conv => whnf) | ((with_reducible refine Split.dec (fun _ => ?_) (fun _ => ?_)) <;> conv => whnf) | ((with_reducible refine Split.mk (fun _ => ?_) (fun _ => ?_)) <;> conv => whnf) | ((with_reducible refine NilK.mk (fun _ => ?_) ?_) <;> conv => whnf) | ((with_reducible refine AltK.l ?_); (conv => whnf); (with_reducible refine Need.mk ?_ ?_); (first | omega | (refine ⟨?_, ?_⟩ <;> simp <;> omega) | (simp; omega)); conv => whnf) | ((with_reducible refine Need.mk ?_ ?_); (first | omega | rfl | decide | (refine ⟨?_, ?_⟩ <;> simp <;> omega) | (simp; omega)); conv => whnf) | ((with_reducible refine Wr.quo ?_ ?_ ?_ ?_); omega; omega; omega; conv => whnf) | ((with_reducible refine Wr.inr ?_ ?_); (first | omega | (simp; omega)); conv => whnf) | ((with_reducible refine Wr.inu ?_ ?_); omega; conv => whnf) | (exfalso; first | omega | contradiction))
    refine AltK.l ?_
    conv => whnf
    refine CallK.mk _ hf ?_
    conv => whnf
    refine Split.mk (fun hpg => ?_) (fun hpg => ?_)
    · conv => whnf
      repeat' (first | ((with_reducible refine Split.of_true ?_); conv => whnf) | ((with_reducible refine Split.of_false ?_); conv => whnf) | ((with_reducible refine Split.neg ?_)) | ((with_reducible refine Split.is_true ?_ ?_); decide; conv => whnf) | ((with_reducible refine Split.is_false ?_ ?_); decide; conv => whnf) | ((with_reducible refine Split.nez (fun _ => ?_) (fun _ => ?_)) <;> conv => whnf) | ((with_reducible refine Split.eqz (fun _ => ?_) (fun _ => ?_)) <;> conv => whnf) | ((with_reducible refine Split.and ?_)) | ((with_reducible refine Split.or ?_)) | ((with_reducible refine Split.streq (fun _ => ?_) (fun _ => ?_)) <;> conv => whnf) | ((with_reducible refine Split.dec (fun _ => ?_) (fun _ => ?_)) <;> conv => whnf) | ((with_reducible refine Split.mk (fun _ => ?_) (fun _ => ?_)) <;> conv => whnf) | ((with_reducible refine NilK.mk (fun _ => ?_) ?_) <;> conv => whnf) | ((with_reducible refine AltK.l ?_); (conv => whnf); (with_reducible refine Need.mk ?_ ?_); (first | omega | (refine ⟨?_, ?_⟩ <;> simp <;> omega) | (simp; omega)); conv => whnf) | ((with_reducible refine Need.mk ?_ ?_); (first | omega | rfl | decide | (refine ⟨?_, ?_⟩ <;> simp <;> omega) | (simp; omega)); conv => whnf) | ((with_reducible refine Wr.quo ?_ ?_ ?_ ?_); omega; omega; omega; conv => whnf) | ((with_reducible refine Wr.inr ?_ ?_); (first | omega | (simp; omega)); conv => whnf) | ((with_reducible refine Wr.inu ?_ ?_); omega; conv => whnf) | (exfalso; first | omega | contradiction))
      have e : l.findIdx? p = some i := by
        rw [List.findIdx?_eq_some_iff_getElem]
        refine ⟨by omega, by rw [(List.getElem?_eq_some_iff.1 hg).2]; exact hpg, fun j hj => ?_⟩
        have := hp l[j] (List.mem_take_iff_getElem.2 ⟨j, by omega, rfl⟩)
        rw [this]; decide
      rw [e]; rfl
    · conv => whnf
      conv => whnf
      repeat' (first | ((with_reducible refine Split.of_true ?_); conv => whnf) | ((with_reducible refine Split.of_false ?_); conv => whnf) | ((with_reducible refine Split.neg ?_)) | ((with_reducible refine Split.is_true ?_ ?_); decide; conv => whnf) | ((with_reducible refine Split.is_false ?_ ?_); decide; conv => whnf) | ((with_reducible refine Split.nez (fun _ => ?_) (fun _ => ?_)) <;> conv => whnf) | ((with_reducible refine Split.eqz (fun _ => ?_) (fun _ => ?_)) <;> conv => whnf) | ((with_reducible refine Split.and ?_)) | ((with_reducible refine Split.or ?_)) | ((with_reducible refine Split.streq (fun _ => ?_) (fun _ => ?_)) <;> conv => whnf) | ((with_reducible refine Split.dec (fun _ => ?_) (fun _ => ?_)) <;> conv => whnf) | ((with_reducible refine Split.mk (fun _ => ?_) (fun _ => ?_)) <;> conv => whnf) | ((with_reducible refine NilK.mk (fun _ => ?_) ?_) <;> conv => whnf) | ((with_reducible refine AltK.l ?_); (conv => whnf); (with_reducible refine Need.mk ?_ ?_); (first | omega | (refine ⟨?_, ?_⟩ <;> simp <;> omega) | (simp; omega)); conv => whnf) | ((with_reducible refine Need.mk ?_ ?_); (first | omega | rfl | decide | (refine ⟨?_, ?_⟩ <;> simp <;> omega) | (simp; omega)); conv => whnf) | ((with_reducible refine Wr.quo ?_ ?_ ?_ ?_); omega; omega; omega; conv => whnf) | ((with_reducible refine Wr.inr ?_ ?_); (first | omega | (simp; omega)); conv => whnf) | ((with_reducible refine Wr.inu ?_ ?_); omega; conv => whnf) | (exfalso; first | omega | contradiction))
      refine Again.au (i + 1) ⟨by omega, fun x hx => ?_⟩ (by omega) (by refine ⟨?_, ?_, rfl⟩ <;> (repeat' (first | exact True.intro | exact rfl | refine ⟨?_, ?_⟩ | (intro h; cases h; done) | (intro h; exact h) | exact map_snoc | (refine own_congr ?_; simp; done) | (refine int_congr ?_; (first | omega | (simp; omega))) | (simp; done))))
      rw [take_snoc hg] at hx
      rcases List.mem_append.1 hx with hx | hx
      · exact hp x hx
      · rw [List.mem_singleton.1 hx]; exact hpg
  · have e : l.findIdx? p = none := by
      rw [List.findIdx?_eq_none_iff]
      intro x hx
      rw [← List.take_of_length_le (show l.length ≤ i by omega)] at hx
      exact hp x hx
    rw [e]; rfl
theorem ev_ContG (l : List Ga) (f : Nat) (caps : List D) (p : Ga → Bool) (hn : l.length ≤ 1000000) (hf : ∀ g ∈ l, Ev Tryz.prog f ([gD g] ++ caps) (.bool (p g))) :
    Ev Tryz.prog 67 [.sl 4 (l.map gD), .fn f caps] (.bool (l.any p)) := by
  have h := ev_IndexG l f caps p hn hf
  refine ev_of_awp tysOk mixed (fn := Tryz.f67) Tryz.func67 rfl rfl rfl ?_
  conv => whnf
  repeat' (first | ((with_reducible refine Split.of_true ?_); conv => whnf) | ((with_reducible refine Split.of_false ?_); conv => whnf) | ((with_reducible refine Split.neg ?_)) | ((with_reducible refine Split.is_true ?_ ?_); decide; conv => whnf) | ((with_reducible refine Split.is_false ?_ ?_); decide; conv => whnf) | ((with_reducible refine Split.nez (fun _ => ?_) (fun _ => ?_)) <;> conv => whnf) | ((with_reducible refine Split.eqz (fun _ => ?_) (fun _ => ?_)) <;> conv => whnf) | ((with_reducible refine Split.and ?_)) | ((with_reducible refine Split.or ?_)) | ((with_reducible refine Split.streq (fun _ => ?_) (fun _ => ?_)) <;> conv => whnf) | ((with_reducible refine Split.dec (fun _ => ?_) (fun _ => ?_)) <;> conv => whnf) | ((with_reducible refine Split.mk (fun _ => ?_) (fun _ => ?_)) <;> conv => whnf) | ((with_reducible refine NilK.mk (fun _ => ?_) ?_) <;> conv => whnf) | ((with_reducible refine AltK.l ?_); (conv => whnf); (with_reducible refine Need.mk ?_ ?_); (first | omega | (refine ⟨?_, ?_⟩ <;> simp <;> omega) | (simp; omega)); conv => whnf) | ((with_reducible refine Need.mk ?_ ?_); (first | omega | rfl | decide | (refine ⟨?_, ?_⟩ <;> simp <;> omega) | (simp; omega)); conv => whnf) | ((with_reducible refine Wr.quo ?_ ?_ ?_ ?_); omega; omega; omega; conv => whnf) | ((with_reducible refine Wr.inr ?_ ?_); (first | omega | (simp; omega)); conv => whnf) | ((with_reducible refine Wr.inu ?_ ?_); omega; conv => whnf) | ((with_reducible refine AltK.l ?_); (conv => whnf); (first | (refine CallK.mk _ (h) ?_)); conv => whnf) | (exfalso; first | omega | contradiction))
  cases e : l.findIdx? p with
  | some i =>
    have : l.any p = true := by
      obtain ⟨h1, h2, -⟩ := List.findIdx?_eq_some_iff_getElem.1 e
      exact List.any_eq_true.2 ⟨_, List.getElem_mem h1, h2⟩
    rw [this]
    simp only [retOf, D.bool.injEq, decide_eq_true_eq]; omega
  | none =>
    have : l.any p = false := by
      rw [List.any_eq_false]
      intro x hx
      rw [List.findIdx?_eq_none_iff.1 e x hx]; decide
    rw [this]; rfl
def sameN (g h : Ga) : Bool := h.name.toList == g.name.toList
theorem ev_CG1 (g h : Ga) : Ev Tryz.prog 68 [gD h, .ref (gD g).cells 0] (.bool (sameN g h)) := by
  refine ev_of_awp tysOk mixed (fn := Tryz.f68) Tryz.func68 rfl rfl rfl ?_
  conv => whnf
  repeat' (first | ((with_reducible refine Split.of_true ?_); conv => whnf) | ((with_reducible refine Split.of_false ?_); conv => whnf) | ((with_reducible refine Split.neg ?_)) | ((with_reducible refine Split.is_true ?_ ?_); decide; conv => whnf) | ((with_reducible refine Split.is_false ?_ ?_); decide; conv => whnf) | ((with_reducible refine Split.nez (fun _ => ?_) (fun _ => ?_)) <;> conv => whnf) | ((with_reducible refine Split.eqz (fun _ => ?_) (fun _ => ?_)) <;> conv => whnf) | ((with_reducible refine Split.and ?_)) | ((with_reducible refine Split.or ?_)) | ((with_reducible refine Split.streq (fun _ => ?_) (fun _ => ?_)) <;> conv => whnf) | ((with_reducible refine Split.dec (fun _ => ?_) (fun _ => ?_)) <;> conv => whnf) | ((with_reducible refine Split.mk (fun _ => ?_) (fun _ => ?_)) <;> conv => whnf) | ((with_reducible refine NilK.mk (fun _ => ?_) ?_) <;> conv => whnf) | ((with_reducible refine AltK.l ?_); (conv => whnf); (with_reducible refine Need.mk ?_ ?_); (first | omega | (refine ⟨?_, ?_⟩ <;> simp <;> omega) | (simp; omega)); conv => whnf) | ((with_reducible refine Need.mk ?_ ?_); (first | omega | rfl | decide | (refine ⟨?_, ?_⟩ <;> simp <;> omega) | (simp; omega)); conv => whnf) | ((with_reducible refine Wr.quo ?_ ?_ ?_ ?_); omega; omega; omega; conv => whnf) | ((with_reducible refine Wr.inr ?_ ?_); (first | omega | (simp; omega)); conv => whnf) | ((with_reducible refine Wr.inu ?_ ?_); omega; conv => whnf) | (exfalso; first | omega | contradiction))
  rfl
def gsGo : List Ga → List Ga → Int
  | _, [] => 0
  | o, g :: r => if nameB g.name = false then 4 else if o.any (sameN g) = true then 5 else if recErr g ≠ 0 then recErr g else match o.getLast? with
    | some z => if g.x ≤ z.x then 9 else gsGo (o ++ [g]) r
    | none => gsGo (o ++ [g]) r
def gsErr (l : List Ga) : Int := if 6 < l.length then 8 else gsGo [] l
open Classical in
theorem gsGo_at {l : List Ga} {i : Nat} {g : Ga} (hg : l[i]? = some g) : gsGo (l.take i) (l.drop i) = if nameB g.name = false then 4 else if (l.take i).any (sameN g) = true then 5 else if recErr g ≠ 0 then recErr g else
    if ∃ z, (i ≠ 0 ∧ l[i - 1]? = some z) ∧ g.x ≤ z.x then 9 else gsGo (l.take (i + 1)) (l.drop (i + 1)) := by
  rw [drop_of hg, gsGo, take_snoc hg]
  have hi := lt_of_some hg
  cases i with
  | zero => simp
  | succ j =>
    obtain ⟨z, hz⟩ := some_of_lt (l := l) (i := j) (by omega)
    have : (l.take (j + 1)).getLast? = some z := by rw [take_snoc hz]; simp
    rw [this]
    simp only [Nat.add_sub_cancel, hz]
    by_cases h : g.x ≤ z.x
    · simp [h]
    · simp [h]
theorem ev_CheckGauges (l : List Ga) : Ev Tryz.prog 41 [.sl 4 (l.map gD)] (.int .i64 (gsErr l)) := by
  have hlen : (l.map gD).length = l.length := List.length_map _
  refine ev_of_awp tysOk mixed (fn := Tryz.f41) Tryz.func41 rfl rfl rfl ?_
  conv => whnf
  repeat' (first | ((with_reducible refine Split.of_true ?_); conv => whnf) | ((with_reducible refine Split.of_false ?_); conv => whnf) | ((with_reducible refine Split.neg ?_)) | ((with_reducible refine Split.is_true ?_ ?_); decide; conv => whnf) | ((with_reducible refine Split.is_false ?_ ?_); decide; conv => whnf) | ((with_reducible refine Split.nez (fun _ => ?_) (fun _ => ?_)) <;> conv => whnf) | ((with_reducible refine Split.eqz (fun _ => ?_) (fun _ => ?_)) <;> conv => whnf) | ((with_reducible refine Split.and ?_)) | ((with_reducible refine Split.or ?_)) | ((with_reducible refine Split.streq (fun _ => ?_) (fun _ => ?_)) <;> conv => whnf) | ((with_reducible refine Split.dec (fun _ => ?_) (fun _ => ?_)) <;> conv => whnf) | ((with_reducible refine Split.mk (fun _ => ?_) (fun _ => ?_)) <;> conv => whnf) | ((with_reducible refine NilK.mk (fun _ => ?_) ?_) <;> conv => whnf) | ((with_reducible refine AltK.l ?_); (conv => whnf); (with_reducible refine Need.mk ?_ ?_); (first | omega | (refine ⟨?_, ?_⟩ <;> simp <;> omega) | (simp; omega)); conv => whnf) | ((with_reducible refine Need.mk ?_ ?_); (first | omega | rfl | decide | (refine ⟨?_, ?_⟩ <;> simp <;> omega) | (simp; omega)); conv => whnf) | ((with_reducible refine Wr.quo ?_ ?_ ?_ ?_); omega; omega; omega; conv => whnf) | ((with_reducible refine Wr.inr ?_ ?_); (first | omega | (simp; omega)); conv => whnf) | ((with_reducible refine Wr.inu ?_ ?_); omega; conv => whnf) | (exfalso; first | omega | contradiction))
  · rw [gsErr, if_pos (by omega)]; rfl
  have e0 : gsErr l = gsGo [] l := by rw [gsErr, if_neg (by omega)]
  rw [e0]
  refine LoopK.o2 (fun i : Nat => i ≤ l.length ∧ gsGo [] l = gsGo (l.take i) (l.drop i)) (fun i => [(11, .d (.int .i64 i))]) (fun _ => []) (fun i => l.length - i) 0 (by simp) (by refine ⟨?_, ?_, rfl⟩ <;> (repeat' (first | exact True.intro | exact rfl | refine ⟨?_, ?_⟩ | (intro h; cases h; done) | (intro h; exact h) | exact map_snoc | (refine own_congr ?_; simp; done) | (refine int_congr ?_; (first | omega | (simp; omega))) | (simp; done)))) ?_
  rintro i ⟨hi, hp⟩
  have hn : (i : Int) < l.length → ∃ m, l[i]? = some m := fun h => some_of_lt (by omega)
  conv => whnf
  repeat' (first | ((with_reducible refine Split.of_true ?_); conv => whnf) | ((with_reducible refine Split.of_false ?_); conv => whnf) | ((with_reducible refine Split.neg ?_)) | ((with_reducible refine Split.is_true ?_ ?_); decide; conv => whnf) | ((with_reducible refine Split.is_false ?_ ?_); decide; conv => whnf) | ((with_reducible refine Split.nez (fun _ => ?_) (fun _ => ?_)) <;> conv => whnf) | ((with_reducible refine Split.eqz (fun _ => ?_) (fun _ => ?_)) <;> conv => whnf) | ((with_reducible refine Split.and ?_)) | ((with_reducible refine Split.or ?_)) | ((with_reducible refine Split.streq (fun _ => ?_) (fun _ => ?_)) <;> conv => whnf) | ((with_reducible refine Split.dec (fun _ => ?_) (fun _ => ?_)) <;> conv => whnf) | ((with_reducible refine Split.mk (fun _ => ?_) (fun _ => ?_)) <;> conv => whnf) | ((with_reducible refine NilK.mk (fun _ => ?_) ?_) <;> conv => whnf) | ((with_reducible refine AltK.l ?_); (conv => whnf); (with_reducible refine Need.mk ?_ ?_); (first | omega | (refine ⟨?_, ?_⟩ <;> simp <;> omega) | (simp; omega)); conv => whnf) | ((with_reducible refine Need.mk ?_ ?_); (first | omega | rfl | decide | (refine ⟨?_, ?_⟩ <;> simp <;> omega) | (simp; omega)); conv => whnf) | ((with_reducible refine Wr.quo ?_ ?_ ?_ ?_); omega; omega; omega; conv => whnf) | ((with_reducible refine Wr.inr ?_ ?_); (first | omega | (simp; omega)); conv => whnf) | ((with_reducible refine Wr.inu ?_ ?_); omega; conv => whnf) | (exfalso; first | omega | contradiction))
  · obtain ⟨g, hg⟩ := hn (by omega)
    have hk := hp.trans (gsGo_at hg)
    have hc := ev_ContG (l.take i) 68 [.ref (gD g).cells 0] (sameN g) (by rw [List.length_take]; omega) (fun h _ => ev_CG1 g h)
    rw [List.map_take] at hc
    have hn1 := ev_named g.name
    have hr := ev_record g
    generalize (l.take i).any (sameN g) = b1 at *
    generalize nameB g.name = b2 at *
    cases b2 with
    | false =>
      conv => whnf
      repeat' (first | ((refine PickE.map i hg (by omega) ?_); conv => whnf) | ((with_reducible refine Split.of_true ?_); conv => whnf) | ((with_reducible refine Split.of_false ?_); conv => whnf) | ((with_reducible refine Split.neg ?_)) | ((with_reducible refine Split.is_true ?_ ?_); decide; conv => whnf) | ((with_reducible refine Split.is_false ?_ ?_); decide; conv => whnf) | ((with_reducible refine Split.nez (fun _ => ?_) (fun _ => ?_)) <;> conv => whnf) | ((with_reducible refine Split.eqz (fun _ => ?_) (fun _ => ?_)) <;> conv => whnf) | ((with_reducible refine Split.and ?_)) | ((with_reducible refine Split.or ?_)) | ((with_reducible refine Split.streq (fun _ => ?_) (fun _ => ?_)) <;> conv => whnf) | ((with_reducible refine Split.dec (fun _ => ?_) (fun _ => ?_)) <;> conv => whnf) | ((with_reducible refine Split.mk (fun _ => ?_) (fun _ => ?_)) <;> conv => whnf) | ((with_reducible refine NilK.mk (fun _ => ?_) ?_) <;> conv => whnf) | ((with_reducible refine AltK.l ?_); (conv => whnf); (with_reducible refine Need.mk ?_ ?_); (first | omega | (refine ⟨?_, ?_⟩ <;> simp <;> omega) | (simp; omega)); conv => whnf) | ((with_reducible refine Need.mk ?_ ?_); (first | omega | rfl | decide | (refine ⟨?_, ?_⟩ <;> simp <;> omega) | (simp; omega)); conv => whnf) | ((with_reducible refine Wr.quo ?_ ?_ ?_ ?_); omega; omega; omega; conv => whnf) | ((with_reducible refine Wr.inr ?_ ?_); (first | omega | (simp; omega)); conv => whnf) | ((with_reducible refine Wr.inu ?_ ?_); omega; conv => whnf) | ((with_reducible refine AltK.l ?_); (conv => whnf); (first | (refine CallK.mk _ (hn1) ?_)); conv => whnf) | (exfalso; first | omega | contradiction))
      rw [hk, if_pos rfl]; rfl
    | true =>
      rw [if_neg (by decide)] at hk
      cases b1 with
      | true =>
        conv => whnf
        repeat' (first | ((refine PickE.map i hg (by omega) ?_); conv => whnf) | ((with_reducible refine Split.of_true ?_); conv => whnf) | ((with_reducible refine Split.of_false ?_); conv => whnf) | ((with_reducible refine Split.neg ?_)) | ((with_reducible refine Split.is_true ?_ ?_); decide; conv => whnf) | ((with_reducible refine Split.is_false ?_ ?_); decide; conv => whnf) | ((with_reducible refine Split.nez (fun _ => ?_) (fun _ => ?_)) <;> conv => whnf) | ((with_reducible refine Split.eqz (fun _ => ?_) (fun _ => ?_)) <;> conv => whnf) | ((with_reducible refine Split.and ?_)) | ((with_reducible refine Split.or ?_)) | ((with_reducible refine Split.streq (fun _ => ?_) (fun _ => ?_)) <;> conv => whnf) | ((with_reducible refine Split.dec (fun _ => ?_) (fun _ => ?_)) <;> conv => whnf) | ((with_reducible refine Split.mk (fun _ => ?_) (fun _ => ?_)) <;> conv => whnf) | ((with_reducible refine NilK.mk (fun _ => ?_) ?_) <;> conv => whnf) | ((with_reducible refine AltK.l ?_); (conv => whnf); (with_reducible refine Need.mk ?_ ?_); (first | omega | (refine ⟨?_, ?_⟩ <;> simp <;> omega) | (simp; omega)); conv => whnf) | ((with_reducible refine Need.mk ?_ ?_); (first | omega | rfl | decide | (refine ⟨?_, ?_⟩ <;> simp <;> omega) | (simp; omega)); conv => whnf) | ((with_reducible refine Wr.quo ?_ ?_ ?_ ?_); omega; omega; omega; conv => whnf) | ((with_reducible refine Wr.inr ?_ ?_); (first | omega | (simp; omega)); conv => whnf) | ((with_reducible refine Wr.inu ?_ ?_); omega; conv => whnf) | ((with_reducible refine AltK.l ?_); (conv => whnf); (first | (refine CallK.mk _ (hn1) ?_) | (refine CallK.mk _ (hc) ?_)); conv => whnf) | (exfalso; first | omega | contradiction))
        rw [hk, if_pos rfl]; rfl
      | false =>
        rw [if_neg (by decide)] at hk
        by_cases hr0 : recErr g = 0
        · rw [if_neg (by simpa using hr0)] at hk
          rw [hr0] at hr
          by_cases hi0 : i = 0
          · subst hi0
            rw [if_neg (by simp)] at hk
            conv => whnf
            repeat' (first | ((refine PickE.map 0 hg (by omega) ?_); conv => whnf) | ((with_reducible refine Split.of_true ?_); conv => whnf) | ((with_reducible refine Split.of_false ?_); conv => whnf) | ((with_reducible refine Split.neg ?_)) | ((with_reducible refine Split.is_true ?_ ?_); decide; conv => whnf) | ((with_reducible refine Split.is_false ?_ ?_); decide; conv => whnf) | ((with_reducible refine Split.nez (fun _ => ?_) (fun _ => ?_)) <;> conv => whnf) | ((with_reducible refine Split.eqz (fun _ => ?_) (fun _ => ?_)) <;> conv => whnf) | ((with_reducible refine Split.and ?_)) | ((with_reducible refine Split.or ?_)) | ((with_reducible refine Split.streq (fun _ => ?_) (fun _ => ?_)) <;> conv => whnf) | ((with_reducible refine Split.dec (fun _ => ?_) (fun _ => ?_)) <;> conv => whnf) | ((with_reducible refine Split.mk (fun _ => ?_) (fun _ => ?_)) <;> conv => whnf) | ((with_reducible refine NilK.mk (fun _ => ?_) ?_) <;> conv => whnf) | ((with_reducible refine AltK.l ?_); (conv => whnf); (with_reducible refine Need.mk ?_ ?_); (first | omega | (refine ⟨?_, ?_⟩ <;> simp <;> omega) | (simp; omega)); conv => whnf) | ((with_reducible refine Need.mk ?_ ?_); (first | omega | rfl | decide | (refine ⟨?_, ?_⟩ <;> simp <;> omega) | (simp; omega)); conv => whnf) | ((with_reducible refine Wr.quo ?_ ?_ ?_ ?_); omega; omega; omega; conv => whnf) | ((with_reducible refine Wr.inr ?_ ?_); (first | omega | (simp; omega)); conv => whnf) | ((with_reducible refine Wr.inu ?_ ?_); omega; conv => whnf) | ((with_reducible refine AltK.l ?_); (conv => whnf); (first | (refine CallK.mk _ (hn1) ?_) | (refine CallK.mk _ (hc) ?_) | (refine CallK.mk _ (hr) ?_)); conv => whnf) | (exfalso; first | omega | contradiction))
            exact Again.au (0 + 1) ⟨by omega, hk⟩ (by omega) (by refine ⟨?_, ?_, rfl⟩ <;> (repeat' (first | exact True.intro | exact rfl | refine ⟨?_, ?_⟩ | (intro h; cases h; done) | (intro h; exact h) | exact map_snoc | (refine own_congr ?_; simp; done) | (refine int_congr ?_; (first | omega | (simp; omega))) | (simp; done))))
          · obtain ⟨z, hz⟩ := some_of_lt (l := l) (i := i - 1) (by omega)
            have ex : (∃ z, (i ≠ 0 ∧ l[i - 1]? = some z) ∧ g.x ≤ z.x) ↔ g.x ≤ z.x := ⟨fun ⟨z', ⟨_, h2⟩, h3⟩ => by rw [hz] at h2; cases h2; exact h3, fun h => ⟨z, ⟨hi0, hz⟩, h⟩⟩
            simp only [ex] at hk
            conv => whnf
            repeat' (first | ((refine PickE.map (i - 1) hz (by omega) ?_); conv => whnf) | ((refine PickE.map i hg (by omega) ?_); conv => whnf) | ((with_reducible refine Split.of_true ?_); conv => whnf) | ((with_reducible refine Split.of_false ?_); conv => whnf) | ((with_reducible refine Split.neg ?_)) | ((with_reducible refine Split.is_true ?_ ?_); decide; conv => whnf) | ((with_reducible refine Split.is_false ?_ ?_); decide; conv => whnf) | ((with_reducible refine Split.nez (fun _ => ?_) (fun _ => ?_)) <;> conv => whnf) | ((with_reducible refine Split.eqz (fun _ => ?_) (fun _ => ?_)) <;> conv => whnf) | ((with_reducible refine Split.and ?_)) | ((with_reducible refine Split.or ?_)) | ((with_reducible refine Split.streq (fun _ => ?_) (fun _ => ?_)) <;> conv => whnf) | ((with_reducible refine Split.dec (fun _ => ?_) (fun _ => ?_)) <;> conv => whnf) | ((with_reducible refine Split.mk (fun _ => ?_) (fun _ => ?_)) <;> conv => whnf) | ((with_reducible refine NilK.mk (fun _ => ?_) ?_) <;> conv => whnf) | ((with_reducible refine AltK.l ?_); (conv => whnf); (with_reducible refine Need.mk ?_ ?_); (first | omega | (refine ⟨?_, ?_⟩ <;> simp <;> omega) | (simp; omega)); conv => whnf) | ((with_reducible refine Need.mk ?_ ?_); (first | omega | rfl | decide | (refine ⟨?_, ?_⟩ <;> simp <;> omega) | (simp; omega)); conv => whnf) | ((with_reducible refine Wr.quo ?_ ?_ ?_ ?_); omega; omega; omega; conv => whnf) | ((with_reducible refine Wr.inr ?_ ?_); (first | omega | (simp; omega)); conv => whnf) | ((with_reducible refine Wr.inu ?_ ?_); omega; conv => whnf) | ((with_reducible refine AltK.l ?_); (conv => whnf); (first | (refine CallK.mk _ (hn1) ?_) | (refine CallK.mk _ (hc) ?_) | (refine CallK.mk _ (hr) ?_)); conv => whnf) | (exfalso; first | omega | contradiction))
            · rw [hk, if_pos (by assumption)]; rfl
            · rw [if_neg (by assumption)] at hk
              exact Again.au (i + 1) ⟨by omega, hk⟩ (by omega) (by refine ⟨?_, ?_, rfl⟩ <;> (repeat' (first | exact True.intro | exact rfl | refine ⟨?_, ?_⟩ | (intro h; cases h; done) | (intro h; exact h) | exact map_snoc | (refine own_congr ?_; simp; done) | (refine int_congr ?_; (first | omega | (simp; omega))) | (simp; done))))
            · exfalso; clear hk; omega
        · rw [if_pos (by simpa using hr0)] at hk
          conv => whnf
          repeat' (first | ((refine PickE.map i hg (by omega) ?_); conv => whnf) | ((with_reducible refine Split.of_true ?_); conv => whnf) | ((with_reducible refine Split.of_false ?_); conv => whnf) | ((with_reducible refine Split.neg ?_)) | ((with_reducible refine Split.is_true ?_ ?_); decide; conv => whnf) | ((with_reducible refine Split.is_false ?_ ?_); decide; conv => whnf) | ((with_reducible refine Split.nez (fun _ => ?_) (fun _ => ?_)) <;> conv => whnf) | ((with_reducible refine Split.eqz (fun _ => ?_) (fun _ => ?_)) <;> conv => whnf) | ((with_reducible refine Split.and ?_)) | ((with_reducible refine Split.or ?_)) | ((with_reducible refine Split.streq (fun _ => ?_) (fun _ => ?_)) <;> conv => whnf) | ((with_reducible refine Split.dec (fun _ => ?_) (fun _ => ?_)) <;> conv => whnf) | ((with_reducible refine Split.mk (fun _ => ?_) (fun _ => ?_)) <;> conv => whnf) | ((with_reducible refine NilK.mk (fun _ => ?_) ?_) <;> conv => whnf) | ((with_reducible refine AltK.l ?_); (conv => whnf); (with_reducible refine Need.mk ?_ ?_); (first | omega | (refine ⟨?_, ?_⟩ <;> simp <;> omega) | (simp; omega)); conv => whnf) | ((with_reducible refine Need.mk ?_ ?_); (first | omega | rfl | decide | (refine ⟨?_, ?_⟩ <;> simp <;> omega) | (simp; omega)); conv => whnf) | ((with_reducible refine Wr.quo ?_ ?_ ?_ ?_); omega; omega; omega; conv => whnf) | ((with_reducible refine Wr.inr ?_ ?_); (first | omega | (simp; omega)); conv => whnf) | ((with_reducible refine Wr.inu ?_ ?_); omega; conv => whnf) | ((with_reducible refine AltK.l ?_); (conv => whnf); (first | (refine CallK.mk _ (hn1) ?_) | (refine CallK.mk _ (hc) ?_) | (refine CallK.mk _ (hr) ?_)); conv => whnf) | (exfalso; first | omega | contradiction))
          rw [hk]; rfl
  · rw [hp, List.drop_eq_nil_of_le (by omega)]; rfl
theorem ev_CheckGaugesR (l : List Ga) : Ev Tryz.prog 38 [.sl 4 (l.map gD)] (.int .i64 (gsErr l)) := by
  have hlen : (l.map gD).length = l.length := List.length_map _
  refine ev_of_awp tysOk mixed (fn := Tryz.f38) Tryz.func38 rfl rfl rfl ?_
  conv => whnf
  repeat' (first | ((with_reducible refine Split.of_true ?_); conv => whnf) | ((with_reducible refine Split.of_false ?_); conv => whnf) | ((with_reducible refine Split.neg ?_)) | ((with_reducible refine Split.is_true ?_ ?_); decide; conv => whnf) | ((with_reducible refine Split.is_false ?_ ?_); decide; conv => whnf) | ((with_reducible refine Split.nez (fun _ => ?_) (fun _ => ?_)) <;> conv => whnf) | ((with_reducible refine Split.eqz (fun _ => ?_) (fun _ => ?_)) <;> conv => whnf) | ((with_reducible refine Split.and ?_)) | ((with_reducible refine Split.or ?_)) | ((with_reducible refine Split.streq (fun _ => ?_) (fun _ => ?_)) <;> conv => whnf) | ((with_reducible refine Split.dec (fun _ => ?_) (fun _ => ?_)) <;> conv => whnf) | ((with_reducible refine Split.mk (fun _ => ?_) (fun _ => ?_)) <;> conv => whnf) | ((with_reducible refine NilK.mk (fun _ => ?_) ?_) <;> conv => whnf) | ((with_reducible refine AltK.l ?_); (conv => whnf); (with_reducible refine Need.mk ?_ ?_); (first | omega | (refine ⟨?_, ?_⟩ <;> simp <;> omega) | (simp; omega)); conv => whnf) | ((with_reducible refine Need.mk ?_ ?_); (first | omega | rfl | decide | (refine ⟨?_, ?_⟩ <;> simp <;> omega) | (simp; omega)); conv => whnf) | ((with_reducible refine Wr.quo ?_ ?_ ?_ ?_); omega; omega; omega; conv => whnf) | ((with_reducible refine Wr.inr ?_ ?_); (first | omega | (simp; omega)); conv => whnf) | ((with_reducible refine Wr.inu ?_ ?_); omega; conv => whnf) | (exfalso; first | omega | contradiction))
  · rw [gsErr, if_pos (by omega)]; rfl
  have e0 : gsErr l = gsGo [] l := by rw [gsErr, if_neg (by omega)]
  rw [e0]
  refine LoopK.o2 (fun i : Nat => i ≤ l.length ∧ gsGo [] l = gsGo (l.take i) (l.drop i)) (fun i => [(3, .d (.int .i64 i))]) (fun _ => []) (fun i => l.length - i) 0 (by simp) (by refine ⟨?_, ?_, rfl⟩ <;> (repeat' (first | exact True.intro | exact rfl | refine ⟨?_, ?_⟩ | (intro h; cases h; done) | (intro h; exact h) | exact map_snoc | (refine own_congr ?_; simp; done) | (refine int_congr ?_; (first | omega | (simp; omega))) | (simp; done)))) ?_
  rintro i ⟨hi, hp⟩
  have hn : (i : Int) < l.length → ∃ m, l[i]? = some m := fun h => some_of_lt (by omega)
  conv => whnf
  repeat' (first | ((with_reducible refine Split.of_true ?_); conv => whnf) | ((with_reducible refine Split.of_false ?_); conv => whnf) | ((with_reducible refine Split.neg ?_)) | ((with_reducible refine Split.is_true ?_ ?_); decide; conv => whnf) | ((with_reducible refine Split.is_false ?_ ?_); decide; conv => whnf) | ((with_reducible refine Split.nez (fun _ => ?_) (fun _ => ?_)) <;> conv => whnf) | ((with_reducible refine Split.eqz (fun _ => ?_) (fun _ => ?_)) <;> conv => whnf) | ((with_reducible refine Split.and ?_)) | ((with_reducible refine Split.or ?_)) | ((with_reducible refine Split.streq (fun _ => ?_) (fun _ => ?_)) <;> conv => whnf) | ((with_reducible refine Split.dec (fun _ => ?_) (fun _ => ?_)) <;> conv => whnf) | ((with_reducible refine Split.mk (fun _ => ?_) (fun _ => ?_)) <;> conv => whnf) | ((with_reducible refine NilK.mk (fun _ => ?_) ?_) <;> conv => whnf) | ((with_reducible refine AltK.l ?_); (conv => whnf); (with_reducible refine Need.mk ?_ ?_); (first | omega | (refine ⟨?_, ?_⟩ <;> simp <;> omega) | (simp; omega)); conv => whnf) | ((with_reducible refine Need.mk ?_ ?_); (first | omega | rfl | decide | (refine ⟨?_, ?_⟩ <;> simp <;> omega) | (simp; omega)); conv => whnf) | ((with_reducible refine Wr.quo ?_ ?_ ?_ ?_); omega; omega; omega; conv => whnf) | ((with_reducible refine Wr.inr ?_ ?_); (first | omega | (simp; omega)); conv => whnf) | ((with_reducible refine Wr.inu ?_ ?_); omega; conv => whnf) | (exfalso; first | omega | contradiction))
  · obtain ⟨g, hg⟩ := hn (by omega)
    have hk := hp.trans (gsGo_at hg)
    have hn1 := ev_IsName g.name
    have hr := ev_Record g
    generalize nameB g.name = b2 at *
    cases b2 with
    | false =>
      conv => whnf
      repeat' (first | ((refine PickE.map i hg (by omega) ?_); conv => whnf) | ((with_reducible refine Split.of_true ?_); conv => whnf) | ((with_reducible refine Split.of_false ?_); conv => whnf) | ((with_reducible refine Split.neg ?_)) | ((with_reducible refine Split.is_true ?_ ?_); decide; conv => whnf) | ((with_reducible refine Split.is_false ?_ ?_); decide; conv => whnf) | ((with_reducible refine Split.nez (fun _ => ?_) (fun _ => ?_)) <;> conv => whnf) | ((with_reducible refine Split.eqz (fun _ => ?_) (fun _ => ?_)) <;> conv => whnf) | ((with_reducible refine Split.and ?_)) | ((with_reducible refine Split.or ?_)) | ((with_reducible refine Split.streq (fun _ => ?_) (fun _ => ?_)) <;> conv => whnf) | ((with_reducible refine Split.dec (fun _ => ?_) (fun _ => ?_)) <;> conv => whnf) | ((with_reducible refine Split.mk (fun _ => ?_) (fun _ => ?_)) <;> conv => whnf) | ((with_reducible refine NilK.mk (fun _ => ?_) ?_) <;> conv => whnf) | ((with_reducible refine AltK.l ?_); (conv => whnf); (with_reducible refine Need.mk ?_ ?_); (first | omega | (refine ⟨?_, ?_⟩ <;> simp <;> omega) | (simp; omega)); conv => whnf) | ((with_reducible refine Need.mk ?_ ?_); (first | omega | rfl | decide | (refine ⟨?_, ?_⟩ <;> simp <;> omega) | (simp; omega)); conv => whnf) | ((with_reducible refine Wr.quo ?_ ?_ ?_ ?_); omega; omega; omega; conv => whnf) | ((with_reducible refine Wr.inr ?_ ?_); (first | omega | (simp; omega)); conv => whnf) | ((with_reducible refine Wr.inu ?_ ?_); omega; conv => whnf) | ((with_reducible refine AltK.l ?_); (conv => whnf); (first | (refine CallK.mk _ (hn1) ?_)); conv => whnf) | (exfalso; first | omega | contradiction))
      rw [hk, if_pos rfl]; rfl
    | true =>
      rw [if_neg (by decide)] at hk
      conv => whnf
      repeat' (first | ((refine PickE.map i hg (by omega) ?_); conv => whnf) | ((with_reducible refine Split.of_true ?_); conv => whnf) | ((with_reducible refine Split.of_false ?_); conv => whnf) | ((with_reducible refine Split.neg ?_)) | ((with_reducible refine Split.is_true ?_ ?_); decide; conv => whnf) | ((with_reducible refine Split.is_false ?_ ?_); decide; conv => whnf) | ((with_reducible refine Split.nez (fun _ => ?_) (fun _ => ?_)) <;> conv => whnf) | ((with_reducible refine Split.eqz (fun _ => ?_) (fun _ => ?_)) <;> conv => whnf) | ((with_reducible refine Split.and ?_)) | ((with_reducible refine Split.or ?_)) | ((with_reducible refine Split.streq (fun _ => ?_) (fun _ => ?_)) <;> conv => whnf) | ((with_reducible refine Split.dec (fun _ => ?_) (fun _ => ?_)) <;> conv => whnf) | ((with_reducible refine Split.mk (fun _ => ?_) (fun _ => ?_)) <;> conv => whnf) | ((with_reducible refine NilK.mk (fun _ => ?_) ?_) <;> conv => whnf) | ((with_reducible refine AltK.l ?_); (conv => whnf); (with_reducible refine Need.mk ?_ ?_); (first | omega | (refine ⟨?_, ?_⟩ <;> simp <;> omega) | (simp; omega)); conv => whnf) | ((with_reducible refine Need.mk ?_ ?_); (first | omega | rfl | decide | (refine ⟨?_, ?_⟩ <;> simp <;> omega) | (simp; omega)); conv => whnf) | ((with_reducible refine Wr.quo ?_ ?_ ?_ ?_); omega; omega; omega; conv => whnf) | ((with_reducible refine Wr.inr ?_ ?_); (first | omega | (simp; omega)); conv => whnf) | ((with_reducible refine Wr.inu ?_ ?_); omega; conv => whnf) | ((with_reducible refine AltK.l ?_); (conv => whnf); (first | (refine CallK.mk _ (hn1) ?_)); conv => whnf) | (exfalso; first | omega | contradiction))
      refine LoopK.o2 (fun k : Nat => k ≤ i ∧ ∀ h ∈ l.take k, sameN g h = false) (fun k => [(4, .d (.int .i64 k))]) (fun _ => []) (fun k => i - k) 0 (by simp) (by refine ⟨?_, ?_, rfl⟩ <;> (repeat' (first | exact True.intro | exact rfl | refine ⟨?_, ?_⟩ | (intro h; cases h; done) | (intro h; exact h) | exact map_snoc | (refine own_congr ?_; simp; done) | (refine int_congr ?_; (first | omega | (simp; omega))) | (simp; done)))) ?_
      rintro k ⟨hki, hks⟩
      have hnk : (k : Int) < i → ∃ m, l[k]? = some m := fun h => some_of_lt (by omega)
      conv => whnf
      repeat' (first | ((with_reducible refine Split.of_true ?_); conv => whnf) | ((with_reducible refine Split.of_false ?_); conv => whnf) | ((with_reducible refine Split.neg ?_)) | ((with_reducible refine Split.is_true ?_ ?_); decide; conv => whnf) | ((with_reducible refine Split.is_false ?_ ?_); decide; conv => whnf) | ((with_reducible refine Split.nez (fun _ => ?_) (fun _ => ?_)) <;> conv => whnf) | ((with_reducible refine Split.eqz (fun _ => ?_) (fun _ => ?_)) <;> conv => whnf) | ((with_reducible refine Split.and ?_)) | ((with_reducible refine Split.or ?_)) | ((with_reducible refine Split.streq (fun _ => ?_) (fun _ => ?_)) <;> conv => whnf) | ((with_reducible refine Split.dec (fun _ => ?_) (fun _ => ?_)) <;> conv => whnf) | ((with_reducible refine Split.mk (fun _ => ?_) (fun _ => ?_)) <;> conv => whnf) | ((with_reducible refine NilK.mk (fun _ => ?_) ?_) <;> conv => whnf) | ((with_reducible refine AltK.l ?_); (conv => whnf); (with_reducible refine Need.mk ?_ ?_); (first | omega | (refine ⟨?_, ?_⟩ <;> simp <;> omega) | (simp; omega)); conv => whnf) | ((with_reducible refine Need.mk ?_ ?_); (first | omega | rfl | decide | (refine ⟨?_, ?_⟩ <;> simp <;> omega) | (simp; omega)); conv => whnf) | ((with_reducible refine Wr.quo ?_ ?_ ?_ ?_); omega; omega; omega; conv => whnf) | ((with_reducible refine Wr.inr ?_ ?_); (first | omega | (simp; omega)); conv => whnf) | ((with_reducible refine Wr.inu ?_ ?_); omega; conv => whnf) | (exfalso; first | omega | contradiction))
      · obtain ⟨h, hh⟩ := hnk (by omega)
        conv => whnf
        repeat' (first | ((refine PickE.map i hg (by omega) ?_); conv => whnf) | ((refine PickE.map k hh (by omega) ?_); conv => whnf) | ((with_reducible refine Split.of_true ?_); conv => whnf) | ((with_reducible refine Split.of_false ?_); conv => whnf) | ((with_reducible refine Split.neg ?_)) | ((with_reducible refine Split.is_true ?_ ?_); decide; conv => whnf) | ((with_reducible refine Split.is_false ?_ ?_); decide; conv => whnf) | ((with_reducible refine Split.nez (fun _ => ?_) (fun _ => ?_)) <;> conv => whnf) | ((with_reducible refine Split.eqz (fun _ => ?_) (fun _ => ?_)) <;> conv => whnf) | ((with_reducible refine Split.and ?_)) | ((with_reducible refine Split.or ?_)) | ((with_reducible refine Split.streq (fun _ => ?_) (fun _ => ?_)) <;> conv => whnf) | ((with_reducible refine Split.dec (fun _ => ?_) (fun _ => ?_)) <;> conv => whnf) | ((with_reducible refine Split.mk (fun _ => ?_) (fun _ => ?_)) <;> conv => whnf) | ((with_reducible refine NilK.mk (fun _ => ?_) ?_) <;> conv => whnf) | ((with_reducible refine AltK.l ?_); (conv => whnf); (with_reducible refine Need.mk ?_ ?_); (first | omega | (refine ⟨?_, ?_⟩ <;> simp <;> omega) | (simp; omega)); conv => whnf) | ((with_reducible refine Need.mk ?_ ?_); (first | omega | rfl | decide | (refine ⟨?_, ?_⟩ <;> simp <;> omega) | (simp; omega)); conv => whnf) | ((with_reducible refine Wr.quo ?_ ?_ ?_ ?_); omega; omega; omega; conv => whnf) | ((with_reducible refine Wr.inr ?_ ?_); (first | omega | (simp; omega)); conv => whnf) | ((with_reducible refine Wr.inu ?_ ?_); omega; conv => whnf) | (exfalso; first | omega | contradiction))
        · have he : h.name = g.name := by assumption
          rw [hk, if_pos (List.any_eq_true.2 ⟨h, List.mem_of_getElem? (i := k) (by rw [List.getElem?_take_of_lt (by omega)]; exact hh), by simp [sameN, he]⟩)]
          rfl
        · have he : h.name ≠ g.name := by assumption
          refine Again.au (k + 1) ⟨by omega, fun x hx => ?_⟩ (by omega) (by refine ⟨?_, ?_, rfl⟩ <;> (repeat' (first | exact True.intro | exact rfl | refine ⟨?_, ?_⟩ | (intro h; cases h; done) | (intro h; exact h) | exact map_snoc | (refine own_congr ?_; simp; done) | (refine int_congr ?_; (first | omega | (simp; omega))) | (simp; done))))
          rw [take_snoc hh] at hx
          rcases List.mem_append.1 hx with hx | hx
          · exact hks x hx
          · rw [List.mem_singleton.1 hx]
            rw [sameN, Bool.eq_false_iff]
            intro hb
            exact he (toList_inj (by simpa using hb))
      · obtain rfl : k = i := by omega
        have hb1 : (l.take k).any (sameN g) = false := by
          rw [List.any_eq_false]; intro x hx; rw [hks x hx]; decide
        rw [hb1, if_neg (by decide)] at hk
        by_cases hr0 : recErr g = 0
        · rw [if_neg (by simpa using hr0)] at hk
          rw [hr0] at hr
          by_cases hi0 : k = 0
          · subst hi0
            rw [if_neg (by simp)] at hk
            conv => whnf
            repeat' (first | ((refine PickE.map 0 hg (by omega) ?_); conv => whnf) | ((with_reducible refine Split.of_true ?_); conv => whnf) | ((with_reducible refine Split.of_false ?_); conv => whnf) | ((with_reducible refine Split.neg ?_)) | ((with_reducible refine Split.is_true ?_ ?_); decide; conv => whnf) | ((with_reducible refine Split.is_false ?_ ?_); decide; conv => whnf) | ((with_reducible refine Split.nez (fun _ => ?_) (fun _ => ?_)) <;> conv => whnf) | ((with_reducible refine Split.eqz (fun _ => ?_) (fun _ => ?_)) <;> conv => whnf) | ((with_reducible refine Split.and ?_)) | ((with_reducible refine Split.or ?_)) | ((with_reducible refine Split.streq (fun _ => ?_) (fun _ => ?_)) <;> conv => whnf) | ((with_reducible refine Split.dec (fun _ => ?_) (fun _ => ?_)) <;> conv => whnf) | ((with_reducible refine Split.mk (fun _ => ?_) (fun _ => ?_)) <;> conv => whnf) | ((with_reducible refine NilK.mk (fun _ => ?_) ?_) <;> conv => whnf) | ((with_reducible refine AltK.l ?_); (conv => whnf); (with_reducible refine Need.mk ?_ ?_); (first | omega | (refine ⟨?_, ?_⟩ <;> simp <;> omega) | (simp; omega)); conv => whnf) | ((with_reducible refine Need.mk ?_ ?_); (first | omega | rfl | decide | (refine ⟨?_, ?_⟩ <;> simp <;> omega) | (simp; omega)); conv => whnf) | ((with_reducible refine Wr.quo ?_ ?_ ?_ ?_); omega; omega; omega; conv => whnf) | ((with_reducible refine Wr.inr ?_ ?_); (first | omega | (simp; omega)); conv => whnf) | ((with_reducible refine Wr.inu ?_ ?_); omega; conv => whnf) | ((with_reducible refine AltK.l ?_); (conv => whnf); (first | (refine CallK.mk _ (hr) ?_)); conv => whnf) | (exfalso; first | omega | contradiction))
            exact Again.au (0 + 1) ⟨by omega, hk⟩ (by omega) (by refine ⟨?_, ?_, rfl⟩ <;> (repeat' (first | exact True.intro | exact rfl | refine ⟨?_, ?_⟩ | (intro h; cases h; done) | (intro h; exact h) | exact map_snoc | (refine own_congr ?_; simp; done) | (refine int_congr ?_; (first | omega | (simp; omega))) | (simp; done))))
          · obtain ⟨z, hz⟩ := some_of_lt (l := l) (i := k - 1) (by omega)
            have ex : (∃ z, (k ≠ 0 ∧ l[k - 1]? = some z) ∧ g.x ≤ z.x) ↔ g.x ≤ z.x := ⟨fun ⟨z', ⟨_, h2⟩, h3⟩ => by rw [hz] at h2; cases h2; exact h3, fun h => ⟨z, ⟨hi0, hz⟩, h⟩⟩
            simp only [ex] at hk
            conv => whnf
            repeat' (first | ((refine PickE.map (k - 1) hz (by omega) ?_); conv => whnf) | ((refine PickE.map k hg (by omega) ?_); conv => whnf) | ((with_reducible refine Split.of_true ?_); conv => whnf) | ((with_reducible refine Split.of_false ?_); conv => whnf) | ((with_reducible refine Split.neg ?_)) | ((with_reducible refine Split.is_true ?_ ?_); decide; conv => whnf) | ((with_reducible refine Split.is_false ?_ ?_); decide; conv => whnf) | ((with_reducible refine Split.nez (fun _ => ?_) (fun _ => ?_)) <;> conv => whnf) | ((with_reducible refine Split.eqz (fun _ => ?_) (fun _ => ?_)) <;> conv => whnf) | ((with_reducible refine Split.and ?_)) | ((with_reducible refine Split.or ?_)) | ((with_reducible refine Split.streq (fun _ => ?_) (fun _ => ?_)) <;> conv => whnf) | ((with_reducible refine Split.dec (fun _ => ?_) (fun _ => ?_)) <;> conv => whnf) | ((with_reducible refine Split.mk (fun _ => ?_) (fun _ => ?_)) <;> conv => whnf) | ((with_reducible refine NilK.mk (fun _ => ?_) ?_) <;> conv => whnf) | ((with_reducible refine AltK.l ?_); (conv => whnf); (with_reducible refine Need.mk ?_ ?_); (first | omega | (refine ⟨?_, ?_⟩ <;> simp <;> omega) | (simp; omega)); conv => whnf) | ((with_reducible refine Need.mk ?_ ?_); (first | omega | rfl | decide | (refine ⟨?_, ?_⟩ <;> simp <;> omega) | (simp; omega)); conv => whnf) | ((with_reducible refine Wr.quo ?_ ?_ ?_ ?_); omega; omega; omega; conv => whnf) | ((with_reducible refine Wr.inr ?_ ?_); (first | omega | (simp; omega)); conv => whnf) | ((with_reducible refine Wr.inu ?_ ?_); omega; conv => whnf) | ((with_reducible refine AltK.l ?_); (conv => whnf); (first | (refine CallK.mk _ (hr) ?_)); conv => whnf) | (exfalso; first | omega | contradiction))
            · rw [hk, if_pos (by assumption)]; rfl
            · rw [if_neg (by assumption)] at hk
              exact Again.au (k + 1) ⟨by omega, hk⟩ (by omega) (by refine ⟨?_, ?_, rfl⟩ <;> (repeat' (first | exact True.intro | exact rfl | refine ⟨?_, ?_⟩ | (intro h; cases h; done) | (intro h; exact h) | exact map_snoc | (refine own_congr ?_; simp; done) | (refine int_congr ?_; (first | omega | (simp; omega))) | (simp; done))))
            · exfalso; clear hk; omega
        · rw [if_pos (by simpa using hr0)] at hk
          conv => whnf
          repeat' (first | ((refine PickE.map k hg (by omega) ?_); conv => whnf) | ((with_reducible refine Split.of_true ?_); conv => whnf) | ((with_reducible refine Split.of_false ?_); conv => whnf) | ((with_reducible refine Split.neg ?_)) | ((with_reducible refine Split.is_true ?_ ?_); decide; conv => whnf) | ((with_reducible refine Split.is_false ?_ ?_); decide; conv => whnf) | ((with_reducible refine Split.nez (fun _ => ?_) (fun _ => ?_)) <;> conv => whnf) | ((with_reducible refine Split.eqz (fun _ => ?_) (fun _ => ?_)) <;> conv => whnf) | ((with_reducible refine Split.and ?_)) | ((with_reducible refine Split.or ?_)) | ((with_reducible refine Split.streq (fun _ => ?_) (fun _ => ?_)) <;> conv => whnf) | ((with_reducible refine Split.dec (fun _ => ?_) (fun _ => ?_)) <;> conv => whnf) | ((with_reducible refine Split.mk (fun _ => ?_) (fun _ => ?_)) <;> conv => whnf) | ((with_reducible refine NilK.mk (fun _ => ?_) ?_) <;> conv => whnf) | ((with_reducible refine AltK.l ?_); (conv => whnf); (with_reducible refine Need.mk ?_ ?_); (first | omega | (refine ⟨?_, ?_⟩ <;> simp <;> omega) | (simp; omega)); conv => whnf) | ((with_reducible refine Need.mk ?_ ?_); (first | omega | rfl | decide | (refine ⟨?_, ?_⟩ <;> simp <;> omega) | (simp; omega)); conv => whnf) | ((with_reducible refine Wr.quo ?_ ?_ ?_ ?_); omega; omega; omega; conv => whnf) | ((with_reducible refine Wr.inr ?_ ?_); (first | omega | (simp; omega)); conv => whnf) | ((with_reducible refine Wr.inu ?_ ?_); omega; conv => whnf) | ((with_reducible refine AltK.l ?_); (conv => whnf); (first | (refine CallK.mk _ (hr) ?_)); conv => whnf) | (exfalso; first | omega | contradiction))
          rw [hk]; rfl
  · rw [hp, List.drop_eq_nil_of_le (by omega)]; rfl
structure GoodAll (l : List Ga) : Prop where
  len : l.length ≤ 6
  each : ∀ g ∈ l, gErr g = 0
  asc : l.Pairwise fun a b => a.x < b.x
theorem gsGo_zero : ∀ (r o : List Ga), gsGo o r = 0 → (∀ g ∈ r, gErr g = 0) ∧ r.Pairwise (fun a b => a.x < b.x) ∧ ∀ z, o.getLast? = some z → ∀ g ∈ r, z.x < g.x
  | [], o, _ => ⟨(fun g h => (by cases h)), .nil, (fun z _ g h => (by cases h))⟩
  | g :: r, o, h => by
    rw [gsGo] at h
    split at h
    · cases h
    · rename_i h1
      split at h
      · cases h
      · split at h
        · contradiction
        · rename_i h3
          have key : gsGo (o ++ [g]) r = 0 ∧ ∀ z, o.getLast? = some z → z.x < g.x := by
            split at h
            · rename_i z hz
              split at h
              · cases h
              · refine ⟨h, fun z' hz' => ?_⟩
                rw [hz] at hz'; cases hz'; omega
            · rename_i hz
              exact ⟨h, fun z hz' => by rw [hz] at hz'; cases hz'⟩
          obtain ⟨k1, k2, k3⟩ := gsGo_zero r (o ++ [g]) key.1
          have k3 := k3 g (by simp)
          refine ⟨fun x hx => ?_, List.pairwise_cons.2 ⟨k3, k2⟩, fun z hz x hx => ?_⟩
          · cases hx with
            | head => unfold gErr; rw [if_pos (by simpa using h1)]; simpa using h3
            | tail _ hx => exact k1 x hx
          · have := key.2 z hz
            cases hx with
            | head => exact this
            | tail _ hx => have := k3 x hx; omega
theorem goodAll {l : List Ga} (h : gsErr l = 0) : GoodAll l := by
  unfold gsErr at h
  split at h
  · cases h
  · obtain ⟨a, b, -⟩ := gsGo_zero l [] h
    exact ⟨by omega, a, b⟩
def posX (l : List Ga) (x : Int) : Nat := (l.takeWhile fun g => decide (g.x < x)).length
theorem posX_le (l : List Ga) (x : Int) : posX l x ≤ l.length := (List.takeWhile_prefix _).length_le
theorem posX_spec {x : Int} : ∀ {l : List Ga}, l.Pairwise (fun a b => a.x < b.x) → ∀ (k : Nat) m, l[k]? = some m → (k < posX l x → m.x < x) ∧ (posX l x ≤ k → x ≤ m.x)
  | [], _, k, m, h => by simp at h
  | a :: r, hp, k, m, h => by
    obtain ⟨h1, h2⟩ := List.pairwise_cons.1 hp
    by_cases ha : a.x < x
    · have e : posX (a :: r) x = posX r x + 1 := by simp [posX, ha]
      rw [e]
      cases k with
      | zero => simp only [List.getElem?_cons_zero, Option.some.injEq] at h; subst h; exact ⟨fun _ => ha, fun h => by omega⟩
      | succ k =>
        have := posX_spec (x := x) h2 k m (by simpa using h)
        exact ⟨fun h => this.1 (by omega), fun h => this.2 (by omega)⟩
    · have e : posX (a :: r) x = 0 := by simp [posX, ha]
      rw [e]
      refine ⟨fun h => by omega, fun _ => ?_⟩
      cases k with
      | zero => simp only [List.getElem?_cons_zero, Option.some.injEq] at h; subst h; omega
      | succ k =>
        have := h1 m (List.mem_of_getElem? (i := k) (by simpa using h))
        omega
theorem ev_lv1 (g : Ga) (x : Int) (h : -1000000 ≤ g.x ∧ g.x ≤ 1000000) (hx : -4000000000000000000 ≤ x ∧ x ≤ 4000000000000000000) : Ev Tryz.prog 108 [gD g, .int .i64 x] (.int .i64 (g.x - x)) := by
  refine ev_of_awp tysOk mixed (fn := Tryz.f108) Tryz.func108 rfl rfl rfl ?_
  conv => whnf
  repeat' (first | ((with_reducible refine Split.of_true ?_); conv => whnf) | ((with_reducible refine Split.of_false ?_); conv => whnf) | ((with_reducible refine Split.neg ?_)) | ((with_reducible refine Split.is_true ?_ ?_); decide; conv => whnf) | ((with_reducible refine Split.is_false ?_ ?_); decide; conv => whnf) | ((with_reducible refine Split.nez (fun _ => ?_) (fun _ => ?_)) <;> conv => whnf) | ((with_reducible refine Split.eqz (fun _ => ?_) (fun _ => ?_)) <;> conv => whnf) | ((with_reducible refine Split.and ?_)) | ((with_reducible refine Split.or ?_)) | ((with_reducible refine Split.streq (fun _ => ?_) (fun _ => ?_)) <;> conv => whnf) | ((with_reducible refine Split.dec (fun _ => ?_) (fun _ => ?_)) <;> conv => whnf) | ((with_reducible refine Split.mk (fun _ => ?_) (fun _ => ?_)) <;> conv => whnf) | ((with_reducible refine NilK.mk (fun _ => ?_) ?_) <;> conv => whnf) | ((with_reducible refine AltK.l ?_); (conv => whnf); (with_reducible refine Need.mk ?_ ?_); (first | omega | (refine ⟨?_, ?_⟩ <;> simp <;> omega) | (simp; omega)); conv => whnf) | ((with_reducible refine Need.mk ?_ ?_); (first | omega | rfl | decide | (refine ⟨?_, ?_⟩ <;> simp <;> omega) | (simp; omega)); conv => whnf) | ((with_reducible refine Wr.quo ?_ ?_ ?_ ?_); omega; omega; omega; conv => whnf) | ((with_reducible refine Wr.inr ?_ ?_); (first | omega | (simp; omega)); conv => whnf) | ((with_reducible refine Wr.inu ?_ ?_); omega; conv => whnf) | (exfalso; first | omega | contradiction))
  rfl
def foundX (l : List Ga) (p : Nat) (t : Int) : Bool := match l[p]? with
  | some m => decide (m.x = t)
  | none => false
theorem ev_BinX (l : List Ga) (t : Int) (p : Nat) (hl : l.length ≤ 1000000) (hb : ∀ m ∈ l, -1000000 ≤ m.x ∧ m.x ≤ 1000000) (ht : -4000000000000000000 ≤ t ∧ t ≤ 4000000000000000000) (hp : p ≤ l.length)
    (h : ∀ (k : Nat) m, l[k]? = some m → (k < p → m.x < t) ∧ (p ≤ k → t ≤ m.x)) : Ev Tryz.prog 107 [.sl 4 (l.map gD), .int .i64 t, .fn 108 []] (.tup [.int .i64 p, .bool (foundX l p t)]) := by
  have hlen : (l.map gD).length = l.length := List.length_map _
  refine ev_of_awp tysOk mixed (fn := Tryz.f107) Tryz.func107 rfl rfl rfl ?_
  conv => whnf
  repeat' (first | ((with_reducible refine Split.of_true ?_); conv => whnf) | ((with_reducible refine Split.of_false ?_); conv => whnf) | ((with_reducible refine Split.neg ?_)) | ((with_reducible refine Split.is_true ?_ ?_); decide; conv => whnf) | ((with_reducible refine Split.is_false ?_ ?_); decide; conv => whnf) | ((with_reducible refine Split.nez (fun _ => ?_) (fun _ => ?_)) <;> conv => whnf) | ((with_reducible refine Split.eqz (fun _ => ?_) (fun _ => ?_)) <;> conv => whnf) | ((with_reducible refine Split.and ?_)) | ((with_reducible refine Split.or ?_)) | ((with_reducible refine Split.streq (fun _ => ?_) (fun _ => ?_)) <;> conv => whnf) | ((with_reducible refine Split.dec (fun _ => ?_) (fun _ => ?_)) <;> conv => whnf) | ((with_reducible refine Split.mk (fun _ => ?_) (fun _ => ?_)) <;> conv => whnf) | ((with_reducible refine NilK.mk (fun _ => ?_) ?_) <;> conv => whnf) | ((with_reducible refine AltK.l ?_); (conv => whnf); (with_reducible refine Need.mk ?_ ?_); (first | omega | (refine ⟨?_, ?_⟩ <;> simp <;> omega) | (simp; omega)); conv => whnf) | ((with_reducible refine Need.mk ?_ ?_); (first | omega | rfl | decide | (refine ⟨?_, ?_⟩ <;> simp <;> omega) | (simp; omega)); conv => whnf) | ((with_reducible refine Wr.quo ?_ ?_ ?_ ?_); omega; omega; omega; conv => whnf) | ((with_reducible refine Wr.inr ?_ ?_); (first | omega | (simp; omega)); conv => whnf) | ((with_reducible refine Wr.inu ?_ ?_); omega; conv => whnf) | (exfalso; first | omega | contradiction))
  refine LoopK.o2 (fun ij : Nat × Nat => ij.1 ≤ p ∧ p ≤ ij.2 ∧ ij.2 ≤ l.length)
    (fun ij => [(9, .d (.int .i64 ij.1)), (10, .d (.int .i64 ij.2))]) (fun _ => [])
    (fun ij => ij.2 - ij.1) (0, (l.map gD).length) ⟨by omega, by omega, by omega⟩ (by refine ⟨?_, ?_, rfl⟩ <;> (repeat' (first | exact True.intro | exact rfl | refine ⟨?_, ?_⟩ | (intro h; cases h; done) | (intro h; exact h) | exact map_snoc | (refine own_congr ?_; simp; done) | (refine int_congr ?_; (first | omega | (simp; omega))) | (simp; done)))) ?_
  rintro ⟨i, j⟩ ⟨h1, h2, h3⟩
  dsimp only at h1 h2 h3 ⊢
  have hz : shrZ ((i : Int) + j) 1 = ((i + j) / 2 : Nat) := by rw [shrZ_one]; omega
  have hlt : (i : Int) < j → (i + j) / 2 < l.length := fun h => by omega
  conv => whnf
  repeat' (first | ((with_reducible refine Split.of_true ?_); conv => whnf) | ((with_reducible refine Split.of_false ?_); conv => whnf) | ((with_reducible refine Split.neg ?_)) | ((with_reducible refine Split.is_true ?_ ?_); decide; conv => whnf) | ((with_reducible refine Split.is_false ?_ ?_); decide; conv => whnf) | ((with_reducible refine Split.nez (fun _ => ?_) (fun _ => ?_)) <;> conv => whnf) | ((with_reducible refine Split.eqz (fun _ => ?_) (fun _ => ?_)) <;> conv => whnf) | ((with_reducible refine Split.and ?_)) | ((with_reducible refine Split.or ?_)) | ((with_reducible refine Split.streq (fun _ => ?_) (fun _ => ?_)) <;> conv => whnf) | ((with_reducible refine Split.dec (fun _ => ?_) (fun _ => ?_)) <;> conv => whnf) | ((with_reducible refine Split.mk (fun _ => ?_) (fun _ => ?_)) <;> conv => whnf) | ((with_reducible refine NilK.mk (fun _ => ?_) ?_) <;> conv => whnf) | ((with_reducible refine AltK.l ?_); (conv => whnf); (with_reducible refine Need.mk ?_ ?_); (first | omega | (refine ⟨?_, ?_⟩ <;> simp <;> omega) | (simp; omega)); conv => whnf) | ((with_reducible refine Need.mk ?_ ?_); (first | omega | rfl | decide | (refine ⟨?_, ?_⟩ <;> simp <;> omega) | (simp; omega)); conv => whnf) | ((with_reducible refine Wr.quo ?_ ?_ ?_ ?_); omega; omega; omega; conv => whnf) | ((with_reducible refine Wr.inr ?_ ?_); (first | omega | (simp; omega)); conv => whnf) | ((with_reducible refine Wr.inu ?_ ?_); omega; conv => whnf) | (exfalso; first | omega | contradiction))
  · have hlt := hlt (by assumption)
    obtain ⟨m, hm⟩ := some_of_lt hlt
    have hmb := hb m (List.mem_of_getElem? hm)
    have hc := h _ m hm
    rw [hz]
    have hq : i ≤ (i + j) / 2 ∧ (i + j) / 2 < j := by omega
    generalize (i + j) / 2 = q at *
    refine PickE.map q hm (by omega) ?_
    conv => whnf
    repeat' (first | ((with_reducible refine Split.of_true ?_); conv => whnf) | ((with_reducible refine Split.of_false ?_); conv => whnf) | ((with_reducible refine Split.neg ?_)) | ((with_reducible refine Split.is_true ?_ ?_); decide; conv => whnf) | ((with_reducible refine Split.is_false ?_ ?_); decide; conv => whnf) | ((with_reducible refine Split.nez (fun _ => ?_) (fun _ => ?_)) <;> conv => whnf) | ((with_reducible refine Split.eqz (fun _ => ?_) (fun _ => ?_)) <;> conv => whnf) | ((with_reducible refine Split.and ?_)) | ((with_reducible refine Split.or ?_)) | ((with_reducible refine Split.streq (fun _ => ?_) (fun _ => ?_)) <;> conv => whnf) | ((with_reducible refine Split.dec (fun _ => ?_) (fun _ => ?_)) <;> conv => whnf) | ((with_reducible refine Split.mk (fun _ => ?_) (fun _ => ?_)) <;> conv => whnf) | ((with_reducible refine NilK.mk (fun _ => ?_) ?_) <;> conv => whnf) | ((with_reducible refine AltK.l ?_); (conv => whnf); (with_reducible refine Need.mk ?_ ?_); (first | omega | (refine ⟨?_, ?_⟩ <;> simp <;> omega) | (simp; omega)); conv => whnf) | ((with_reducible refine Need.mk ?_ ?_); (first | omega | rfl | decide | (refine ⟨?_, ?_⟩ <;> simp <;> omega) | (simp; omega)); conv => whnf) | ((with_reducible refine Wr.quo ?_ ?_ ?_ ?_); omega; omega; omega; conv => whnf) | ((with_reducible refine Wr.inr ?_ ?_); (first | omega | (simp; omega)); conv => whnf) | ((with_reducible refine Wr.inu ?_ ?_); omega; conv => whnf) | ((with_reducible refine AltK.l ?_); (conv => whnf); (first | (refine CallK.mk _ (ev_lv1 m t hmb ht) ?_)); conv => whnf) | (exfalso; first | omega | contradiction))
    · exact Again.au (q + 1, j) ⟨by omega, by omega, by omega⟩ (by dsimp only; omega) (by refine ⟨?_, ?_, rfl⟩ <;> (repeat' (first | exact True.intro | exact rfl | refine ⟨?_, ?_⟩ | (intro h; cases h; done) | (intro h; exact h) | exact map_snoc | (refine own_congr ?_; simp; done) | (refine int_congr ?_; (first | omega | (simp; omega))) | (simp; done))))
    · exact Again.au (i, q) ⟨by omega, by omega, by omega⟩ (by dsimp only; omega) (by refine ⟨?_, ?_, rfl⟩ <;> (repeat' (first | exact True.intro | exact rfl | refine ⟨?_, ?_⟩ | (intro h; cases h; done) | (intro h; exact h) | exact map_snoc | (refine own_congr ?_; simp; done) | (refine int_congr ?_; (first | omega | (simp; omega))) | (simp; done))))
  · have e : i = p := by omega
    subst e
    obtain ⟨m, hm⟩ := some_of_lt (l := l) (i := i) (by omega)
    have hmb := hb m (List.mem_of_getElem? hm)
    refine PickE.map i hm (by omega) ?_
    conv => whnf
    repeat' (first | ((with_reducible refine Split.of_true ?_); conv => whnf) | ((with_reducible refine Split.of_false ?_); conv => whnf) | ((with_reducible refine Split.neg ?_)) | ((with_reducible refine Split.is_true ?_ ?_); decide; conv => whnf) | ((with_reducible refine Split.is_false ?_ ?_); decide; conv => whnf) | ((with_reducible refine Split.nez (fun _ => ?_) (fun _ => ?_)) <;> conv => whnf) | ((with_reducible refine Split.eqz (fun _ => ?_) (fun _ => ?_)) <;> conv => whnf) | ((with_reducible refine Split.and ?_)) | ((with_reducible refine Split.or ?_)) | ((with_reducible refine Split.streq (fun _ => ?_) (fun _ => ?_)) <;> conv => whnf) | ((with_reducible refine Split.dec (fun _ => ?_) (fun _ => ?_)) <;> conv => whnf) | ((with_reducible refine Split.mk (fun _ => ?_) (fun _ => ?_)) <;> conv => whnf) | ((with_reducible refine NilK.mk (fun _ => ?_) ?_) <;> conv => whnf) | ((with_reducible refine AltK.l ?_); (conv => whnf); (with_reducible refine Need.mk ?_ ?_); (first | omega | (refine ⟨?_, ?_⟩ <;> simp <;> omega) | (simp; omega)); conv => whnf) | ((with_reducible refine Need.mk ?_ ?_); (first | omega | rfl | decide | (refine ⟨?_, ?_⟩ <;> simp <;> omega) | (simp; omega)); conv => whnf) | ((with_reducible refine Wr.quo ?_ ?_ ?_ ?_); omega; omega; omega; conv => whnf) | ((with_reducible refine Wr.inr ?_ ?_); (first | omega | (simp; omega)); conv => whnf) | ((with_reducible refine Wr.inu ?_ ?_); omega; conv => whnf) | ((with_reducible refine AltK.l ?_); (conv => whnf); (first | (refine CallK.mk _ (ev_lv1 m t hmb ht) ?_)); conv => whnf) | (exfalso; first | omega | contradiction))
    have e : (m.x - t == 0) = decide (m.x = t) := by rw [Bool.eq_iff_iff]; simp; omega
    simp only [retOf, foundX, hm, e]
  · have e : i = p := by omega
    subst e
    have hm : l[i]? = none := List.getElem?_eq_none (by omega)
    simp only [retOf, foundX, hm]
end Go.Proofs.Tryz
end
