/- Texts SdFf TpA TpB, joined; what is not needed is left out. -/
import Derived.Test.YtpbhikmlcaddmaaGreatMpg
import Derived.Test.YtpbhikmlcaddmaaGreatMpd
section
namespace Go.Proofs.Tryz
open Go Go.Vm Go.Sort
set_option maxRecDepth 20000
set_option maxHeartbeats 8000000
/-! SoundingHighest. -/
theorem mx_spec (g : Gr) (v : Sg → Int) (i : Int) (m : List Sg) : match maxO g v m i with
    | none => ∀ s ∈ m, cellI g s ≠ i
    | some x => (∃ s ∈ m, cellI g s = i ∧ v s = x) ∧ ∀ s ∈ m, cellI g s = i → v s ≤ x := by
  refine list_snoc (P := fun m => match maxO g v m i with
    | none => ∀ s ∈ m, cellI g s ≠ i
    | some x => (∃ s ∈ m, cellI g s = i ∧ v s = x) ∧ ∀ s ∈ m, cellI g s = i → v s ≤ x) (fun s h => (by cases h)) (fun m s ih => ?_) m
  have e : maxO g v (m ++ [s]) i = mxStep g v i (maxO g v m i) s := by rw [maxO, List.foldl_append]; rfl
  rw [e]
  unfold mxStep
  by_cases hc : cellI g s = i
  · rw [if_pos hc]
    cases hm : maxO g v m i with
    | none =>
      rw [hm] at ih
      simp only at ih ⊢
      refine ⟨⟨s, by simp, hc, rfl⟩, fun t ht htc => ?_⟩
      rcases List.mem_append.1 ht with ht | ht
      · exact absurd htc (ih t ht)
      · rw [List.mem_singleton.1 ht]; exact Int.le_refl _
    | some x =>
      rw [hm] at ih
      simp only at ih ⊢
      obtain ⟨⟨t, ht, h1, h2⟩, h3⟩ := ih
      split
      · rename_i hgt
        refine ⟨⟨s, by simp, hc, rfl⟩, fun t ht htc => ?_⟩
        rcases List.mem_append.1 ht with ht | ht
        · have := h3 t ht htc; omega
        · rw [List.mem_singleton.1 ht]; exact Int.le_refl _
      · rename_i hgt
        refine ⟨⟨t, List.mem_append_left _ ht, h1, h2⟩, fun t ht htc => ?_⟩
        rcases List.mem_append.1 ht with ht | ht
        · exact h3 t ht htc
        · rw [List.mem_singleton.1 ht]; omega
  · rw [if_neg hc]
    cases hm : maxO g v m i with
    | none =>
      rw [hm] at ih
      simp only at ih ⊢
      intro t ht
      rcases List.mem_append.1 ht with ht | ht
      · exact ih t ht
      · rw [List.mem_singleton.1 ht]; exact hc
    | some x =>
      rw [hm] at ih
      simp only at ih ⊢
      obtain ⟨⟨t, ht, h1, h2⟩, h3⟩ := ih
      refine ⟨⟨t, List.mem_append_left _ ht, h1, h2⟩, fun t ht htc => ?_⟩
      rcases List.mem_append.1 ht with ht | ht
      · exact h3 t ht htc
      · rw [List.mem_singleton.1 ht] at htc; exact absurd htc hc
theorem mx_none {g : Gr} {v : Sg → Int} {i : Int} {m : List Sg} (h : maxO g v m i = none) : ∀ s ∈ m, cellI g s ≠ i := by
  have := mx_spec g v i m
  rw [h] at this; exact this
theorem mx_some {g : Gr} {v : Sg → Int} {i x : Int} {m : List Sg} (h : maxO g v m i = some x) : (∃ s ∈ m, cellI g s = i ∧ v s = x) ∧ ∀ s ∈ m, cellI g s = i → v s ≤ x := by
  have := mx_spec g v i m
  rw [h] at this; exact this
def inC (g : Gr) (i : Nat) (s : Sg) : Bool := decide (cellI g s = (i : Int))
theorem lev_get {g : Gr} {v : Sg → Int} {l : List Sg} {i : Nat} (hi : i < cellsN g) : (levS g v l)[i]? = some ((maxO g v l (i : Int)).getD 30000) := by
  rw [levS, List.getElem?_map, List.getElem?_range hi]; rfl
theorem lev_len (g : Gr) (v : Sg → Int) (l : List Sg) : (levS g v l).length = cellsN g := by simp [levS]
def hvB (g : Gr) (i : Nat) (x : Int) (m : List Sg) : Bool := m.any fun s => inC g i s && decide (s.hi = x)
structure CellOk (g : Gr) (l : List Sg) (i : Nat) (L C : Int) : Prop where
  top : ∀ s ∈ l, cellI g s = (i : Int) → s.hi ≤ L
  yes : hvB g i L l = decide (L ≠ 30000)
  num : hvB g i L l = decide (C > 0)
  cnt : C = ((l.countP (inC g i) : Nat) : Int)
theorem cell_ok {g : Gr} {l : List Sg} (hb : badS g hiV l = false) {i : Nat} (hi : i < cellsN g) : CellOk g l i ((maxO g hiV l (i : Int)).getD 30000) ((l.countP (inC g i) : Nat) : Int) := by
  have hb2 : badO (maxO g hiV l (i : Int)) = false := by
    rw [badS, List.any_eq_false] at hb
    have := hb i (List.mem_range.2 hi)
    simpa using this
  cases hm : maxO g hiV l (i : Int) with
  | none =>
    have h := mx_none hm
    have h1 : hvB g i 30000 l = false := by
      rw [hvB, List.any_eq_false]; intro s hs; have := h s hs; simp [inC, this]
    have h2 : l.countP (inC g i) = 0 := by
      rw [List.countP_eq_zero]; intro s hs; have := h s hs; simp [inC, this]
    exact ⟨fun s hs hc => absurd hc (h s hs), by simp [h1], by simp [h1, h2], rfl⟩
  | some x =>
    obtain ⟨⟨s, hs, h1, h2⟩, h3⟩ := mx_some hm
    rw [hm] at hb2
    have hx : x ≠ 30000 := by
      rintro rfl
      have : outsideB 30000 (-20000) 20000 = true := by decide
      rw [badO, this] at hb2; cases hb2
    have e1 : hvB g i x l = true := List.any_eq_true.2 ⟨s, hs, by simp [inC, h1]; exact h2⟩
    have e2 : 0 < l.countP (inC g i) := List.countP_pos_iff.2 ⟨s, hs, by simp [inC, h1]⟩
    refine ⟨h3, ?_, ?_, rfl⟩
    · show hvB g i x l = decide (x ≠ 30000)
      rw [e1]; simp [hx]
    · show hvB g i x l = _
      rw [e1]; exact (decide_eq_true (by omega)).symm
theorem bin_ok {g : Gr} {l : List Sg} (c0 : chkErr sgB Sg.n l = 0) (f0 : frErr g = 0) : binRes g hiV l = if badS g hiV l = true then (gr0, 2) else ({ g with lv := levS g hiV l }, 0) := by
  rw [binRes, if_neg (by simpa using c0), if_neg (by simpa using f0)]
end Go.Proofs.Tryz
end

section
namespace Go.Proofs.Tryz
open Go Go.Vm Go.Sort
set_option maxRecDepth 20000
set_option maxHeartbeats 4000000
/-! The theorems across layers: what they begin with; TopThinnedGrid. -/
def pierT : Ga := ⟨⟨#[112, 105, 101, 114]⟩, 0, 5, [⟨10, 100⟩]⟩
theorem pier_redT : rdE [pierT] rawS = (⟨7, 0, 0, -455, -425⟩, 0) := by decide
theorem ev_three : Ev Tryz.prog 8 [] (.bool true) := by
  have h := ev_Reduce [pierT] rawS
  rw [pier_redT] at h
  refine ev_of_awp tysOk mixed (fn := Tryz.f8) Tryz.func8 rfl rfl rfl ?_
  conv => whnf
  repeat' (first | ((with_reducible refine Split.of_true ?_); conv => whnf) | ((with_reducible refine Split.of_false ?_); conv => whnf) | ((with_reducible refine Split.neg ?_)) | ((with_reducible refine Split.is_true ?_ ?_); decide; conv => whnf) | ((with_reducible refine Split.is_false ?_ ?_); decide; conv => whnf) | ((with_reducible refine Split.nez (fun _ => ?_) (fun _ => ?_)) <;> conv => whnf) | ((with_reducible refine Split.eqz (fun _ => ?_) (fun _ => ?_)) <;> conv => whnf) | ((with_reducible refine Split.and ?_)) | ((with_reducible refine Split.or ?_)) | ((with_reducible refine Split.streq (fun _ => ?_) (fun _ => ?_)) <;> conv => whnf) | ((with_reducible refine Split.dec (fun _ => ?_) (fun _ => ?_)) <;> conv => whnf) | ((with_reducible refine Split.mk (fun _ => ?_) (fun _ => ?_)) <;> conv => whnf) | ((with_reducible refine NilK.mk (fun _ => ?_) ?_) <;> conv => whnf) | ((with_reducible refine AltK.l ?_); (conv => whnf); (with_reducible refine Need.mk ?_ ?_); (first | omega | (refine ⟨?_, ?_⟩ <;> simp <;> omega) | (simp; omega)); conv => whnf) | ((with_reducible refine Need.mk ?_ ?_); (first | omega | rfl | decide | (refine ⟨?_, ?_⟩ <;> simp <;> omega) | (simp; omega)); conv => whnf) | ((with_reducible refine Wr.quo ?_ ?_ ?_ ?_); omega; omega; omega; conv => whnf) | ((with_reducible refine Wr.inr ?_ ?_); (first | omega | (simp; omega)); conv => whnf) | ((with_reducible refine Wr.inu ?_ ?_); omega; conv => whnf) | ((with_reducible refine AltK.l ?_); (conv => whnf); (first | (refine CallK.mk _ (h) ?_)); conv => whnf) | (exfalso; first | omega | contradiction))
  rfl
end Go.Proofs.Tryz
end

section
namespace Go.Proofs.Tryz
open Go Go.Vm Go.Sort
set_option maxRecDepth 20000
set_option maxHeartbeats 4000000
/-! Plain laws: bounds of levels; reduced soundings make a valid sheet. -/
theorem mean_tight {g : Ga} {t : Int} (h : Good g) : -20000 * (meanS g t).2.1 ≤ (meanS g t).1 ∧ (meanS g t).1 ≤ 20000 * (meanS g t).2.1 := by
  have hp := posF_spec (t := t) h.asc
  unfold meanS
  generalize posF g.marks t = p at hp
  unfold meanAt
  split
  · rename_i b hb
    have wb := wrongB_false (h.ok b (List.mem_of_getElem? hb))
    split
    · simp only; omega
    · split
      · simp only; omega
      · rename_i q' q
        split
        · rename_i a ha
          have wa := wrongB_false (h.ok a (List.mem_of_getElem? ha))
          have h1 := (hp q a ha).1 (by omega)
          have h2 := (hp (q+1) b hb).2 (by omega)
          have e : a.l * (b.m - a.m) + (b.l - a.l) * (t - a.m) = a.l * (b.m - t) + b.l * (t - a.m) := by grind
          have m1 : -20000 * (b.m - t) ≤ a.l * (b.m - t) := Int.mul_le_mul_of_nonneg_right (by omega) (by omega)
          have m2 : -20000 * (t - a.m) ≤ b.l * (t - a.m) := Int.mul_le_mul_of_nonneg_right (by omega) (by omega)
          have m3 : a.l * (b.m - t) ≤ 20000 * (b.m - t) := Int.mul_le_mul_of_nonneg_right (by omega) (by omega)
          have m4 : b.l * (t - a.m) ≤ 20000 * (t - a.m) := Int.mul_le_mul_of_nonneg_right (by omega) (by omega)
          simp only
          rw [e]
          omega
        · simp only; omega
  · simp only; omega
theorem at_tight {g : Ga} {t : Int} (h : Good g) : -21000 ≤ (atS g t).1 ∧ (atS g t).2.1 ≤ 21000 := by
  obtain ⟨m1, m2⟩ := mean_tight (t := t) h
  have hb := (mean_bd (t := t) h).1
  have he := h.err
  have q1 := ediv_ge (m := -20000) hb m1
  have q2 := up_le (m := 20000) hb m2
  unfold atS
  split
  · dsimp only; omega
  · dsimp only; omega
theorem lv_tight {l : List Ga} {x t : Int} (hG : GoodAll l) : -21000 ≤ (lvS l x t).1 ∧ (lvS l x t).2.1 ≤ 21000 := by
  have hp := posX_spec (x := x) hG.asc
  unfold lvS
  generalize posX l x = p at *
  unfold lvF
  cases hb : l[p]? with
  | none =>
    cases p with
    | zero => simp
    | succ q =>
      cases ha : l[q]? with
      | none => simp only [ha]; omega
      | some a => simp only [ha]; exact at_tight (ga_good hG ha)
  | some b =>
    by_cases hbx : b.x = x
    · simp only [hbx, if_true]; exact at_tight (ga_good hG hb)
    · cases p with
      | zero => simp only [hbx, if_false]; exact at_tight (ga_good hG hb)
      | succ q =>
        cases ha : l[q]? with
        | none => simp only [hbx, if_false, ha]; omega
        | some a =>
          simp only [hbx, if_false, ha]
          have hax := (hp q a ha).1 (by omega)
          have hbx' := (hp (q + 1) b hb).2 (by omega)
          have t1 := at_tight (t := t) (ga_good hG ha)
          have t2 := at_tight (t := t) (ga_good hG hb)
          unfold mixS
          split
          · obtain ⟨g1, g2, _⟩ := mix_facts (p := b.x - x) (q := x - a.x) (by omega) (by omega) (by omega) (at_le (t := t) (ga_good hG ha)) (at_le (t := t) (ga_good hG hb))
            rw [show b.x - x + (x - a.x) = b.x - a.x by omega] at g1 g2
            dsimp only
            omega
          · dsimp only; omega
theorem red_sg {g : List Ga} {r : Rw} (g0 : gsErr g = 0) (hr : RGood r) : sgB (redV g r) = true := by
  have h1 := lv_tight (x := r.x) (t := r.mi) (goodAll g0)
  have h2 := lv_le (x := r.x) (t := r.mi) (goodAll g0)
  have a1 := hr.n
  have a2 := hr.x
  have a3 := hr.y
  have a4 := hr.d
  have a5 := hr.dr
  have a6 := hr.e
  unfold redV redS sgB outsideB
  generalize lvS g r.x r.mi = q at *
  simp
  omega
theorem red_chk {g : List Ga} {l : List Rw} (c0 : chkErr rawB Rw.n l = 0) (g0 : gsErr g = 0) : chkErr sgB Sg.n (outS g l) = 0 := by
  obtain ⟨h1, h2, h3⟩ := chk_zero c0
  refine chk_of (by have := out_len g l; omega) (fun s hs => ?_) ?_
  · obtain ⟨r, hr, rfl⟩ := List.mem_map.1 hs
    exact red_sg g0 (raw_good.1 (h2 r (List.mem_filter.1 hr).1))
  · rw [outS, List.pairwise_map]
    exact h3.filter _
theorem out_dry (g : List Ga) (l : List Rw) : (outS g l).length + (dryS g l).length = l.length := by
  rw [outS, dryS, List.length_map, List.length_map]
  induction l with
  | nil => rfl
  | cons r l ih => cases h : okL g r <;> simp [h] <;> omega
theorem out_raw {g : List Ga} {l : List Rw} {s : Sg} (hs : s ∈ outS g l) : ∃ r ∈ l, okL g r = true ∧ s = redV g r := by
  obtain ⟨r, hr, rfl⟩ := List.mem_map.1 hs
  exact ⟨r, (List.mem_filter.1 hr).1, (List.mem_filter.1 hr).2, rfl⟩
end Go.Proofs.Tryz
end
