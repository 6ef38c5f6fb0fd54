/- Texts SdF SdFb SdS SdFc SdFd SdFe SdW, joined; what is not needed is left out. -/
import Derived.Test.YtpbhikmlcaddmaaGreatMpf
import Derived.Test.YtpbhikmlcaddmaaGreatMgI
section
namespace Go.Proofs.Tryz
open Go Go.Vm Go.Sort
set_option maxRecDepth 20000
set_option maxHeartbeats 4000000
/-! Grids: cells, slices.Repeat. -/
theorem ev_MulU (x y : Int) (hx : 0 ≤ x ∧ x < 18446744073709551616) (hy : 0 ≤ y ∧ y < 18446744073709551616) (h : x * y < 18446744073709551616) : Ev Tryz.prog 102 [.int .u64 x, .int .u64 y] (.tup [.int .u64 0, .int .u64 (x * y)]) := Ev.mulU ly_LyM x y hx hy h
structure Gr where
  x : Int
  y : Int
  side : Int
  cols : Int
  rows : Int
  lv : List Int
def grD (g : Gr) : D := .agg [iD g.x, iD g.y, iD g.side, iD g.cols, iD g.rows, .sl 1 (g.lv.map iD)]
def frBad (g : Gr) : Bool := outsideB g.x (-1000000) 1000000 || outsideB g.y (-1000000) 1000000 || outsideB g.side 100 10000 || decide (g.cols < 1) || decide (g.rows < 1)
def frLarge (g : Gr) : Bool := decide (g.cols > 1024) || decide (g.rows > 1024) || decide (g.cols * g.rows > 1024)
def frErr (g : Gr) : Int := if frBad g = true then 2 else if frLarge g = true then 8 else 0
structure FrOk (g : Gr) : Prop where
  x : -1000000 ≤ g.x ∧ g.x ≤ 1000000
  y : -1000000 ≤ g.y ∧ g.y ≤ 1000000
  side : 100 ≤ g.side ∧ g.side ≤ 10000
  cols : 1 ≤ g.cols ∧ g.cols ≤ 1024
  rows : 1 ≤ g.rows ∧ g.rows ≤ 1024
  all : 1 ≤ g.cols * g.rows ∧ g.cols * g.rows ≤ 1024
theorem fr_ok {g : Gr} (h : frErr g = 0) : FrOk g := by
  unfold frErr at h
  split at h
  · cases h
  · rename_i h1
    split at h
    · cases h
    · rename_i h2
      simp only [frBad, frLarge, outsideB, Bool.not_eq_true, Bool.or_eq_false_iff, decide_eq_false_iff_not] at h1 h2
      refine ⟨by omega, by omega, by omega, by omega, by omega, ?_, by omega⟩
      have := Int.mul_le_mul (show 1 ≤ g.cols by omega) (show 1 ≤ g.rows by omega) (by omega) (by omega)
      omega
theorem ev_checkCells (g : Gr) : Ev Tryz.prog 58 [grD g] (iD (frErr g)) := by
  have h1 := ev_w2 g.x g.y (-1000000) 1000000
  have h2 := ev_w1 g.side 100 10000
  by_cases hc : 1 ≤ g.cols ∧ g.cols ≤ 1024 ∧ 1 ≤ g.rows ∧ g.rows ≤ 1024
  · have m := mul_bd (x := g.cols) (y := g.rows) (X := 1024) (Y := 1024) (by omega) (by omega)
    unfold frErr frBad frLarge
    generalize outsideB g.x (-1000000) 1000000 = b1 at *
    generalize outsideB g.y (-1000000) 1000000 = b2 at *
    generalize outsideB g.side 100 10000 = b3 at *
    cases b1 <;> cases b2 <;> cases b3
    all_goals
      refine ev_of_awp tysOk mixed (fn := Tryz.f58) Tryz.func58 rfl rfl rfl ?_
      conv => whnf
      repeat' (first | ((with_reducible refine Split.of_true ?_); conv => whnf) | ((with_reducible refine Split.of_false ?_); conv => whnf) | ((with_reducible refine Split.neg ?_)) | ((with_reducible refine Split.is_true ?_ ?_); decide; conv => whnf) | ((with_reducible refine Split.is_false ?_ ?_); decide; conv => whnf) | ((with_reducible refine Split.nez (fun _ => ?_) (fun _ => ?_)) <;> conv => whnf) | ((with_reducible refine Split.eqz (fun _ => ?_) (fun _ => ?_)) <;> conv => whnf) | ((with_reducible refine Split.and ?_)) | ((with_reducible refine Split.or ?_)) | ((with_reducible refine Split.streq (fun _ => ?_) (fun _ => ?_)) <;> conv => whnf) | ((with_reducible refine Split.dec (fun _ => ?_) (fun _ => ?_)) <;> conv => whnf) | ((with_reducible refine Split.mk (fun _ => ?_) (fun _ => ?_)) <;> conv => whnf) | ((with_reducible refine NilK.mk (fun _ => ?_) ?_) <;> conv => whnf) | ((with_reducible refine AltK.l ?_); (conv => whnf); (with_reducible refine Need.mk ?_ ?_); (first | omega | (refine ⟨?_, ?_⟩ <;> simp <;> omega) | (simp; omega)); conv => whnf) | ((with_reducible refine Need.mk ?_ ?_); (first | omega | rfl | decide | (refine ⟨?_, ?_⟩ <;> simp <;> omega) | (simp; omega)); conv => whnf) | ((with_reducible refine Wr.quo ?_ ?_ ?_ ?_); omega; omega; omega; conv => whnf) | ((with_reducible refine Wr.inr ?_ ?_); (first | omega | (simp; omega)); conv => whnf) | ((with_reducible refine Wr.inu ?_ ?_); omega; conv => whnf) | ((with_reducible refine AltK.l ?_); (conv => whnf); (first | (refine CallK.mk _ (h1) ?_) | (refine CallK.mk _ (h2) ?_)); conv => whnf) | (exfalso; first | omega | contradiction))
      all_goals (simp_all [retOf, iD] <;> omega)
  · unfold frErr frBad frLarge
    generalize outsideB g.x (-1000000) 1000000 = b1 at *
    generalize outsideB g.y (-1000000) 1000000 = b2 at *
    generalize outsideB g.side 100 10000 = b3 at *
    cases b1 <;> cases b2 <;> cases b3
    all_goals
      refine ev_of_awp tysOk mixed (fn := Tryz.f58) Tryz.func58 rfl rfl rfl ?_
      conv => whnf
      repeat' (first | ((with_reducible refine Split.of_true ?_); conv => whnf) | ((with_reducible refine Split.of_false ?_); conv => whnf) | ((with_reducible refine Split.neg ?_)) | ((with_reducible refine Split.is_true ?_ ?_); decide; conv => whnf) | ((with_reducible refine Split.is_false ?_ ?_); decide; conv => whnf) | ((with_reducible refine Split.nez (fun _ => ?_) (fun _ => ?_)) <;> conv => whnf) | ((with_reducible refine Split.eqz (fun _ => ?_) (fun _ => ?_)) <;> conv => whnf) | ((with_reducible refine Split.and ?_)) | ((with_reducible refine Split.or ?_)) | ((with_reducible refine Split.streq (fun _ => ?_) (fun _ => ?_)) <;> conv => whnf) | ((with_reducible refine Split.dec (fun _ => ?_) (fun _ => ?_)) <;> conv => whnf) | ((with_reducible refine Split.mk (fun _ => ?_) (fun _ => ?_)) <;> conv => whnf) | ((with_reducible refine NilK.mk (fun _ => ?_) ?_) <;> conv => whnf) | ((with_reducible refine AltK.l ?_); (conv => whnf); (with_reducible refine Need.mk ?_ ?_); (first | omega | (refine ⟨?_, ?_⟩ <;> simp <;> omega) | (simp; omega)); conv => whnf) | ((with_reducible refine Need.mk ?_ ?_); (first | omega | rfl | decide | (refine ⟨?_, ?_⟩ <;> simp <;> omega) | (simp; omega)); conv => whnf) | ((with_reducible refine Wr.quo ?_ ?_ ?_ ?_); omega; omega; omega; conv => whnf) | ((with_reducible refine Wr.inr ?_ ?_); (first | omega | (simp; omega)); conv => whnf) | ((with_reducible refine Wr.inu ?_ ?_); omega; conv => whnf) | ((with_reducible refine AltK.l ?_); (conv => whnf); (first | (refine CallK.mk _ (h1) ?_) | (refine CallK.mk _ (h2) ?_)); conv => whnf) | (exfalso; first | omega | contradiction))
      all_goals (simp_all [retOf, iD] <;> omega)
theorem ev_CheckFrame (g : Gr) : Ev Tryz.prog 6 [grD g] (iD (frErr g)) := by
  have h1 := ev_Within g.x (-1000000) 1000000
  have h2 := ev_Within g.y (-1000000) 1000000
  have h3 := ev_Within g.side 100 10000
  by_cases hc : 1 ≤ g.cols ∧ g.cols ≤ 1024 ∧ 1 ≤ g.rows ∧ g.rows ≤ 1024
  · have m := mul_bd (x := g.cols) (y := g.rows) (X := 1024) (Y := 1024) (by omega) (by omega)
    unfold frErr frBad frLarge
    generalize outsideB g.x (-1000000) 1000000 = b1 at *
    generalize outsideB g.y (-1000000) 1000000 = b2 at *
    generalize outsideB g.side 100 10000 = b3 at *
    cases b1 <;> cases b2 <;> cases b3
    all_goals
      refine ev_of_awp tysOk mixed (fn := Tryz.f6) Tryz.func6 rfl rfl rfl ?_
      conv => whnf
      repeat' (first | ((with_reducible refine Split.of_true ?_); conv => whnf) | ((with_reducible refine Split.of_false ?_); conv => whnf) | ((with_reducible refine Split.neg ?_)) | ((with_reducible refine Split.is_true ?_ ?_); decide; conv => whnf) | ((with_reducible refine Split.is_false ?_ ?_); decide; conv => whnf) | ((with_reducible refine Split.nez (fun _ => ?_) (fun _ => ?_)) <;> conv => whnf) | ((with_reducible refine Split.eqz (fun _ => ?_) (fun _ => ?_)) <;> conv => whnf) | ((with_reducible refine Split.and ?_)) | ((with_reducible refine Split.or ?_)) | ((with_reducible refine Split.streq (fun _ => ?_) (fun _ => ?_)) <;> conv => whnf) | ((with_reducible refine Split.dec (fun _ => ?_) (fun _ => ?_)) <;> conv => whnf) | ((with_reducible refine Split.mk (fun _ => ?_) (fun _ => ?_)) <;> conv => whnf) | ((with_reducible refine NilK.mk (fun _ => ?_) ?_) <;> conv => whnf) | ((with_reducible refine AltK.l ?_); (conv => whnf); (with_reducible refine Need.mk ?_ ?_); (first | omega | (refine ⟨?_, ?_⟩ <;> simp <;> omega) | (simp; omega)); conv => whnf) | ((with_reducible refine Need.mk ?_ ?_); (first | omega | rfl | decide | (refine ⟨?_, ?_⟩ <;> simp <;> omega) | (simp; omega)); conv => whnf) | ((with_reducible refine Wr.quo ?_ ?_ ?_ ?_); omega; omega; omega; conv => whnf) | ((with_reducible refine Wr.inr ?_ ?_); (first | omega | (simp; omega)); conv => whnf) | ((with_reducible refine Wr.inu ?_ ?_); omega; conv => whnf) | ((with_reducible refine AltK.l ?_); (conv => whnf); (first | (refine CallK.mk _ (h1) ?_) | (refine CallK.mk _ (h2) ?_) | (refine CallK.mk _ (h3) ?_)); conv => whnf) | (exfalso; first | omega | contradiction))
      all_goals (simp_all [retOf, iD] <;> omega)
  · unfold frErr frBad frLarge
    generalize outsideB g.x (-1000000) 1000000 = b1 at *
    generalize outsideB g.y (-1000000) 1000000 = b2 at *
    generalize outsideB g.side 100 10000 = b3 at *
    cases b1 <;> cases b2 <;> cases b3
    all_goals
      refine ev_of_awp tysOk mixed (fn := Tryz.f6) Tryz.func6 rfl rfl rfl ?_
      conv => whnf
      repeat' (first | ((with_reducible refine Split.of_true ?_); conv => whnf) | ((with_reducible refine Split.of_false ?_); conv => whnf) | ((with_reducible refine Split.neg ?_)) | ((with_reducible refine Split.is_true ?_ ?_); decide; conv => whnf) | ((with_reducible refine Split.is_false ?_ ?_); decide; conv => whnf) | ((with_reducible refine Split.nez (fun _ => ?_) (fun _ => ?_)) <;> conv => whnf) | ((with_reducible refine Split.eqz (fun _ => ?_) (fun _ => ?_)) <;> conv => whnf) | ((with_reducible refine Split.and ?_)) | ((with_reducible refine Split.or ?_)) | ((with_reducible refine Split.streq (fun _ => ?_) (fun _ => ?_)) <;> conv => whnf) | ((with_reducible refine Split.dec (fun _ => ?_) (fun _ => ?_)) <;> conv => whnf) | ((with_reducible refine Split.mk (fun _ => ?_) (fun _ => ?_)) <;> conv => whnf) | ((with_reducible refine NilK.mk (fun _ => ?_) ?_) <;> conv => whnf) | ((with_reducible refine AltK.l ?_); (conv => whnf); (with_reducible refine Need.mk ?_ ?_); (first | omega | (refine ⟨?_, ?_⟩ <;> simp <;> omega) | (simp; omega)); conv => whnf) | ((with_reducible refine Need.mk ?_ ?_); (first | omega | rfl | decide | (refine ⟨?_, ?_⟩ <;> simp <;> omega) | (simp; omega)); conv => whnf) | ((with_reducible refine Wr.quo ?_ ?_ ?_ ?_); omega; omega; omega; conv => whnf) | ((with_reducible refine Wr.inr ?_ ?_); (first | omega | (simp; omega)); conv => whnf) | ((with_reducible refine Wr.inu ?_ ?_); omega; conv => whnf) | ((with_reducible refine AltK.l ?_); (conv => whnf); (first | (refine CallK.mk _ (h1) ?_) | (refine CallK.mk _ (h2) ?_) | (refine CallK.mk _ (h3) ?_)); conv => whnf) | (exfalso; first | omega | contradiction))
      all_goals (simp_all [retOf, iD] <;> omega)
/-- The cell of a place, -1 if there is none. -/
def cellI (g : Gr) (s : Sg) : Int := if s.x - g.x < 0 ∨ s.y - g.y < 0 ∨ g.cols * g.side ≤ s.x - g.x ∨ g.rows * g.side ≤ s.y - g.y then -1 else (s.y - g.y) / g.side * g.cols + (s.x - g.x) / g.side
theorem div_in {a b n : Int} (hb : 0 < b) (h0 : 0 ≤ a) (h : a < n * b) : 0 ≤ a / b ∧ a / b < n := ⟨Int.ediv_nonneg h0 (by omega), Int.ediv_lt_of_lt_mul hb h⟩
theorem cell_in {g : Gr} (h : FrOk g) {s : Sg} (hc : cellI g s ≠ -1) : 0 ≤ cellI g s ∧ cellI g s < g.cols * g.rows := by
  unfold cellI at *
  split at hc
  · contradiction
  · rename_i h1
    rw [if_neg h1]
    have hs := h.side
    have hco := h.cols
    obtain ⟨a1, a2⟩ := div_in (a := s.x - g.x) (b := g.side) (n := g.cols) (by omega) (by omega) (by omega)
    obtain ⟨b1, b2⟩ := div_in (a := s.y - g.y) (b := g.side) (n := g.rows) (by omega) (by omega) (by omega)
    have m1 := Int.mul_nonneg b1 (show 0 ≤ g.cols by omega)
    have m2 := Int.mul_le_mul_of_nonneg_right (show (s.y - g.y) / g.side ≤ g.rows - 1 by omega) (show 0 ≤ g.cols by omega)
    rw [Int.sub_mul, Int.one_mul, Int.mul_comm g.rows] at m2
    omega
theorem ev_cell (g : Gr) (s : Sg) (h : FrOk g) (hs : -1000000 ≤ s.x ∧ s.x ≤ 1000000 ∧ -1000000 ≤ s.y ∧ s.y ≤ 1000000) : Ev Tryz.prog 59 [grD g, sgD s] (.tup [iD (if cellI g s = -1 then 0 else cellI g s), .bool (decide (cellI g s ≠ -1))]) := by
  have m1 := mul_bd (x := g.cols) (y := g.side) (X := 1024) (Y := 10000) (by have := h.cols; omega) (by have := h.side; omega)
  have m2 := mul_bd (x := g.rows) (y := g.side) (X := 1024) (Y := 10000) (by have := h.rows; omega) (by have := h.side; omega)
  have hx := h.x
  have hy := h.y
  have hsd := h.side
  have hco := h.cols
  have hro := h.rows
  by_cases hin : s.x - g.x < 0 ∨ s.y - g.y < 0 ∨ g.cols * g.side ≤ s.x - g.x ∨ g.rows * g.side ≤ s.y - g.y
  · have e : cellI g s = -1 := by rw [cellI, if_pos hin]
    rw [e]
    refine ev_of_awp tysOk mixed (fn := Tryz.f59) Tryz.func59 rfl rfl rfl ?_
    conv => whnf
    repeat' (first | ((with_reducible refine Split.of_true ?_); conv => whnf) | ((with_reducible refine Split.of_false ?_); conv => whnf) | ((with_reducible refine Split.neg ?_)) | ((with_reducible refine Split.is_true ?_ ?_); decide; conv => whnf) | ((with_reducible refine Split.is_false ?_ ?_); decide; conv => whnf) | ((with_reducible refine Split.nez (fun _ => ?_) (fun _ => ?_)) <;> conv => whnf) | ((with_reducible refine Split.eqz (fun _ => ?_) (fun _ => ?_)) <;> conv => whnf) | ((with_reducible refine Split.and ?_)) | ((with_reducible refine Split.or ?_)) | ((with_reducible refine Split.streq (fun _ => ?_) (fun _ => ?_)) <;> conv => whnf) | ((with_reducible refine Split.dec (fun _ => ?_) (fun _ => ?_)) <;> conv => whnf) | ((with_reducible refine Split.mk (fun _ => ?_) (fun _ => ?_)) <;> conv => whnf) | ((with_reducible refine NilK.mk (fun _ => ?_) ?_) <;> conv => whnf) | ((with_reducible refine AltK.l ?_); (conv => whnf); (with_reducible refine Need.mk ?_ ?_); (first | omega | (refine ⟨?_, ?_⟩ <;> simp <;> omega) | (simp; omega)); conv => whnf) | ((with_reducible refine Need.mk ?_ ?_); (first | omega | rfl | decide | (refine ⟨?_, ?_⟩ <;> simp <;> omega) | (simp; omega)); conv => whnf) | ((with_reducible refine Wr.quo ?_ ?_ ?_ ?_); omega; omega; omega; conv => whnf) | ((with_reducible refine Wr.inr ?_ ?_); (first | omega | (simp; omega)); conv => whnf) | ((with_reducible refine Wr.inu ?_ ?_); omega; conv => whnf) | (exfalso; first | omega | contradiction))
    all_goals rfl
  · obtain ⟨a1, a2⟩ := div_in (a := s.x - g.x) (b := g.side) (n := g.cols) (by omega) (by omega) (by omega)
    obtain ⟨b1, b2⟩ := div_in (a := s.y - g.y) (b := g.side) (n := g.rows) (by omega) (by omega) (by omega)
    have m3 := mul_bd (x := (s.y - g.y) / g.side) (y := g.cols) (X := 1024) (Y := 1024) (by omega) (by omega)
    have m4 := Int.mul_nonneg b1 (show 0 ≤ g.cols by omega)
    have e : cellI g s = (s.y - g.y) / g.side * g.cols + (s.x - g.x) / g.side := by rw [cellI, if_neg hin]
    have e2 : cellI g s ≠ -1 := by omega
    rw [if_neg e2, decide_eq_true e2, e]
    refine ev_of_awp tysOk mixed (fn := Tryz.f59) Tryz.func59 rfl rfl rfl ?_
    conv => whnf
    repeat' (first | ((with_reducible refine Split.of_true ?_); conv => whnf) | ((with_reducible refine Split.of_false ?_); conv => whnf) | ((with_reducible refine Split.neg ?_)) | ((with_reducible refine Split.is_true ?_ ?_); decide; conv => whnf) | ((with_reducible refine Split.is_false ?_ ?_); decide; conv => whnf) | ((with_reducible refine Split.nez (fun _ => ?_) (fun _ => ?_)) <;> conv => whnf) | ((with_reducible refine Split.eqz (fun _ => ?_) (fun _ => ?_)) <;> conv => whnf) | ((with_reducible refine Split.and ?_)) | ((with_reducible refine Split.or ?_)) | ((with_reducible refine Split.streq (fun _ => ?_) (fun _ => ?_)) <;> conv => whnf) | ((with_reducible refine Split.dec (fun _ => ?_) (fun _ => ?_)) <;> conv => whnf) | ((with_reducible refine Split.mk (fun _ => ?_) (fun _ => ?_)) <;> conv => whnf) | ((with_reducible refine NilK.mk (fun _ => ?_) ?_) <;> conv => whnf) | ((with_reducible refine AltK.l ?_); (conv => whnf); (with_reducible refine Need.mk ?_ ?_); (first | omega | (refine ⟨?_, ?_⟩ <;> simp <;> omega) | (simp; omega)); conv => whnf) | ((with_reducible refine Need.mk ?_ ?_); (first | omega | rfl | decide | (refine ⟨?_, ?_⟩ <;> simp <;> omega) | (simp; omega)); conv => whnf) | ((with_reducible refine Wr.quo ?_ ?_ ?_ ?_); omega; omega; omega; conv => whnf) | ((with_reducible refine Wr.inr ?_ ?_); (first | omega | (simp; omega)); conv => whnf) | ((with_reducible refine Wr.inu ?_ ?_); omega; conv => whnf) | (exfalso; first | omega | contradiction))
    all_goals rfl
theorem ev_Cell (g : Gr) (x y : Int) (h : FrOk g) (hs : -1000000 ≤ x ∧ x ≤ 1000000 ∧ -1000000 ≤ y ∧ y ≤ 1000000) : Ev Tryz.prog 16 [grD g, iD x, iD y] (iD (cellI g ⟨0, x, y, 0, 0⟩)) := by
  have hx := h.x
  have hy := h.y
  have hsd := h.side
  have hco := h.cols
  have hro := h.rows
  have h1 := ev_FloorB (x - g.x) g.side (by omega) (by omega)
  have h2 := ev_FloorB (y - g.y) g.side (by omega) (by omega)
  have h3 := ev_Within ((x - g.x) / g.side) 0 (g.cols - 1)
  have h4 := ev_Within ((y - g.y) / g.side) 0 (g.rows - 1)
  have d1 := ediv_bd (a := x - g.x) (b := g.side) (M := 2000000) (by omega) (by omega)
  have d2 := ediv_bd (a := y - g.y) (b := g.side) (M := 2000000) (by omega) (by omega)
  have k1 : ∀ (a n : Int), (0 ≤ a / g.side ∧ a / g.side ≤ n - 1) ↔ (0 ≤ a ∧ a < n * g.side) := by
    intro a n
    constructor
    · rintro ⟨q1, q2⟩
      have r1 := Int.ediv_mul_le a (show g.side ≠ 0 by omega)
      have r2 := Int.lt_ediv_add_one_mul_self a (show 0 < g.side by omega)
      have r3 := Int.mul_nonneg q1 (show 0 ≤ g.side by omega)
      have r4 := Int.mul_le_mul_of_nonneg_right (show a / g.side + 1 ≤ n by omega) (show 0 ≤ g.side by omega)
      omega
    · rintro ⟨q1, q2⟩
      have := div_in (a := a) (b := g.side) (n := n) (by omega) q1 q2
      omega
  have kx := k1 (x - g.x) g.cols
  have ky := k1 (y - g.y) g.rows
  have e : cellI g ⟨0, x, y, 0, 0⟩ = if outsideB ((x - g.x) / g.side) 0 (g.cols - 1) = false ∧ outsideB ((y - g.y) / g.side) 0 (g.rows - 1) = false then (y - g.y) / g.side * g.cols + (x - g.x) / g.side else -1 := by
    have o1 : outsideB ((x - g.x) / g.side) 0 (g.cols - 1) = false ↔ (0 ≤ (x - g.x) / g.side ∧ (x - g.x) / g.side ≤ g.cols - 1) := by simp [outsideB]
    have o2 : outsideB ((y - g.y) / g.side) 0 (g.rows - 1) = false ↔ (0 ≤ (y - g.y) / g.side ∧ (y - g.y) / g.side ≤ g.rows - 1) := by simp [outsideB]
    unfold cellI
    dsimp only
    by_cases hin : x - g.x < 0 ∨ y - g.y < 0 ∨ g.cols * g.side ≤ x - g.x ∨ g.rows * g.side ≤ y - g.y
    · have : ¬ (outsideB ((x - g.x) / g.side) 0 (g.cols - 1) = false ∧ outsideB ((y - g.y) / g.side) 0 (g.rows - 1) = false) := by rw [o1, o2, kx, ky]; omega
      rw [if_pos hin, if_neg this]
    · have : outsideB ((x - g.x) / g.side) 0 (g.cols - 1) = false ∧ outsideB ((y - g.y) / g.side) 0 (g.rows - 1) = false := by rw [o1, o2, kx, ky]; omega
      rw [if_neg hin, if_pos this]
  rw [e]
  have kx2 : outsideB ((x - g.x) / g.side) 0 (g.cols - 1) = false → 0 ≤ (x - g.x) / g.side ∧ (x - g.x) / g.side ≤ g.cols - 1 := by simp [outsideB]
  have ky2 : outsideB ((y - g.y) / g.side) 0 (g.rows - 1) = false → 0 ≤ (y - g.y) / g.side ∧ (y - g.y) / g.side ≤ g.rows - 1 := by simp [outsideB]
  clear kx ky k1 e
  generalize outsideB ((x - g.x) / g.side) 0 (g.cols - 1) = b1 at *
  generalize outsideB ((y - g.y) / g.side) 0 (g.rows - 1) = b2 at *
  generalize (x - g.x) / g.side = c at *
  generalize (y - g.y) / g.side = r at *
  cases b1 with
  | true =>
    rw [if_neg (by simp)]
    refine ev_of_awp tysOk mixed (fn := Tryz.f16) Tryz.func16 rfl rfl rfl ?_
    conv => whnf
    repeat' (first | ((with_reducible refine Split.of_true ?_); conv => whnf) | ((with_reducible refine Split.of_false ?_); conv => whnf) | ((with_reducible refine Split.neg ?_)) | ((with_reducible refine Split.is_true ?_ ?_); decide; conv => whnf) | ((with_reducible refine Split.is_false ?_ ?_); decide; conv => whnf) | ((with_reducible refine Split.nez (fun _ => ?_) (fun _ => ?_)) <;> conv => whnf) | ((with_reducible refine Split.eqz (fun _ => ?_) (fun _ => ?_)) <;> conv => whnf) | ((with_reducible refine Split.and ?_)) | ((with_reducible refine Split.or ?_)) | ((with_reducible refine Split.streq (fun _ => ?_) (fun _ => ?_)) <;> conv => whnf) | ((with_reducible refine Split.dec (fun _ => ?_) (fun _ => ?_)) <;> conv => whnf) | ((with_reducible refine Split.mk (fun _ => ?_) (fun _ => ?_)) <;> conv => whnf) | ((with_reducible refine NilK.mk (fun _ => ?_) ?_) <;> conv => whnf) | ((with_reducible refine AltK.l ?_); (conv => whnf); (with_reducible refine Need.mk ?_ ?_); (first | omega | (refine ⟨?_, ?_⟩ <;> simp <;> omega) | (simp; omega)); conv => whnf) | ((with_reducible refine Need.mk ?_ ?_); (first | omega | rfl | decide | (refine ⟨?_, ?_⟩ <;> simp <;> omega) | (simp; omega)); conv => whnf) | ((with_reducible refine Wr.quo ?_ ?_ ?_ ?_); omega; omega; omega; conv => whnf) | ((with_reducible refine Wr.inr ?_ ?_); (first | omega | (simp; omega)); conv => whnf) | ((with_reducible refine Wr.inu ?_ ?_); omega; conv => whnf) | ((with_reducible refine AltK.l ?_); (conv => whnf); (first | (refine CallK.mk _ (h1) ?_) | (refine CallK.mk _ (h2) ?_) | (refine CallK.mk _ (h3) ?_)); conv => whnf) | (exfalso; first | omega | contradiction))
    rfl
  | false =>
    cases b2 with
    | true =>
      rw [if_neg (by simp)]
      refine ev_of_awp tysOk mixed (fn := Tryz.f16) Tryz.func16 rfl rfl rfl ?_
      conv => whnf
      repeat' (first | ((with_reducible refine Split.of_true ?_); conv => whnf) | ((with_reducible refine Split.of_false ?_); conv => whnf) | ((with_reducible refine Split.neg ?_)) | ((with_reducible refine Split.is_true ?_ ?_); decide; conv => whnf) | ((with_reducible refine Split.is_false ?_ ?_); decide; conv => whnf) | ((with_reducible refine Split.nez (fun _ => ?_) (fun _ => ?_)) <;> conv => whnf) | ((with_reducible refine Split.eqz (fun _ => ?_) (fun _ => ?_)) <;> conv => whnf) | ((with_reducible refine Split.and ?_)) | ((with_reducible refine Split.or ?_)) | ((with_reducible refine Split.streq (fun _ => ?_) (fun _ => ?_)) <;> conv => whnf) | ((with_reducible refine Split.dec (fun _ => ?_) (fun _ => ?_)) <;> conv => whnf) | ((with_reducible refine Split.mk (fun _ => ?_) (fun _ => ?_)) <;> conv => whnf) | ((with_reducible refine NilK.mk (fun _ => ?_) ?_) <;> conv => whnf) | ((with_reducible refine AltK.l ?_); (conv => whnf); (with_reducible refine Need.mk ?_ ?_); (first | omega | (refine ⟨?_, ?_⟩ <;> simp <;> omega) | (simp; omega)); conv => whnf) | ((with_reducible refine Need.mk ?_ ?_); (first | omega | rfl | decide | (refine ⟨?_, ?_⟩ <;> simp <;> omega) | (simp; omega)); conv => whnf) | ((with_reducible refine Wr.quo ?_ ?_ ?_ ?_); omega; omega; omega; conv => whnf) | ((with_reducible refine Wr.inr ?_ ?_); (first | omega | (simp; omega)); conv => whnf) | ((with_reducible refine Wr.inu ?_ ?_); omega; conv => whnf) | ((with_reducible refine AltK.l ?_); (conv => whnf); (first | (refine CallK.mk _ (h1) ?_) | (refine CallK.mk _ (h2) ?_) | (refine CallK.mk _ (h3) ?_) | (refine CallK.mk _ (h4) ?_)); conv => whnf) | (exfalso; first | omega | contradiction))
      rfl
    | false =>
      rw [if_pos ⟨rfl, rfl⟩]
      have q1 := kx2 rfl
      have q2 := ky2 rfl
      have m3 := mul_bd (x := r) (y := g.cols) (X := 1024) (Y := 1024) (by omega) (by omega)
      refine ev_of_awp tysOk mixed (fn := Tryz.f16) Tryz.func16 rfl rfl rfl ?_
      conv => whnf
      repeat' (first | ((with_reducible refine Split.of_true ?_); conv => whnf) | ((with_reducible refine Split.of_false ?_); conv => whnf) | ((with_reducible refine Split.neg ?_)) | ((with_reducible refine Split.is_true ?_ ?_); decide; conv => whnf) | ((with_reducible refine Split.is_false ?_ ?_); decide; conv => whnf) | ((with_reducible refine Split.nez (fun _ => ?_) (fun _ => ?_)) <;> conv => whnf) | ((with_reducible refine Split.eqz (fun _ => ?_) (fun _ => ?_)) <;> conv => whnf) | ((with_reducible refine Split.and ?_)) | ((with_reducible refine Split.or ?_)) | ((with_reducible refine Split.streq (fun _ => ?_) (fun _ => ?_)) <;> conv => whnf) | ((with_reducible refine Split.dec (fun _ => ?_) (fun _ => ?_)) <;> conv => whnf) | ((with_reducible refine Split.mk (fun _ => ?_) (fun _ => ?_)) <;> conv => whnf) | ((with_reducible refine NilK.mk (fun _ => ?_) ?_) <;> conv => whnf) | ((with_reducible refine AltK.l ?_); (conv => whnf); (with_reducible refine Need.mk ?_ ?_); (first | omega | (refine ⟨?_, ?_⟩ <;> simp <;> omega) | (simp; omega)); conv => whnf) | ((with_reducible refine Need.mk ?_ ?_); (first | omega | rfl | decide | (refine ⟨?_, ?_⟩ <;> simp <;> omega) | (simp; omega)); conv => whnf) | ((with_reducible refine Wr.quo ?_ ?_ ?_ ?_); omega; omega; omega; conv => whnf) | ((with_reducible refine Wr.inr ?_ ?_); (first | omega | (simp; omega)); conv => whnf) | ((with_reducible refine Wr.inu ?_ ?_); omega; conv => whnf) | ((with_reducible refine AltK.l ?_); (conv => whnf); (first | (refine CallK.mk _ (h1) ?_) | (refine CallK.mk _ (h2) ?_) | (refine CallK.mk _ (h3) ?_) | (refine CallK.mk _ (h4) ?_)); conv => whnf) | (exfalso; first | omega | contradiction))
      rfl
def repE (v : Int) (n m : Nat) : List D := List.replicate m (iD v) ++ List.replicate (n - m) (D.int .i64 0)
theorem repE_len (v : Int) {n m : Nat} (h : m ≤ n) : (repE v n m).length = n := by simp [repE]; omega
theorem rep_first (v : Int) {n : Nat} (h : 1 ≤ n) : cpy (List.replicate n (D.int .i64 0)) 0 (n - 0) [iD v] = repE v n 1 := by
  simp only [cpy, repE, List.take_zero, List.nil_append, List.drop_replicate]
  rw [show min (n - 0) [iD v].length = 1 by simp; omega, List.take_of_length_le (by simp; omega)]
  simp
theorem rep_step (v : Int) {n m : Nat} (_h : m < n) : cpy (repE v n m) m (n - m) (((repE v n m).take m).drop 0) = repE v n (m + min (n - m) m) := by
  have e1 : (repE v n m).take m = List.replicate m (iD v) := by simp [repE]
  have e2 : ∀ k, m ≤ k → (repE v n m).drop k = List.replicate (n - k) (D.int .i64 0) := by
    intro k hk
    rw [repE, List.drop_append, List.drop_replicate, List.drop_replicate, List.length_replicate]
    rw [show m - k = 0 by omega, show n - m - (k - m) = n - k by omega]; rfl
  rw [cpy, e1, List.drop_zero, List.length_replicate, e2 _ (by omega), List.take_replicate, repE, List.replicate_append_replicate]
theorem xv_Repeat (v : Int) (n : Nat) (hn : 1 ≤ n ∧ n ≤ 1024) : EvX Tryz.prog 60 [.own 1000 1 1, .d (iD n)] [(1000, .row 3 1 [iD v] false)] (.own 9 1 n) [(1000, .row 3 1 [iD v] false), (9, .row 3 1 (List.replicate n (iD v)) false)] := by
  have h1 := ev_MulU 1 n (by omega) (by omega) (by omega)
  rw [Int.one_mul] at h1
  refine evx_of_awp tysOk mixed (fn := Tryz.f60) Tryz.func60 rfl rfl rfl ?_
  conv => whnf
  repeat' (first | ((with_reducible refine Wr.inu (by first | omega | simp) ?_); conv => whnf) | ((with_reducible refine Split.of_true ?_); conv => whnf) | ((with_reducible refine Split.of_false ?_); conv => whnf) | ((with_reducible refine Split.neg ?_)) | ((with_reducible refine Split.is_true ?_ ?_); decide; conv => whnf) | ((with_reducible refine Split.is_false ?_ ?_); decide; conv => whnf) | ((with_reducible refine Split.nez (fun _ => ?_) (fun _ => ?_)) <;> conv => whnf) | ((with_reducible refine Split.eqz (fun _ => ?_) (fun _ => ?_)) <;> conv => whnf) | ((with_reducible refine Split.and ?_)) | ((with_reducible refine Split.or ?_)) | ((with_reducible refine Split.streq (fun _ => ?_) (fun _ => ?_)) <;> conv => whnf) | ((with_reducible refine Split.dec (fun _ => ?_) (fun _ => ?_)) <;> conv => whnf) | ((with_reducible refine Split.mk (fun _ => ?_) (fun _ => ?_)) <;> conv => whnf) | ((with_reducible refine NilK.mk (fun _ => ?_) ?_) <;> conv => whnf) | ((with_reducible refine AltK.l ?_); (conv => whnf); (with_reducible refine Need.mk ?_ ?_); (first | omega | (refine ⟨?_, ?_⟩ <;> simp <;> omega) | (simp; omega)); conv => whnf) | ((with_reducible refine Need.mk ?_ ?_); (first | omega | rfl | decide | (refine ⟨?_, ?_⟩ <;> simp <;> omega) | (simp; omega)); conv => whnf) | ((with_reducible refine Wr.quo ?_ ?_ ?_ ?_); omega; omega; omega; conv => whnf) | ((with_reducible refine Wr.inr ?_ ?_); (first | omega | (simp; omega)); conv => whnf) | ((with_reducible refine Wr.inu ?_ ?_); omega; conv => whnf) | ((with_reducible refine AltK.l ?_); (conv => whnf); (first | (refine CallK.mk _ (h1) ?_)); conv => whnf) | (exfalso; first | omega | contradiction))
  have hmp1 : cpy (List.replicate ((n : Int)).toNat (D.int .i64 0)) 0 ((List.replicate ((n : Int)).toNat (D.int .i64 0)).length - 0) [iD v] = repE v n 1 := by
    rw [Int.toNat_natCast, List.length_replicate]; exact rep_first v hn.1
  refine LoopK.o2 (fun m : Nat => 1 ≤ m ∧ m ≤ n) (fun m => [(8, .d (.int .i64 m))]) (fun m => [(30, .row 3 1 (repE v n m) false)]) (fun m => n - m) 1 ⟨by omega, by omega⟩ (by refine ⟨?_, ?_, rfl⟩ <;> (repeat' (first | exact True.intro | exact rfl | refine ⟨?_, ?_⟩ | (intro h; cases h; done) | (intro h; exact h) | exact map_snoc | (refine own_congr ?_; simp; done) | (refine int_congr ?_; (first | omega | (simp; omega))) | (simp; done) | exact hmp1 | ((first | refine own_congr ?_ | refine int_congr ?_ | skip); simp [D.cells]; done) | ((first | refine own_congr ?_ | refine int_congr ?_); simp [D.cells]; omega) | (show @Eq (List Go.Vm.D) _ []; simp [D.cells]; done) | (simp [D.cells, D.cells]; done)))) ?_
  rintro m ⟨hm1, hm2⟩
  have hl := repE_len v hm2
  by_cases hmn : m < n
  · conv => whnf
    repeat' (first | ((with_reducible refine Split.of_true ?_); conv => whnf) | ((with_reducible refine Split.of_false ?_); conv => whnf) | ((with_reducible refine Split.neg ?_)) | ((with_reducible refine Split.is_true ?_ ?_); decide; conv => whnf) | ((with_reducible refine Split.is_false ?_ ?_); decide; conv => whnf) | ((with_reducible refine Split.nez (fun _ => ?_) (fun _ => ?_)) <;> conv => whnf) | ((with_reducible refine Split.eqz (fun _ => ?_) (fun _ => ?_)) <;> conv => whnf) | ((with_reducible refine Split.and ?_)) | ((with_reducible refine Split.or ?_)) | ((with_reducible refine Split.streq (fun _ => ?_) (fun _ => ?_)) <;> conv => whnf) | ((with_reducible refine Split.dec (fun _ => ?_) (fun _ => ?_)) <;> conv => whnf) | ((with_reducible refine Split.mk (fun _ => ?_) (fun _ => ?_)) <;> conv => whnf) | ((with_reducible refine NilK.mk (fun _ => ?_) ?_) <;> conv => whnf) | ((with_reducible refine Need.mk ?_ ?_); (first | omega | rfl | decide | (refine ⟨?_, ?_⟩ <;> simp <;> omega) | (simp; omega)); conv => whnf) | ((with_reducible refine Wr.quo ?_ ?_ ?_ ?_); omega; omega; omega; conv => whnf) | ((with_reducible refine Wr.inr ?_ ?_); (first | omega | (simp; omega)); conv => whnf) | ((with_reducible refine Wr.inu ?_ ?_); omega; conv => whnf) | (exfalso; first | omega | contradiction))
    refine AltK.r (AltK.l ?_)
    conv => whnf
    conv => whnf
    repeat' (first | ((with_reducible refine Split.of_true ?_); conv => whnf) | ((with_reducible refine Split.of_false ?_); conv => whnf) | ((with_reducible refine Split.neg ?_)) | ((with_reducible refine Split.is_true ?_ ?_); decide; conv => whnf) | ((with_reducible refine Split.is_false ?_ ?_); decide; conv => whnf) | ((with_reducible refine Split.nez (fun _ => ?_) (fun _ => ?_)) <;> conv => whnf) | ((with_reducible refine Split.eqz (fun _ => ?_) (fun _ => ?_)) <;> conv => whnf) | ((with_reducible refine Split.and ?_)) | ((with_reducible refine Split.or ?_)) | ((with_reducible refine Split.streq (fun _ => ?_) (fun _ => ?_)) <;> conv => whnf) | ((with_reducible refine Split.dec (fun _ => ?_) (fun _ => ?_)) <;> conv => whnf) | ((with_reducible refine Split.mk (fun _ => ?_) (fun _ => ?_)) <;> conv => whnf) | ((with_reducible refine NilK.mk (fun _ => ?_) ?_) <;> conv => whnf) | ((with_reducible refine Need.mk ?_ ?_); (first | omega | rfl | decide | (refine ⟨?_, ?_⟩ <;> simp <;> omega) | (simp; omega)); conv => whnf) | ((with_reducible refine Wr.quo ?_ ?_ ?_ ?_); omega; omega; omega; conv => whnf) | ((with_reducible refine Wr.inr ?_ ?_); (first | omega | (simp; omega)); conv => whnf) | ((with_reducible refine Wr.inu ?_ ?_); omega; conv => whnf) | (exfalso; first | omega | contradiction))
    refine AltK.r (AltK.l ?_)
    conv => whnf
    conv => whnf
    repeat' (first | ((with_reducible refine Split.of_true ?_); conv => whnf) | ((with_reducible refine Split.of_false ?_); conv => whnf) | ((with_reducible refine Split.neg ?_)) | ((with_reducible refine Split.is_true ?_ ?_); decide; conv => whnf) | ((with_reducible refine Split.is_false ?_ ?_); decide; conv => whnf) | ((with_reducible refine Split.nez (fun _ => ?_) (fun _ => ?_)) <;> conv => whnf) | ((with_reducible refine Split.eqz (fun _ => ?_) (fun _ => ?_)) <;> conv => whnf) | ((with_reducible refine Split.and ?_)) | ((with_reducible refine Split.or ?_)) | ((with_reducible refine Split.streq (fun _ => ?_) (fun _ => ?_)) <;> conv => whnf) | ((with_reducible refine Split.dec (fun _ => ?_) (fun _ => ?_)) <;> conv => whnf) | ((with_reducible refine Split.mk (fun _ => ?_) (fun _ => ?_)) <;> conv => whnf) | ((with_reducible refine NilK.mk (fun _ => ?_) ?_) <;> conv => whnf) | ((with_reducible refine Need.mk ?_ ?_); (first | omega | rfl | decide | (refine ⟨?_, ?_⟩ <;> simp <;> omega) | (simp; omega)); conv => whnf) | ((with_reducible refine Wr.quo ?_ ?_ ?_ ?_); omega; omega; omega; conv => whnf) | ((with_reducible refine Wr.inr ?_ ?_); (first | omega | (simp; omega)); conv => whnf) | ((with_reducible refine Wr.inu ?_ ?_); omega; conv => whnf) | (exfalso; first | omega | contradiction))
    have hmin : min (((repE v n m).length : Int).toNat - (m : Int).toNat) (((repE v n m).take (m : Int).toNat).drop (Int.toNat 0)).length = min (n - m) m := by
      rw [Int.toNat_natCast, Int.toNat_natCast, hl, show Int.toNat 0 = 0 from rfl, List.drop_zero, List.length_take, hl, Nat.min_eq_left hm2]
    have hmp3 : cpy (repE v n m) (m : Int).toNat (((repE v n m).length : Int).toNat - (m : Int).toNat) (((repE v n m).take (m : Int).toNat).drop (Int.toNat 0)) = repE v n (m + min (n - m) m) := by
      rw [Int.toNat_natCast, Int.toNat_natCast, hl]; exact rep_step v hmn
    have hmp4 : AV.d (.int .i64 ((m : Int) + ((min (((repE v n m).length : Int).toNat - (m : Int).toNat) (((repE v n m).take (m : Int).toNat).drop (Int.toNat 0)).length : Nat) : Int))) = AV.d (.int .i64 ((m + min (n - m) m : Nat) : Int)) := by
      rw [hmin]; congr 2
    exact Again.au (m + min (n - m) m) ⟨by omega, by omega⟩ (by omega) (by refine ⟨?_, ?_, rfl⟩ <;> (repeat' (first | exact True.intro | exact rfl | refine ⟨?_, ?_⟩ | (intro h; cases h; done) | (intro h; exact h) | exact map_snoc | (refine own_congr ?_; simp; done) | (refine int_congr ?_; (first | omega | (simp; omega))) | (simp; done) | exact hmp3 | exact hmp4 | ((first | refine own_congr ?_ | refine int_congr ?_ | skip); simp [D.cells]; done) | ((first | refine own_congr ?_ | refine int_congr ?_); simp [D.cells]; omega) | (show @Eq (List Go.Vm.D) _ []; simp [D.cells]; done) | (simp [D.cells, D.cells]; done))))
  · conv => whnf
    repeat' (first | ((with_reducible refine Split.of_true ?_); conv => whnf) | ((with_reducible refine Split.of_false ?_); conv => whnf) | ((with_reducible refine Split.neg ?_)) | ((with_reducible refine Split.is_true ?_ ?_); decide; conv => whnf) | ((with_reducible refine Split.is_false ?_ ?_); decide; conv => whnf) | ((with_reducible refine Split.nez (fun _ => ?_) (fun _ => ?_)) <;> conv => whnf) | ((with_reducible refine Split.eqz (fun _ => ?_) (fun _ => ?_)) <;> conv => whnf) | ((with_reducible refine Split.and ?_)) | ((with_reducible refine Split.or ?_)) | ((with_reducible refine Split.streq (fun _ => ?_) (fun _ => ?_)) <;> conv => whnf) | ((with_reducible refine Split.dec (fun _ => ?_) (fun _ => ?_)) <;> conv => whnf) | ((with_reducible refine Split.mk (fun _ => ?_) (fun _ => ?_)) <;> conv => whnf) | ((with_reducible refine NilK.mk (fun _ => ?_) ?_) <;> conv => whnf) | ((with_reducible refine AltK.l ?_); (conv => whnf); (with_reducible refine Need.mk ?_ ?_); (first | omega | (refine ⟨?_, ?_⟩ <;> simp <;> omega) | (simp; omega)); conv => whnf) | ((with_reducible refine Need.mk ?_ ?_); (first | omega | rfl | decide | (refine ⟨?_, ?_⟩ <;> simp <;> omega) | (simp; omega)); conv => whnf) | ((with_reducible refine Wr.quo ?_ ?_ ?_ ?_); omega; omega; omega; conv => whnf) | ((with_reducible refine Wr.inr ?_ ?_); (first | omega | (simp; omega)); conv => whnf) | ((with_reducible refine Wr.inu ?_ ?_); omega; conv => whnf) | (exfalso; first | omega | contradiction))
    have e : m = n := by omega
    subst e
    have hmp5 : repE v m m = List.replicate m (iD v) := by simp [repE]
    exact ⟨⟨[(9, some 30)], (by refine ⟨?_, ?_, rfl⟩ <;> (repeat' (first | exact True.intro | exact rfl | refine ⟨?_, ?_⟩ | (intro h; cases h; done) | (intro h; exact h) | exact map_snoc | (refine own_congr ?_; simp; done) | (refine int_congr ?_; (first | omega | (simp; omega))) | (simp; done) | exact hmp5 | ((first | refine own_congr ?_ | refine int_congr ?_ | skip); simp [D.cells]; done) | ((first | refine own_congr ?_ | refine int_congr ?_); simp [D.cells]; omega) | (show @Eq (List Go.Vm.D) _ []; simp [D.cells]; done) | (simp [D.cells, D.cells]; done))))⟩, rfl⟩
end Go.Proofs.Tryz
end

section
namespace Go.Proofs.Tryz
open Go Go.Vm Go.Sort
set_option maxRecDepth 20000
set_option maxHeartbeats 4000000
/-! Binning: the greatest value of each cell. -/
def zget (es : List (Int × Int)) (k : Int) : Option Int := match es with
  | [] => none
  | p :: r => if k = p.1 then some p.2 else zget r k
def zput : List (Int × Int) → Int → Int → List (Int × Int)
  | [], k, x => [(k, x)]
  | p :: r, k, x => if k = p.1 then (k, x) :: r else p :: zput r k x
def zD (es : List (Int × Int)) : List (D × D) := es.map fun p => (iD p.1, iD p.2)
theorem mget_z (k : Int) : ∀ es : List (Int × Int), mget (zD es) (iD k) = (zget es k).map iD
  | [] => rfl
  | p :: r => by
    have ih := mget_z k r
    simp only [zD, List.map_cons] at ih ⊢
    rw [mget, ih, zget]
    by_cases h : k = p.1 <;> simp [keyEq, iD, h]
theorem mput_z (k x : Int) : ∀ es : List (Int × Int), mput (zD es) (iD k) (iD x) = zD (zput es k x)
  | [] => rfl
  | p :: r => by
    have ih := mput_z k x r
    simp only [zD, List.map_cons] at ih ⊢
    rw [mput, ih, zput]
    by_cases h : k = p.1 <;> simp [keyEq, iD, h]
theorem zget_put (k x j : Int) : ∀ es : List (Int × Int), zget (zput es k x) j = if j = k then some x else zget es j
  | [] => by simp only [zput, zget]
  | p :: r => by
    have ih := zget_put k x j r
    rw [zput]
    by_cases h : k = p.1
    · rw [if_pos h, zget, zget, h]
      split <;> rfl
    · rw [if_neg h, zget, zget, ih]
      by_cases h2 : j = p.1
      · subst h2; rw [if_pos rfl, if_pos rfl, if_neg (Ne.symm h)]
      · rw [if_neg h2, if_neg h2]
theorem zput_keys (k x : Int) : ∀ es : List (Int × Int), ∀ p ∈ zput es k x, p.1 = k ∨ p.1 ∈ es.map Prod.fst
  | [], p, h => by simp [zput] at h; left; rw [h]
  | q :: r, p, h => by
    rw [zput] at h
    split at h
    · rcases List.mem_cons.1 h with rfl | h
      · exact .inl rfl
      · right; simp; right; exact ⟨p.2, h⟩
    · rcases List.mem_cons.1 h with rfl | h
      · right; simp
      · rcases zput_keys k x r p h with h | h
        · exact .inl h
        · right; rw [List.map_cons]; exact List.mem_cons_of_mem _ h
theorem zput_nodup (k x : Int) : ∀ es : List (Int × Int), es.Pairwise (fun a b => a.1 ≠ b.1) → (zput es k x).Pairwise fun a b => a.1 ≠ b.1
  | [], _ => by simp [zput]
  | p :: r, h => by
    obtain ⟨h1, h2⟩ := List.pairwise_cons.1 h
    rw [zput]
    split
    · rename_i e
      exact List.pairwise_cons.2 ⟨fun q hq => by rw [e]; exact h1 q hq, h2⟩
    · rename_i e
      refine List.pairwise_cons.2 ⟨fun q hq => ?_, zput_nodup k x r h2⟩
      rcases zput_keys k x r q hq with h3 | h3
      · rw [h3]; exact Ne.symm e
      · obtain ⟨t, ht, e2⟩ := List.mem_map.1 h3
        rw [← e2]; exact h1 t ht
theorem zget_mem : ∀ {es : List (Int × Int)}, es.Pairwise (fun a b => a.1 ≠ b.1) → ∀ p ∈ es, zget es p.1 = some p.2
  | [], _, p, h => by cases h
  | q :: r, h, p, hp => by
    obtain ⟨h1, h2⟩ := List.pairwise_cons.1 h
    rw [zget]
    rcases List.mem_cons.1 hp with rfl | hp
    · rw [if_pos rfl]
    · rw [if_neg (Ne.symm (h1 p hp))]; exact zget_mem h2 p hp
theorem zget_some : ∀ {es : List (Int × Int)} {k x : Int}, zget es k = some x → (k, x) ∈ es
  | [], k, x, h => by cases h
  | q :: r, k, x, h => by
    rw [zget] at h
    split at h
    · rename_i e; cases h; rw [e]; exact List.mem_cons_self
    · exact List.mem_cons_of_mem _ (zget_some h)
def bnStep (g : Gr) (v : Sg → Int) (es : List (Int × Int)) (s : Sg) : List (Int × Int) := if cellI g s = -1 then es else match zget es (cellI g s) with
  | some o => if v s > o then zput es (cellI g s) (v s) else es
  | none => zput es (cellI g s) (v s)
def bnS (g : Gr) (v : Sg → Int) (m : List Sg) : List (Int × Int) := m.foldl (bnStep g v) []
def mxStep (g : Gr) (v : Sg → Int) (i : Int) (o : Option Int) (s : Sg) : Option Int := if cellI g s = i then (match o with
  | some x => some (if v s > x then v s else x)
  | none => some (v s)) else o
def maxO (g : Gr) (v : Sg → Int) (m : List Sg) (i : Int) : Option Int := m.foldl (mxStep g v i) none
theorem bn_snoc (g : Gr) (v : Sg → Int) {m : List Sg} {i : Nat} {s : Sg} (h : m[i]? = some s) : bnS g v (m.take (i + 1)) = bnStep g v (bnS g v (m.take i)) s := by
  rw [bnS, take_snoc h, List.foldl_append]; rfl
structure BnOk (g : Gr) (v : Sg → Int) (m : List Sg) : Prop where
  get : ∀ i, i ≠ -1 → zget (bnS g v m) i = maxO g v m i
  nod : (bnS g v m).Pairwise fun a b => a.1 ≠ b.1
  key : ∀ p ∈ bnS g v m, ∃ s ∈ m, p.1 = cellI g s ∧ cellI g s ≠ -1
theorem bn_ok (g : Gr) (v : Sg → Int) (m : List Sg) : BnOk g v m := by
  refine list_snoc (P := BnOk g v) ⟨fun _ _ => rfl, .nil, fun p h => (by cases h)⟩ (fun m s ih => ?_) m
  have e1 : bnS g v (m ++ [s]) = bnStep g v (bnS g v m) s := by rw [bnS, List.foldl_append]; rfl
  have e2 : ∀ i, maxO g v (m ++ [s]) i = mxStep g v i (maxO g v m i) s := fun i => by rw [maxO, List.foldl_append]; rfl
  obtain ⟨h1, h2, h3⟩ := ih
  have h3' : ∀ p ∈ bnS g v m, ∃ t ∈ m ++ [s], p.1 = cellI g t ∧ cellI g t ≠ -1 := fun p hp => by
    obtain ⟨t, ht, h⟩ := h3 p hp
    exact ⟨t, List.mem_append_left _ ht, h⟩
  have hput : cellI g s ≠ -1 → ∀ p ∈ zput (bnS g v m) (cellI g s) (v s), ∃ t ∈ m ++ [s], p.1 = cellI g t ∧ cellI g t ≠ -1 := by
    intro hc p hp
    rcases zput_keys _ _ _ p hp with h | h
    · exact ⟨s, by simp, h, hc⟩
    · obtain ⟨q, hq, e⟩ := List.mem_map.1 h
      rw [← e]; exact h3' q hq
  constructor
  · intro i hi
    rw [e1, e2, bnStep]
    unfold mxStep
    by_cases hc : cellI g s = -1
    · rw [if_pos hc, if_neg (by omega), h1 i hi]
    · rw [if_neg hc]
      have hz := h1 (cellI g s) hc
      by_cases hci : cellI g s = i
      · rw [if_pos hci]
        subst hci
        rw [← hz]
        cases hq : zget (bnS g v m) (cellI g s) with
        | none => simp only [zget_put, if_pos]
        | some o =>
          simp only
          split
          · rw [zget_put, if_pos rfl]
          · exact hq
      · rw [if_neg hci, ← h1 i hi]
        cases hq : zget (bnS g v m) (cellI g s) with
        | none => simp only [zget_put]; rw [if_neg (Ne.symm hci)]
        | some o =>
          simp only
          split
          · rw [zget_put, if_neg (Ne.symm hci)]
          · rfl
  · rw [e1, bnStep]
    repeat' split
    all_goals first | exact h2 | exact zput_nodup _ _ _ h2
  · rw [e1, bnStep]
    split
    · exact h3'
    · rename_i hc
      repeat' split
      all_goals first | exact hput hc | exact h3'
def cellsN (g : Gr) : Nat := (g.cols * g.rows).toNat
def levS (g : Gr) (v : Sg → Int) (l : List Sg) : List Int := (List.range (cellsN g)).map fun i : Nat => (maxO g v l (i : Int)).getD 30000
def badO : Option Int → Bool
  | some x => outsideB x (-20000) 20000
  | none => false
def badS (g : Gr) (v : Sg → Int) (l : List Sg) : Bool := (List.range (cellsN g)).any fun i : Nat => badO (maxO g v l (i : Int))
def gr0 : Gr := ⟨0, 0, 0, 0, 0, []⟩
def binRes (g : Gr) (v : Sg → Int) (l : List Sg) : Gr × Int := if chkErr sgB Sg.n l ≠ 0 then (gr0, chkErr sgB Sg.n l) else if frErr g ≠ 0 then (gr0, frErr g) else if badS g v l = true then (gr0, 2) else ({ g with lv := levS g v l }, 0)
def grE (x : Gr × Int) : D := .tup [grD x.1, iD x.2]
theorem bad_lv {g : Gr} {v : Sg → Int} {l : List Sg} (hF : FrOk g) : badS g v l = (bnS g v l).any fun p => outsideB p.2 (-20000) 20000 := by
  obtain ⟨h1, h2, h3⟩ := bn_ok g v l
  rw [Bool.eq_iff_iff, badS, List.any_eq_true, List.any_eq_true]
  constructor
  · rintro ⟨i, hi, hb⟩
    rw [← h1 i (by omega)] at hb
    cases hz : zget (bnS g v l) i with
    | none => rw [hz] at hb; cases hb
    | some x => rw [hz] at hb; exact ⟨_, zget_some hz, hb⟩
  · rintro ⟨p, hp, hb⟩
    obtain ⟨s, _, e, hc⟩ := h3 p hp
    have hin := cell_in hF hc
    refine ⟨p.1.toNat, by rw [List.mem_range]; unfold cellsN; omega, ?_⟩
    have e2 : ((p.1.toNat : Nat) : Int) = p.1 := by omega
    rw [e2, ← h1 p.1 (by omega), zget_mem h2 p hp]
    exact hb
def rowOf (lv : List (Int × Int)) (n : Nat) (seen : List Nat) : List Int := seen.foldr (fun j row => match lv[j]? with
  | some p => row.set p.1.toNat p.2
  | none => row) (List.replicate n 30000)
theorem rowOf_len (lv : List (Int × Int)) (n : Nat) : ∀ seen, (rowOf lv n seen).length = n
  | [] => by simp [rowOf]
  | j :: seen => by
    have := rowOf_len lv n seen
    rw [rowOf, List.foldr_cons]
    rw [rowOf] at this
    split <;> simp [this]
theorem rowOf_get {lv : List (Int × Int)} {n : Nat} (hk : ∀ p ∈ lv, 0 ≤ p.1) {i : Nat} (hi : i < n) : ∀ seen, (rowOf lv n seen)[i]? = some (match (seen.filterMap fun j => lv[j]?).find? (fun p => p.1 == (i : Int)) with
    | some p => p.2
    | none => 30000)
  | [] => by simp [rowOf, hi]
  | j :: seen => by
    have ih := rowOf_get hk hi seen
    have hl := rowOf_len lv n seen
    rw [rowOf, List.foldr_cons]
    rw [rowOf] at ih hl
    cases hj : lv[j]? with
    | none => simp only [List.filterMap_cons, hj]; exact ih
    | some p =>
      have h0 := hk p (List.mem_of_getElem? hj)
      simp only [List.filterMap_cons, hj, List.find?_cons]
      by_cases e : p.1 = (i : Int)
      · have e2 : p.1.toNat = i := by omega
        have e3 : (p.1 == (i : Int)) = true := by simpa using e
        rw [e3, e2, List.getElem?_set]; simp [hl, hi]
      · have e2 : p.1.toNat ≠ i := by omega
        have e3 : (p.1 == (i : Int)) = false := by simpa using e
        rw [e3, List.getElem?_set_ne e2]; exact ih
theorem rowOf_all {g : Gr} {v : Sg → Int} {l : List Sg} (hF : FrOk g) {seen : List Nat} (h : ∀ j, j < (bnS g v l).length → j ∈ seen) : rowOf (bnS g v l) (cellsN g) seen = levS g v l := by
  obtain ⟨h1, h2, h3⟩ := bn_ok g v l
  have hk : ∀ p ∈ bnS g v l, 0 ≤ p.1 := fun p hp => by
    obtain ⟨s, _, e, hc⟩ := h3 p hp
    have := cell_in hF hc
    omega
  apply List.ext_getElem?
  intro i
  by_cases hi : i < cellsN g
  · rw [rowOf_get hk hi, levS, List.getElem?_map, List.getElem?_range hi, Option.map_some]
    congr 1
    rw [← h1 i (by omega)]
    cases hf : (seen.filterMap fun j => (bnS g v l)[j]?).find? fun p => p.1 == (i : Int) with
    | some p =>
      have hm := List.mem_of_find?_eq_some hf
      have he : p.1 = i := by simpa using List.find?_some hf
      obtain ⟨j, _, hj⟩ := List.mem_filterMap.1 hm
      rw [← he, zget_mem h2 p (List.mem_of_getElem? hj)]; rfl
    | none =>
      cases hz : zget (bnS g v l) i with
      | none => rfl
      | some x =>
        have hx := zget_some hz
        obtain ⟨j, hj, e⟩ := List.getElem_of_mem hx
        have := List.find?_eq_none.1 hf ((i : Int), x) (List.mem_filterMap.2 ⟨j, h j hj, by rw [List.getElem?_eq_getElem hj, e]⟩)
        simp at this
  · rw [List.getElem?_eq_none (by rw [rowOf_len]; omega), List.getElem?_eq_none (by rw [levS, List.length_map, List.length_range]; omega)]
end Go.Proofs.Tryz
end

section
namespace Go.Proofs.Tryz
open Go Go.Vm Go.Sort
set_option maxRecDepth 20000
set_option maxHeartbeats 8000000
/-! Right thinnings. -/
def notUp (o : List Sg) (n : Int) : Bool := match o.getLast? with
  | none => false
  | some p => decide (n ≤ p.n)
def kRun (l : List Sg) (r : Int) : List Sg → List Int → Option (List Sg)
  | o, [] => some o
  | o, n :: rest => match l.find? fun s => s.n == n with
    | none => none
    | some s => if notUp o n = true then none else if (o.any fun k => decide (sqS k s.x s.y ≤ r * r)) = true then none else kRun l r (o ++ [s]) rest
def gUp : Option Int → Int → Bool
  | none, _ => false
  | some q, n => decide (n ≤ q)
def gBad (r : Int) (s k : Sg) : Bool := decide (sqS k s.x s.y > r * r) || decide (k.hi < s.hi)
def gRun (l kp : List Sg) (r : Int) : Option Int → List (Int × Int) → Bool
  | _, [] => true
  | p, g :: rest => match l.find? (fun s => s.n == g.1), kp.find? (fun s => s.n == g.2) with
    | some s, some k => if (kp.find? fun s => s.n == g.1).isSome = true then false else if gUp p g.1 = true then false else if gBad r s k = true then false else gRun l kp r (some g.1) rest
    | _, _ => false
def rightB (l : List Sg) (r : Int) (k : List Int) (g : List (Int × Int)) : Bool := decide (k.length + g.length = l.length) && match kRun l r [] k with
  | none => false
  | some kp => gRun l kp r none g
/-- What is kept so far: in order, out of the sheet, under the numbers that were read. -/
structure KOk (l : List Sg) (k : List Int) (i : Nat) (o : List Sg) : Prop where
  nums : o.map Sg.n = k.take i
  sub : ∀ s ∈ o, s ∈ l
  up : o.Pairwise fun a b => a.n < b.n
theorem KOk.len {l : List Sg} {k : List Int} {i : Nat} {o : List Sg} (h : KOk l k i o) : o.length = min i k.length := by
  have := congrArg List.length h.nums
  rwa [List.length_map, List.length_take] at this
theorem find_mem {l : List Sg} {n : Int} {s : Sg} (h : (l.find? fun s => s.n == n) = some s) : s ∈ l ∧ s.n = n := ⟨List.mem_of_find?_eq_some h, by simpa using List.find?_some h⟩
theorem nodup_len : ∀ (n : Nat) (l : List Nat), l.Nodup → (∀ x ∈ l, x < n) → l.length ≤ n
  | 0, l, _, h => by
    cases l with
    | nil => simp
    | cons a r => have := h a (by simp); omega
  | n + 1, l, hn, h => by
    by_cases hm : n ∈ l
    · have := nodup_len n (l.erase n) (hn.erase n) fun x hx => by
        have h1 := h x (List.mem_of_mem_erase hx)
        have h2 : x ≠ n := ((hn.mem_erase_iff).1 hx).1
        omega
      rw [List.length_erase_of_mem hm] at this
      omega
    · have := nodup_len n l hn fun x hx => by
        have h1 := h x hx
        have : x ≠ n := by rintro rfl; exact hm hx
        omega
      omega
theorem KOk.new {l : List Sg} {k : List Int} {i : Nat} {o : List Sg} {s : Sg} (h : KOk l k (i + 1) (o ++ [s])) : ∀ t ∈ o, t.n ≠ s.n := fun t ht e => by
  have := (List.pairwise_append.1 h.up).2.2 t ht s (by simp)
  omega
theorem LookK.byN {o : List Sg} (hu : NoTwo o) {n : Int} {A : D → Prop} {B : Prop} (h1 : ∀ s, (o.find? fun s => s.n == n) = some s → A (sgD s)) (h2 : (o.find? fun s => s.n == n) = none → B) : LookK (Go.Proofs.Tryz.byN o) (iD n) A B := by
  refine LookK.mk (fun v hv => ?_) (fun hv => ?_)
  · rw [mget_byN _ _ hu, Option.map_eq_some_iff] at hv
    obtain ⟨s, hs, rfl⟩ := hv
    exact h1 s hs
  · rw [mget_byN _ _ hu, Option.map_eq_none_iff] at hv
    exact h2 hv
end Go.Proofs.Tryz
end

section
namespace Go.Proofs.Tryz
open Go Go.Vm Go.Sort
set_option maxRecDepth 20000
set_option maxHeartbeats 8000000
/-! Binning, walked. -/
theorem zD_len (es : List (Int × Int)) : (zD es).length = es.length := List.length_map _
theorem zD_get {es : List (Int × Int)} {j : Nat} {p : D × D} (h : (zD es)[j]? = some p) : ∃ q, es[j]? = some q ∧ p = (iD q.1, iD q.2) := by
  rw [zD, List.getElem?_map, Option.map_eq_some_iff] at h
  obtain ⟨q, h1, rfl⟩ := h
  exact ⟨q, h1, rfl⟩
theorem ev_binned (l : List Sg) (g : Gr) (f : Nat) (caps : List D) (v : Sg → Int) (hf : ∀ s ∈ l, Ev Tryz.prog f ([sgD s] ++ caps) (iD (v s))) : Ev Tryz.prog 36 [.sl 5 (l.map sgD), grD g, .fn f caps] (grE (binRes g v l)) := by
  have hlen : (l.map sgD).length = l.length := List.length_map _
  have h1 := ev_CheckS l
  have h2 := ev_checkCells g
  unfold binRes
  by_cases c0 : chkErr sgB Sg.n l = 0
  · rw [if_neg (by simpa using c0)]
    rw [c0] at h1
    obtain ⟨hl5, hall, hu⟩ := chk_zero c0
    by_cases f0 : frErr g = 0
    · rw [if_neg (by simpa using f0)]
      rw [f0] at h2
      have hF := fr_ok f0
      refine ev_of_awp tysOk mixed (fn := Tryz.f36) Tryz.func36 rfl rfl rfl ?_
      conv => whnf
      repeat' (first | ((with_reducible refine Split.of_true ?_); conv => whnf) | ((with_reducible refine Split.of_false ?_); conv => whnf) | ((with_reducible refine Split.neg ?_)) | ((with_reducible refine Split.is_true ?_ ?_); decide; conv => whnf) | ((with_reducible refine Split.is_false ?_ ?_); decide; conv => whnf) | ((with_reducible refine Split.nez (fun _ => ?_) (fun _ => ?_)) <;> conv => whnf) | ((with_reducible refine Split.eqz (fun _ => ?_) (fun _ => ?_)) <;> conv => whnf) | ((with_reducible refine Split.and ?_)) | ((with_reducible refine Split.or ?_)) | ((with_reducible refine Split.streq (fun _ => ?_) (fun _ => ?_)) <;> conv => whnf) | ((with_reducible refine Split.dec (fun _ => ?_) (fun _ => ?_)) <;> conv => whnf) | ((with_reducible refine Split.mk (fun _ => ?_) (fun _ => ?_)) <;> conv => whnf) | ((with_reducible refine NilK.mk (fun _ => ?_) ?_) <;> conv => whnf) | ((with_reducible refine AltK.l ?_); (conv => whnf); (with_reducible refine Need.mk ?_ ?_); (first | omega | (refine ⟨?_, ?_⟩ <;> simp <;> omega) | (simp; omega)); conv => whnf) | ((with_reducible refine Need.mk ?_ ?_); (first | omega | rfl | decide | (refine ⟨?_, ?_⟩ <;> simp <;> omega) | (simp; omega)); conv => whnf) | ((with_reducible refine Wr.quo ?_ ?_ ?_ ?_); omega; omega; omega; conv => whnf) | ((with_reducible refine Wr.inr ?_ ?_); (first | omega | (simp; omega)); conv => whnf) | ((with_reducible refine Wr.inu ?_ ?_); omega; conv => whnf) | ((with_reducible refine AltK.l ?_); (conv => whnf); (first | (refine CallK.mk _ (h1) ?_) | (refine CallK.mk _ (h2) ?_)); conv => whnf) | (exfalso; first | omega | contradiction))
      refine LoopK.o2 (fun i : Nat => i ≤ l.length) (fun i => [(34, .d (.int .i64 i))]) (fun i => [(31, .map 3 3 (.int .i64) (zD (bnS g v (l.take i))))]) (fun i => l.length - i) 0 (by simp) (by refine ⟨?_, ?_, rfl⟩ <;> (repeat' (first | exact True.intro | exact rfl | refine ⟨?_, ?_⟩ | (intro h; cases h; done) | (intro h; exact h) | exact map_snoc | (refine own_congr ?_; simp; done) | (refine int_congr ?_; (first | omega | (simp; omega))) | (simp; done)))) ?_
      rintro i hi
      by_cases hil : i < l.length
      · obtain ⟨s, hs⟩ := some_of_lt hil
        have hsl := List.mem_of_getElem? hs
        have hst := bn_snoc g v hs
        have h3 := ev_cell g s hF (sg_place (hall s hsl))
        have h4 := hf s hsl
        rw [bnStep] at hst
        by_cases hc : cellI g s = -1
        · rw [if_pos hc] at hst
          rw [if_pos hc, decide_eq_false (by simpa using hc)] at h3
          conv => whnf
          repeat' (first | ((refine PickE.map i hs (by omega) ?_); conv => whnf) | ((with_reducible refine Split.of_true ?_); conv => whnf) | ((with_reducible refine Split.of_false ?_); conv => whnf) | ((with_reducible refine Split.neg ?_)) | ((with_reducible refine Split.is_true ?_ ?_); decide; conv => whnf) | ((with_reducible refine Split.is_false ?_ ?_); decide; conv => whnf) | ((with_reducible refine Split.nez (fun _ => ?_) (fun _ => ?_)) <;> conv => whnf) | ((with_reducible refine Split.eqz (fun _ => ?_) (fun _ => ?_)) <;> conv => whnf) | ((with_reducible refine Split.and ?_)) | ((with_reducible refine Split.or ?_)) | ((with_reducible refine Split.streq (fun _ => ?_) (fun _ => ?_)) <;> conv => whnf) | ((with_reducible refine Split.dec (fun _ => ?_) (fun _ => ?_)) <;> conv => whnf) | ((with_reducible refine Split.mk (fun _ => ?_) (fun _ => ?_)) <;> conv => whnf) | ((with_reducible refine NilK.mk (fun _ => ?_) ?_) <;> conv => whnf) | ((with_reducible refine AltK.l ?_); (conv => whnf); (with_reducible refine Need.mk ?_ ?_); (first | omega | (refine ⟨?_, ?_⟩ <;> simp <;> omega) | (simp; omega)); conv => whnf) | ((with_reducible refine Need.mk ?_ ?_); (first | omega | rfl | decide | (refine ⟨?_, ?_⟩ <;> simp <;> omega) | (simp; omega)); conv => whnf) | ((with_reducible refine Wr.quo ?_ ?_ ?_ ?_); omega; omega; omega; conv => whnf) | ((with_reducible refine Wr.inr ?_ ?_); (first | omega | (simp; omega)); conv => whnf) | ((with_reducible refine Wr.inu ?_ ?_); omega; conv => whnf) | ((with_reducible refine AltK.l ?_); (conv => whnf); (first | (refine CallK.mk _ (h3) ?_) | (refine CallK.mk _ (h4) ?_)); conv => whnf) | (exfalso; first | omega | contradiction))
          exact Again.au (i + 1) (by omega) (by omega) (by refine ⟨?_, ?_, rfl⟩ <;> (repeat' (first | exact True.intro | exact rfl | refine ⟨?_, ?_⟩ | (intro h; cases h; done) | (intro h; exact h) | exact map_snoc | (refine own_congr ?_; simp; done) | (refine int_congr ?_; (first | omega | (simp; omega))) | (simp; done) | ((first | refine own_congr ?_ | refine int_congr ?_ | skip); simp [hst]; done) | ((first | refine own_congr ?_ | refine int_congr ?_); simp [hst]; omega) | (show @Eq (List Go.Vm.D) _ []; simp [hst]; done) | (simp [D.cells, hst]; done))))
        · rw [if_neg hc] at hst
          rw [if_neg hc, decide_eq_true hc] at h3
          generalize cellI g s = c at *
          have hm := mget_z c (bnS g v (l.take i))
          have hp := mput_z c (v s) (bnS g v (l.take i))
          conv => whnf
          repeat' (first | ((refine PickE.map i hs (by omega) ?_); conv => whnf) | ((with_reducible refine Split.of_true ?_); conv => whnf) | ((with_reducible refine Split.of_false ?_); conv => whnf) | ((with_reducible refine Split.neg ?_)) | ((with_reducible refine Split.is_true ?_ ?_); decide; conv => whnf) | ((with_reducible refine Split.is_false ?_ ?_); decide; conv => whnf) | ((with_reducible refine Split.nez (fun _ => ?_) (fun _ => ?_)) <;> conv => whnf) | ((with_reducible refine Split.eqz (fun _ => ?_) (fun _ => ?_)) <;> conv => whnf) | ((with_reducible refine Split.and ?_)) | ((with_reducible refine Split.or ?_)) | ((with_reducible refine Split.streq (fun _ => ?_) (fun _ => ?_)) <;> conv => whnf) | ((with_reducible refine Split.dec (fun _ => ?_) (fun _ => ?_)) <;> conv => whnf) | ((with_reducible refine Split.mk (fun _ => ?_) (fun _ => ?_)) <;> conv => whnf) | ((with_reducible refine NilK.mk (fun _ => ?_) ?_) <;> conv => whnf) | ((with_reducible refine AltK.l ?_); (conv => whnf); (with_reducible refine Need.mk ?_ ?_); (first | omega | (refine ⟨?_, ?_⟩ <;> simp <;> omega) | (simp; omega)); conv => whnf) | ((with_reducible refine Need.mk ?_ ?_); (first | omega | rfl | decide | (refine ⟨?_, ?_⟩ <;> simp <;> omega) | (simp; omega)); conv => whnf) | ((with_reducible refine Wr.quo ?_ ?_ ?_ ?_); omega; omega; omega; conv => whnf) | ((with_reducible refine Wr.inr ?_ ?_); (first | omega | (simp; omega)); conv => whnf) | ((with_reducible refine Wr.inu ?_ ?_); omega; conv => whnf) | ((with_reducible refine AltK.l ?_); (conv => whnf); (first | (refine CallK.mk _ (h3) ?_) | (refine CallK.mk _ (h4) ?_)); conv => whnf) | (exfalso; first | omega | contradiction))
          refine LookK.mk (fun w hw => ?_) (fun hw => ?_)
          · rw [hm, Option.map_eq_some_iff] at hw
            obtain ⟨o, ho, rfl⟩ := hw
            rw [ho] at hst
            simp only at hst
            conv => whnf
            repeat' (first | ((with_reducible refine Split.of_true ?_); conv => whnf) | ((with_reducible refine Split.of_false ?_); conv => whnf) | ((with_reducible refine Split.neg ?_)) | ((with_reducible refine Split.is_true ?_ ?_); decide; conv => whnf) | ((with_reducible refine Split.is_false ?_ ?_); decide; conv => whnf) | ((with_reducible refine Split.nez (fun _ => ?_) (fun _ => ?_)) <;> conv => whnf) | ((with_reducible refine Split.eqz (fun _ => ?_) (fun _ => ?_)) <;> conv => whnf) | ((with_reducible refine Split.and ?_)) | ((with_reducible refine Split.or ?_)) | ((with_reducible refine Split.streq (fun _ => ?_) (fun _ => ?_)) <;> conv => whnf) | ((with_reducible refine Split.dec (fun _ => ?_) (fun _ => ?_)) <;> conv => whnf) | ((with_reducible refine Split.mk (fun _ => ?_) (fun _ => ?_)) <;> conv => whnf) | ((with_reducible refine NilK.mk (fun _ => ?_) ?_) <;> conv => whnf) | ((with_reducible refine AltK.l ?_); (conv => whnf); (with_reducible refine Need.mk ?_ ?_); (first | omega | (refine ⟨?_, ?_⟩ <;> simp <;> omega) | (simp; omega)); conv => whnf) | ((with_reducible refine Need.mk ?_ ?_); (first | omega | rfl | decide | (refine ⟨?_, ?_⟩ <;> simp <;> omega) | (simp; omega)); conv => whnf) | ((with_reducible refine Wr.quo ?_ ?_ ?_ ?_); omega; omega; omega; conv => whnf) | ((with_reducible refine Wr.inr ?_ ?_); (first | omega | (simp; omega)); conv => whnf) | ((with_reducible refine Wr.inu ?_ ?_); omega; conv => whnf) | ((with_reducible refine AltK.l ?_); (conv => whnf); (first | (refine CallK.mk _ (h4) ?_)); conv => whnf) | (exfalso; first | omega | contradiction))
            · rw [if_pos (by assumption)] at hst
              rw [← hst] at hp
              have hmp1 := hp
              exact Again.au (i + 1) (by omega) (by omega) (by refine ⟨?_, ?_, rfl⟩ <;> (repeat' (first | exact True.intro | exact rfl | refine ⟨?_, ?_⟩ | (intro h; cases h; done) | (intro h; exact h) | exact map_snoc | (refine own_congr ?_; simp; done) | (refine int_congr ?_; (first | omega | (simp; omega))) | (simp; done) | exact hmp1 | ((first | refine own_congr ?_ | refine int_congr ?_ | skip); simp [D.cells]; done) | ((first | refine own_congr ?_ | refine int_congr ?_); simp [D.cells]; omega) | (show @Eq (List Go.Vm.D) _ []; simp [D.cells]; done) | (simp [D.cells, D.cells]; done))))
            · rw [if_neg (by assumption)] at hst
              exact Again.au (i + 1) (by omega) (by omega) (by refine ⟨?_, ?_, rfl⟩ <;> (repeat' (first | exact True.intro | exact rfl | refine ⟨?_, ?_⟩ | (intro h; cases h; done) | (intro h; exact h) | exact map_snoc | (refine own_congr ?_; simp; done) | (refine int_congr ?_; (first | omega | (simp; omega))) | (simp; done) | ((first | refine own_congr ?_ | refine int_congr ?_ | skip); simp [hst]; done) | ((first | refine own_congr ?_ | refine int_congr ?_); simp [hst]; omega) | (show @Eq (List Go.Vm.D) _ []; simp [hst]; done) | (simp [D.cells, hst]; done))))
          · rw [hm, Option.map_eq_none_iff] at hw
            rw [hw] at hst
            simp only at hst
            rw [← hst] at hp
            have hmp1 := hp
            conv => whnf
            repeat' (first | ((with_reducible refine Split.of_true ?_); conv => whnf) | ((with_reducible refine Split.of_false ?_); conv => whnf) | ((with_reducible refine Split.neg ?_)) | ((with_reducible refine Split.is_true ?_ ?_); decide; conv => whnf) | ((with_reducible refine Split.is_false ?_ ?_); decide; conv => whnf) | ((with_reducible refine Split.nez (fun _ => ?_) (fun _ => ?_)) <;> conv => whnf) | ((with_reducible refine Split.eqz (fun _ => ?_) (fun _ => ?_)) <;> conv => whnf) | ((with_reducible refine Split.and ?_)) | ((with_reducible refine Split.or ?_)) | ((with_reducible refine Split.streq (fun _ => ?_) (fun _ => ?_)) <;> conv => whnf) | ((with_reducible refine Split.dec (fun _ => ?_) (fun _ => ?_)) <;> conv => whnf) | ((with_reducible refine Split.mk (fun _ => ?_) (fun _ => ?_)) <;> conv => whnf) | ((with_reducible refine NilK.mk (fun _ => ?_) ?_) <;> conv => whnf) | ((with_reducible refine AltK.l ?_); (conv => whnf); (with_reducible refine Need.mk ?_ ?_); (first | omega | (refine ⟨?_, ?_⟩ <;> simp <;> omega) | (simp; omega)); conv => whnf) | ((with_reducible refine Need.mk ?_ ?_); (first | omega | rfl | decide | (refine ⟨?_, ?_⟩ <;> simp <;> omega) | (simp; omega)); conv => whnf) | ((with_reducible refine Wr.quo ?_ ?_ ?_ ?_); omega; omega; omega; conv => whnf) | ((with_reducible refine Wr.inr ?_ ?_); (first | omega | (simp; omega)); conv => whnf) | ((with_reducible refine Wr.inu ?_ ?_); omega; conv => whnf) | ((with_reducible refine AltK.l ?_); (conv => whnf); (first | (refine CallK.mk _ (h4) ?_)); conv => whnf) | (exfalso; first | omega | contradiction))
            exact Again.au (i + 1) (by omega) (by omega) (by refine ⟨?_, ?_, rfl⟩ <;> (repeat' (first | exact True.intro | exact rfl | refine ⟨?_, ?_⟩ | (intro h; cases h; done) | (intro h; exact h) | exact map_snoc | (refine own_congr ?_; simp; done) | (refine int_congr ?_; (first | omega | (simp; omega))) | (simp; done) | exact hmp1 | ((first | refine own_congr ?_ | refine int_congr ?_ | skip); simp [D.cells]; done) | ((first | refine own_congr ?_ | refine int_congr ?_); simp [D.cells]; omega) | (show @Eq (List Go.Vm.D) _ []; simp [D.cells]; done) | (simp [D.cells, D.cells]; done))))
      · obtain ⟨n, hn⟩ : ∃ n : Nat, g.cols * g.rows = n := ⟨(g.cols * g.rows).toNat, by have := hF.all; omega⟩
        have hal := hF.all
        have hR : EvX Tryz.prog 60 [.own 67 1 1, .d (iD n)] [(67, .row 3 1 [iD 30000] false)] (.own 73 1 n) [(67, .row 3 1 [iD 30000] false), (73, .row 3 1 (List.replicate n (iD 30000)) false)] := (xv_Repeat 30000 n (by omega)).rn [(1000, 67), (9, 73)] rfl
        rw [← hn] at hR
        rw [List.take_of_length_le (show l.length ≤ i by omega)]
        have hN : cellsN g = n := by unfold cellsN; omega
        have hbad := bad_lv (v := v) (l := l) hF
        have hall2 := fun seen h => rowOf_all (v := v) (l := l) hF (seen := seen) h
        rw [hN] at hall2
        obtain ⟨b1, b2, b3⟩ := bn_ok g v l
        have hkey : ∀ p ∈ bnS g v l, 0 ≤ p.1 ∧ p.1 < n := fun p hp => by
          obtain ⟨s, _, e, hc⟩ := b3 p hp
          have := cell_in hF hc
          omega
        clear b1 b2 b3
        generalize bnS g v l = lv at *
        have hmp2 : List.replicate n (iD 30000) = (rowOf lv n []).map iD := by simp [rowOf]
        conv => whnf
        repeat' (first | ((with_reducible refine Split.of_true ?_); conv => whnf) | ((with_reducible refine Split.of_false ?_); conv => whnf) | ((with_reducible refine Split.neg ?_)) | ((with_reducible refine Split.is_true ?_ ?_); decide; conv => whnf) | ((with_reducible refine Split.is_false ?_ ?_); decide; conv => whnf) | ((with_reducible refine Split.nez (fun _ => ?_) (fun _ => ?_)) <;> conv => whnf) | ((with_reducible refine Split.eqz (fun _ => ?_) (fun _ => ?_)) <;> conv => whnf) | ((with_reducible refine Split.and ?_)) | ((with_reducible refine Split.or ?_)) | ((with_reducible refine Split.streq (fun _ => ?_) (fun _ => ?_)) <;> conv => whnf) | ((with_reducible refine Split.dec (fun _ => ?_) (fun _ => ?_)) <;> conv => whnf) | ((with_reducible refine Split.mk (fun _ => ?_) (fun _ => ?_)) <;> conv => whnf) | ((with_reducible refine NilK.mk (fun _ => ?_) ?_) <;> conv => whnf) | ((with_reducible refine AltK.l ?_); (conv => whnf); (with_reducible refine Need.mk ?_ ?_); (first | omega | (refine ⟨?_, ?_⟩ <;> simp <;> omega) | (simp; omega)); conv => whnf) | ((with_reducible refine Need.mk ?_ ?_); (first | omega | rfl | decide | (refine ⟨?_, ?_⟩ <;> simp <;> omega) | (simp; omega)); conv => whnf) | ((with_reducible refine Wr.quo ?_ ?_ ?_ ?_); omega; omega; omega; conv => whnf) | ((with_reducible refine Wr.inr ?_ ?_); (first | omega | (simp; omega)); conv => whnf) | ((with_reducible refine Wr.inu ?_ ?_); omega; conv => whnf) | ((with_reducible refine AltK.r ?_); (conv => whnf); (first | (refine CallX.mk _ _ (hR) rfl ?_)); conv => whnf) | (exfalso; first | omega | contradiction))
        refine LoopK.o2 (fun seen : List Nat => seen.Nodup ∧ (∀ j ∈ seen, j < lv.length) ∧ ∀ j ∈ seen, ∀ p, lv[j]? = some p → outsideB p.2 (-20000) 20000 = false) (fun _ => []) (fun seen => [(73, .row 3 1 ((rowOf lv n seen).map iD) false), (76, .iter (some 31) (zD lv).length seen)]) (fun seen => lv.length - seen.length) [] ⟨.nil, (fun j hj => (by cases hj)), fun j hj => (by cases hj)⟩ (by refine ⟨?_, ?_, rfl⟩ <;> (repeat' (first | exact True.intro | exact rfl | refine ⟨?_, ?_⟩ | (intro h; cases h; done) | (intro h; exact h) | exact map_snoc | (refine own_congr ?_; simp; done) | (refine int_congr ?_; (first | omega | (simp; omega))) | (simp; done) | exact hmp2 | ((first | refine own_congr ?_ | refine int_congr ?_ | skip); simp [D.cells]; done) | ((first | refine own_congr ?_ | refine int_congr ?_); simp [D.cells]; omega) | (show @Eq (List Go.Vm.D) _ []; simp [D.cells]; done) | (simp [D.cells, D.cells]; done)))) ?_
        rintro seen ⟨n1, n2, n3⟩
        have hrl : ((rowOf lv n seen).map iD).length = n := by rw [List.length_map, rowOf_len]
        conv => whnf
        repeat' (first | ((with_reducible refine Split.of_true ?_); conv => whnf) | ((with_reducible refine Split.of_false ?_); conv => whnf) | ((with_reducible refine Split.neg ?_)) | ((with_reducible refine Split.is_true ?_ ?_); decide; conv => whnf) | ((with_reducible refine Split.is_false ?_ ?_); decide; conv => whnf) | ((with_reducible refine Split.nez (fun _ => ?_) (fun _ => ?_)) <;> conv => whnf) | ((with_reducible refine Split.eqz (fun _ => ?_) (fun _ => ?_)) <;> conv => whnf) | ((with_reducible refine Split.and ?_)) | ((with_reducible refine Split.or ?_)) | ((with_reducible refine Split.streq (fun _ => ?_) (fun _ => ?_)) <;> conv => whnf) | ((with_reducible refine Split.dec (fun _ => ?_) (fun _ => ?_)) <;> conv => whnf) | ((with_reducible refine Split.mk (fun _ => ?_) (fun _ => ?_)) <;> conv => whnf) | ((with_reducible refine NilK.mk (fun _ => ?_) ?_) <;> conv => whnf) | ((with_reducible refine AltK.l ?_); (conv => whnf); (with_reducible refine Need.mk ?_ ?_); (first | omega | (refine ⟨?_, ?_⟩ <;> simp <;> omega) | (simp; omega)); conv => whnf) | ((with_reducible refine Need.mk ?_ ?_); (first | omega | rfl | decide | (refine ⟨?_, ?_⟩ <;> simp <;> omega) | (simp; omega)); conv => whnf) | ((with_reducible refine Wr.quo ?_ ?_ ?_ ?_); omega; omega; omega; conv => whnf) | ((with_reducible refine Wr.inr ?_ ?_); (first | omega | (simp; omega)); conv => whnf) | ((with_reducible refine Wr.inu ?_ ?_); omega; conv => whnf) | (exfalso; first | omega | contradiction))
        refine NextK.mk (fun j p hjp hjs => ?_) (fun hall => ?_)
        · conv => whnf
          obtain ⟨⟨q1, q2⟩, hq, rfl⟩ := zD_get hjp
          have h7 := ev_w1 q2 (-20000) 20000
          have hk := hkey _ (List.mem_of_getElem? hq)
          have hjo := (List.getElem?_eq_some_iff.1 hq).1
          have n4 : (j :: seen).Nodup := List.nodup_cons.2 ⟨hjs, n1⟩
          have n5 := nodup_len lv.length (j :: seen) n4 fun x hx => by
            rcases List.mem_cons.1 hx with rfl | hx
            · exact hjo
            · exact n2 x hx
          rw [List.length_cons] at n5
          dsimp only at hk
          cases ho : outsideB q2 (-20000) 20000 with
          | true =>
            rw [ho] at h7
            have hb : badS g v l = true := by rw [hbad]; exact List.any_eq_true.2 ⟨_, List.mem_of_getElem? hq, ho⟩
            rw [if_pos hb]
            conv => whnf
            repeat' (first | ((refine PickE.map j hjp rfl ?_); conv => whnf) | ((with_reducible refine Split.of_true ?_); conv => whnf) | ((with_reducible refine Split.of_false ?_); conv => whnf) | ((with_reducible refine Split.neg ?_)) | ((with_reducible refine Split.is_true ?_ ?_); decide; conv => whnf) | ((with_reducible refine Split.is_false ?_ ?_); decide; conv => whnf) | ((with_reducible refine Split.nez (fun _ => ?_) (fun _ => ?_)) <;> conv => whnf) | ((with_reducible refine Split.eqz (fun _ => ?_) (fun _ => ?_)) <;> conv => whnf) | ((with_reducible refine Split.and ?_)) | ((with_reducible refine Split.or ?_)) | ((with_reducible refine Split.streq (fun _ => ?_) (fun _ => ?_)) <;> conv => whnf) | ((with_reducible refine Split.dec (fun _ => ?_) (fun _ => ?_)) <;> conv => whnf) | ((with_reducible refine Split.mk (fun _ => ?_) (fun _ => ?_)) <;> conv => whnf) | ((with_reducible refine NilK.mk (fun _ => ?_) ?_) <;> conv => whnf) | ((with_reducible refine AltK.l ?_); (conv => whnf); (with_reducible refine Need.mk ?_ ?_); (first | omega | (refine ⟨?_, ?_⟩ <;> simp <;> omega) | (simp; omega)); conv => whnf) | ((with_reducible refine Need.mk ?_ ?_); (first | omega | rfl | decide | (refine ⟨?_, ?_⟩ <;> simp <;> omega) | (simp; omega)); conv => whnf) | ((with_reducible refine Wr.quo ?_ ?_ ?_ ?_); omega; omega; omega; conv => whnf) | ((with_reducible refine Wr.inr ?_ ?_); (first | omega | (simp; omega)); conv => whnf) | ((with_reducible refine Wr.inu ?_ ?_); omega; conv => whnf) | ((with_reducible refine AltK.l ?_); (conv => whnf); (first | (refine CallK.mk _ (h7) ?_)); conv => whnf) | (exfalso; first | omega | contradiction))
            rfl
          | false =>
            rw [ho] at h7
            have hmp3 : ((rowOf lv n seen).map iD).set q1.toNat (iD q2) = (rowOf lv n (j :: seen)).map iD := by
              rw [rowOf, rowOf, List.foldr_cons, hq, ← List.map_set]
            obtain ⟨w, hw⟩ := some_of_lt (l := rowOf lv n seen) (i := q1.toNat) (by rw [rowOf_len]; omega)
            conv => whnf
            repeat' (first | ((refine PickE.map q1.toNat hw rfl ?_); conv => whnf) | ((refine PickE.map j hjp rfl ?_); conv => whnf) | ((with_reducible refine Split.of_true ?_); conv => whnf) | ((with_reducible refine Split.of_false ?_); conv => whnf) | ((with_reducible refine Split.neg ?_)) | ((with_reducible refine Split.is_true ?_ ?_); decide; conv => whnf) | ((with_reducible refine Split.is_false ?_ ?_); decide; conv => whnf) | ((with_reducible refine Split.nez (fun _ => ?_) (fun _ => ?_)) <;> conv => whnf) | ((with_reducible refine Split.eqz (fun _ => ?_) (fun _ => ?_)) <;> conv => whnf) | ((with_reducible refine Split.and ?_)) | ((with_reducible refine Split.or ?_)) | ((with_reducible refine Split.streq (fun _ => ?_) (fun _ => ?_)) <;> conv => whnf) | ((with_reducible refine Split.dec (fun _ => ?_) (fun _ => ?_)) <;> conv => whnf) | ((with_reducible refine Split.mk (fun _ => ?_) (fun _ => ?_)) <;> conv => whnf) | ((with_reducible refine NilK.mk (fun _ => ?_) ?_) <;> conv => whnf) | ((with_reducible refine AltK.l ?_); (conv => whnf); (with_reducible refine Need.mk ?_ ?_); (first | omega | (refine ⟨?_, ?_⟩ <;> simp <;> omega) | (simp; omega)); conv => whnf) | ((with_reducible refine Need.mk ?_ ?_); (first | omega | rfl | decide | (refine ⟨?_, ?_⟩ <;> simp <;> omega) | (simp; omega)); conv => whnf) | ((with_reducible refine Wr.quo ?_ ?_ ?_ ?_); omega; omega; omega; conv => whnf) | ((with_reducible refine Wr.inr ?_ ?_); (first | omega | (simp; omega)); conv => whnf) | ((with_reducible refine Wr.inu ?_ ?_); omega; conv => whnf) | ((with_reducible refine AltK.l ?_); (conv => whnf); (first | (refine CallK.mk _ (h7) ?_)); conv => whnf) | (exfalso; first | omega | contradiction))
            refine Again.au (j :: seen) ⟨n4, fun x hx => ?_, fun x hx y hy => ?_⟩ (by rw [List.length_cons]; omega) (by refine ⟨?_, ?_, rfl⟩ <;> (repeat' (first | exact True.intro | exact rfl | refine ⟨?_, ?_⟩ | (intro h; cases h; done) | (intro h; exact h) | exact map_snoc | (refine own_congr ?_; simp; done) | (refine int_congr ?_; (first | omega | (simp; omega))) | (simp; done) | exact hmp3 | ((first | refine own_congr ?_ | refine int_congr ?_ | skip); simp [D.cells]; done) | ((first | refine own_congr ?_ | refine int_congr ?_); simp [D.cells]; omega) | (show @Eq (List Go.Vm.D) _ []; simp [D.cells]; done) | (simp [D.cells, D.cells]; done))))
            · rcases List.mem_cons.1 hx with rfl | hx
              · exact hjo
              · exact n2 x hx
            · rcases List.mem_cons.1 hx with rfl | hx
              · rw [hq] at hy; cases hy; exact ho
              · exact n3 x hx y hy
        · conv => whnf
          have hb : badS g v l = false := by
            rw [hbad, List.any_eq_false]
            intro p hp
            obtain ⟨j, hj, rfl⟩ := List.getElem_of_mem hp
            rw [n3 j (hall j (by rw [zD_len]; exact hj)) _ (List.getElem?_eq_getElem hj)]; decide
          rw [hb, if_neg (by decide)]
          have hall3 := hall2 seen fun j hj => hall j (by rw [zD_len]; exact hj)
          rw [hall3]
          conv => whnf
          repeat' (first | ((with_reducible refine Split.of_true ?_); conv => whnf) | ((with_reducible refine Split.of_false ?_); conv => whnf) | ((with_reducible refine Split.neg ?_)) | ((with_reducible refine Split.is_true ?_ ?_); decide; conv => whnf) | ((with_reducible refine Split.is_false ?_ ?_); decide; conv => whnf) | ((with_reducible refine Split.nez (fun _ => ?_) (fun _ => ?_)) <;> conv => whnf) | ((with_reducible refine Split.eqz (fun _ => ?_) (fun _ => ?_)) <;> conv => whnf) | ((with_reducible refine Split.and ?_)) | ((with_reducible refine Split.or ?_)) | ((with_reducible refine Split.streq (fun _ => ?_) (fun _ => ?_)) <;> conv => whnf) | ((with_reducible refine Split.dec (fun _ => ?_) (fun _ => ?_)) <;> conv => whnf) | ((with_reducible refine Split.mk (fun _ => ?_) (fun _ => ?_)) <;> conv => whnf) | ((with_reducible refine NilK.mk (fun _ => ?_) ?_) <;> conv => whnf) | ((with_reducible refine AltK.l ?_); (conv => whnf); (with_reducible refine Need.mk ?_ ?_); (first | omega | (refine ⟨?_, ?_⟩ <;> simp <;> omega) | (simp; omega)); conv => whnf) | ((with_reducible refine Need.mk ?_ ?_); (first | omega | rfl | decide | (refine ⟨?_, ?_⟩ <;> simp <;> omega) | (simp; omega)); conv => whnf) | ((with_reducible refine Wr.quo ?_ ?_ ?_ ?_); omega; omega; omega; conv => whnf) | ((with_reducible refine Wr.inr ?_ ?_); (first | omega | (simp; omega)); conv => whnf) | ((with_reducible refine Wr.inu ?_ ?_); omega; conv => whnf) | (exfalso; first | omega | contradiction))
          rfl
    · rw [if_pos f0]
      refine ev_of_awp tysOk mixed (fn := Tryz.f36) Tryz.func36 rfl rfl rfl ?_
      conv => whnf
      repeat' (first | ((with_reducible refine Split.of_true ?_); conv => whnf) | ((with_reducible refine Split.of_false ?_); conv => whnf) | ((with_reducible refine Split.neg ?_)) | ((with_reducible refine Split.is_true ?_ ?_); decide; conv => whnf) | ((with_reducible refine Split.is_false ?_ ?_); decide; conv => whnf) | ((with_reducible refine Split.nez (fun _ => ?_) (fun _ => ?_)) <;> conv => whnf) | ((with_reducible refine Split.eqz (fun _ => ?_) (fun _ => ?_)) <;> conv => whnf) | ((with_reducible refine Split.and ?_)) | ((with_reducible refine Split.or ?_)) | ((with_reducible refine Split.streq (fun _ => ?_) (fun _ => ?_)) <;> conv => whnf) | ((with_reducible refine Split.dec (fun _ => ?_) (fun _ => ?_)) <;> conv => whnf) | ((with_reducible refine Split.mk (fun _ => ?_) (fun _ => ?_)) <;> conv => whnf) | ((with_reducible refine NilK.mk (fun _ => ?_) ?_) <;> conv => whnf) | ((with_reducible refine AltK.l ?_); (conv => whnf); (with_reducible refine Need.mk ?_ ?_); (first | omega | (refine ⟨?_, ?_⟩ <;> simp <;> omega) | (simp; omega)); conv => whnf) | ((with_reducible refine Need.mk ?_ ?_); (first | omega | rfl | decide | (refine ⟨?_, ?_⟩ <;> simp <;> omega) | (simp; omega)); conv => whnf) | ((with_reducible refine Wr.quo ?_ ?_ ?_ ?_); omega; omega; omega; conv => whnf) | ((with_reducible refine Wr.inr ?_ ?_); (first | omega | (simp; omega)); conv => whnf) | ((with_reducible refine Wr.inu ?_ ?_); omega; conv => whnf) | ((with_reducible refine AltK.l ?_); (conv => whnf); (first | (refine CallK.mk _ (h1) ?_) | (refine CallK.mk _ (h2) ?_)); conv => whnf) | (exfalso; first | omega | contradiction))
      all_goals simp_all [retOf, grE, iD, grD, gr0]
  · rw [if_pos c0]
    refine ev_of_awp tysOk mixed (fn := Tryz.f36) Tryz.func36 rfl rfl rfl ?_
    conv => whnf
    repeat' (first | ((with_reducible refine Split.of_true ?_); conv => whnf) | ((with_reducible refine Split.of_false ?_); conv => whnf) | ((with_reducible refine Split.neg ?_)) | ((with_reducible refine Split.is_true ?_ ?_); decide; conv => whnf) | ((with_reducible refine Split.is_false ?_ ?_); decide; conv => whnf) | ((with_reducible refine Split.nez (fun _ => ?_) (fun _ => ?_)) <;> conv => whnf) | ((with_reducible refine Split.eqz (fun _ => ?_) (fun _ => ?_)) <;> conv => whnf) | ((with_reducible refine Split.and ?_)) | ((with_reducible refine Split.or ?_)) | ((with_reducible refine Split.streq (fun _ => ?_) (fun _ => ?_)) <;> conv => whnf) | ((with_reducible refine Split.dec (fun _ => ?_) (fun _ => ?_)) <;> conv => whnf) | ((with_reducible refine Split.mk (fun _ => ?_) (fun _ => ?_)) <;> conv => whnf) | ((with_reducible refine NilK.mk (fun _ => ?_) ?_) <;> conv => whnf) | ((with_reducible refine AltK.l ?_); (conv => whnf); (with_reducible refine Need.mk ?_ ?_); (first | omega | (refine ⟨?_, ?_⟩ <;> simp <;> omega) | (simp; omega)); conv => whnf) | ((with_reducible refine Need.mk ?_ ?_); (first | omega | rfl | decide | (refine ⟨?_, ?_⟩ <;> simp <;> omega) | (simp; omega)); conv => whnf) | ((with_reducible refine Wr.quo ?_ ?_ ?_ ?_); omega; omega; omega; conv => whnf) | ((with_reducible refine Wr.inr ?_ ?_); (first | omega | (simp; omega)); conv => whnf) | ((with_reducible refine Wr.inu ?_ ?_); omega; conv => whnf) | ((with_reducible refine AltK.l ?_); (conv => whnf); (first | (refine CallK.mk _ (h1) ?_)); conv => whnf) | (exfalso; first | omega | contradiction))
    all_goals simp_all [retOf, grE, iD, grD, gr0]
end Go.Proofs.Tryz
end

section
namespace Go.Proofs.Tryz
open Go Go.Vm Go.Sort
set_option maxRecDepth 20000
set_option maxHeartbeats 8000000
/-! Bin, Floor, Count; the reference's grid and Count; SoundingBins. -/
def hiV (s : Sg) : Int := s.hi
theorem ev_BinS (l : List Sg) (g : Gr) : Ev Tryz.prog 11 [.sl 5 (l.map sgD), grD g] (grE (binRes g hiV l)) := by
  have h0 : ∀ s : Sg, Ev Tryz.prog 37 [sgD s] (iD (hiV s)) := fun s => by
    refine ev_of_awp tysOk mixed (fn := Tryz.f37) Tryz.func37 rfl rfl rfl ?_
    conv => whnf
    repeat' (first | ((with_reducible refine Split.of_true ?_); conv => whnf) | ((with_reducible refine Split.of_false ?_); conv => whnf) | ((with_reducible refine Split.neg ?_)) | ((with_reducible refine Split.is_true ?_ ?_); decide; conv => whnf) | ((with_reducible refine Split.is_false ?_ ?_); decide; conv => whnf) | ((with_reducible refine Split.nez (fun _ => ?_) (fun _ => ?_)) <;> conv => whnf) | ((with_reducible refine Split.eqz (fun _ => ?_) (fun _ => ?_)) <;> conv => whnf) | ((with_reducible refine Split.and ?_)) | ((with_reducible refine Split.or ?_)) | ((with_reducible refine Split.streq (fun _ => ?_) (fun _ => ?_)) <;> conv => whnf) | ((with_reducible refine Split.dec (fun _ => ?_) (fun _ => ?_)) <;> conv => whnf) | ((with_reducible refine Split.mk (fun _ => ?_) (fun _ => ?_)) <;> conv => whnf) | ((with_reducible refine NilK.mk (fun _ => ?_) ?_) <;> conv => whnf) | ((with_reducible refine AltK.l ?_); (conv => whnf); (with_reducible refine Need.mk ?_ ?_); (first | omega | (refine ⟨?_, ?_⟩ <;> simp <;> omega) | (simp; omega)); conv => whnf) | ((with_reducible refine Need.mk ?_ ?_); (first | omega | rfl | decide | (refine ⟨?_, ?_⟩ <;> simp <;> omega) | (simp; omega)); conv => whnf) | ((with_reducible refine Wr.quo ?_ ?_ ?_ ?_); omega; omega; omega; conv => whnf) | ((with_reducible refine Wr.inr ?_ ?_); (first | omega | (simp; omega)); conv => whnf) | ((with_reducible refine Wr.inu ?_ ?_); omega; conv => whnf) | (exfalso; first | omega | contradiction))
    rfl
  have h := ev_binned l g 37 [] hiV fun s _ => h0 s
  refine ev_of_awp tysOk mixed (fn := Tryz.f11) Tryz.func11 rfl rfl rfl ?_
  conv => whnf
  repeat' (first | ((with_reducible refine Split.of_true ?_); conv => whnf) | ((with_reducible refine Split.of_false ?_); conv => whnf) | ((with_reducible refine Split.neg ?_)) | ((with_reducible refine Split.is_true ?_ ?_); decide; conv => whnf) | ((with_reducible refine Split.is_false ?_ ?_); decide; conv => whnf) | ((with_reducible refine Split.nez (fun _ => ?_) (fun _ => ?_)) <;> conv => whnf) | ((with_reducible refine Split.eqz (fun _ => ?_) (fun _ => ?_)) <;> conv => whnf) | ((with_reducible refine Split.and ?_)) | ((with_reducible refine Split.or ?_)) | ((with_reducible refine Split.streq (fun _ => ?_) (fun _ => ?_)) <;> conv => whnf) | ((with_reducible refine Split.dec (fun _ => ?_) (fun _ => ?_)) <;> conv => whnf) | ((with_reducible refine Split.mk (fun _ => ?_) (fun _ => ?_)) <;> conv => whnf) | ((with_reducible refine NilK.mk (fun _ => ?_) ?_) <;> conv => whnf) | ((with_reducible refine AltK.l ?_); (conv => whnf); (with_reducible refine Need.mk ?_ ?_); (first | omega | (refine ⟨?_, ?_⟩ <;> simp <;> omega) | (simp; omega)); conv => whnf) | ((with_reducible refine Need.mk ?_ ?_); (first | omega | rfl | decide | (refine ⟨?_, ?_⟩ <;> simp <;> omega) | (simp; omega)); conv => whnf) | ((with_reducible refine Wr.quo ?_ ?_ ?_ ?_); omega; omega; omega; conv => whnf) | ((with_reducible refine Wr.inr ?_ ?_); (first | omega | (simp; omega)); conv => whnf) | ((with_reducible refine Wr.inu ?_ ?_); omega; conv => whnf) | ((with_reducible refine AltK.l ?_); (conv => whnf); (first | (refine CallK.mk _ (h) ?_)); conv => whnf) | (exfalso; first | omega | contradiction))
  rfl
end Go.Proofs.Tryz
end

section
namespace Go.Proofs.Tryz
open Go Go.Vm Go.Sort
set_option maxRecDepth 20000
set_option maxHeartbeats 4000000
/-! SoundingBins. -/
end Go.Proofs.Tryz
end

section
namespace Go.Proofs.Tryz
open Go Go.Vm Go.Sort
/-! Plain laws: what a thinning keeps; accepted thinnings. -/
theorem chkGo_of {α : Type} {v : α → Bool} {num : α → Int} : ∀ (r o : List α), (∀ x ∈ r, v x = true) → (o ++ r).Pairwise (fun a b => num a ≠ num b) → chkGo v num o r = 0
  | [], _, _, _ => rfl
  | x :: r, o, h1, h2 => by
    rw [chkGo, if_neg (by rw [h1 x (by simp)]; decide)]
    have h3 : ¬ (o.any fun y => num y == num x) = true := by
      rw [List.any_eq_true]
      rintro ⟨y, hy, e⟩
      have := (List.pairwise_append.1 h2).2.2 y hy x (by simp)
      exact this (by simpa using e)
    rw [if_neg h3]
    exact chkGo_of r (o ++ [x]) (fun y hy => h1 y (by simp [hy])) (by simpa using h2)
theorem chk_of {α : Type} {v : α → Bool} {num : α → Int} {l : List α} (h1 : l.length ≤ 500) (h2 : ∀ x ∈ l, v x = true) (h3 : l.Pairwise fun a b => num a ≠ num b) : chkErr v num l = 0 := by
  rw [chkErr, if_neg (by omega)]; exact chkGo_of l [] h2 h3
def farP (r : Int) (a b : Sg) : Prop := ¬ sqS a b.x b.y ≤ r * r
structure GOk (r : Int) (o kp : List Sg) (p : Int × Int) (s k : Sg) : Prop where
  so : s ∈ o
  ko : k ∈ kp
  e : p = (s.n, k.n)
  close : sqS k s.x s.y ≤ r * r
  hi : s.hi ≤ k.hi
  out : s ∉ kp
structure TFacts (r : Int) (o : List Sg) : Prop where
  sub : (thinO r o).1.Sublist o
  far : (thinO r o).1.Pairwise (farP r)
  cov : ∀ s ∈ o, s ∈ (thinO r o).1 ∨ ∃ k ∈ (thinO r o).1, (s.n, k.n) ∈ (thinO r o).2
  gs : ∀ p ∈ (thinO r o).2, ∃ s k, GOk r o (thinO r o).1 p s k
theorem thin_facts (r : Int) (o : List Sg) : NoTwo o → (o.Pairwise fun a b => b.hi ≤ a.hi) → TFacts r o := by
  refine list_snoc (P := fun o => NoTwo o → (o.Pairwise fun a b => b.hi ≤ a.hi) → TFacts r o) (fun _ _ => ⟨.slnil, .nil, (fun s h => (by cases h)), fun s h => (by cases h)⟩) (fun o s ih hu hs => ?_) o
  obtain ⟨u1, _, u2⟩ := List.pairwise_append.1 hu
  obtain ⟨s1, _, s2⟩ := List.pairwise_append.1 hs
  obtain ⟨h1, h2, h3, h4⟩ := ih u1 s1
  have hnot : s ∉ o := fun h => u2 s h s (by simp) rfl
  constructor
  all_goals
    rw [thinO_app]
    generalize thinO r o = q at *
    obtain ⟨kp, gs⟩ := q
    dsimp only at h1 h2 h3 h4
    rw [thinStep]
    cases hf : kp.find? fun k => decide (sqS k s.x s.y ≤ r * r)
    all_goals dsimp only
  · exact h1.append (.refl _)
  · exact h1.trans (List.sublist_append_left _ _)
  · refine List.pairwise_append.2 ⟨h2, by simp, fun a ha b hb => ?_⟩
    rw [List.mem_singleton.1 hb]
    have := List.find?_eq_none.1 hf a ha
    simpa [farP] using this
  · exact h2
  · intro t ht
    rcases List.mem_append.1 ht with ht | ht
    · rcases h3 t ht with h | ⟨k, hk, hkg⟩
      · exact .inl (List.mem_append_left _ h)
      · exact .inr ⟨k, List.mem_append_left _ hk, hkg⟩
    · rw [List.mem_singleton.1 ht]; exact .inl (by simp)
  · rename_i k
    intro t ht
    rcases List.mem_append.1 ht with ht | ht
    · rcases h3 t ht with h | ⟨k, hk, hkg⟩
      · exact .inl h
      · exact .inr ⟨k, hk, List.mem_append_left _ hkg⟩
    · rw [List.mem_singleton.1 ht]; exact .inr ⟨k, List.mem_of_find?_eq_some hf, by simp⟩
  · intro p hp
    obtain ⟨t, k, g1, g2, g3, g4, g5, g6⟩ := h4 p hp
    refine ⟨t, k, List.mem_append_left _ g1, List.mem_append_left _ g2, g3, g4, g5, fun h => ?_⟩
    rcases List.mem_append.1 h with h | h
    · exact g6 h
    · rw [List.mem_singleton.1 h] at g1; exact hnot g1
  · rename_i k
    intro p hp
    rcases List.mem_append.1 hp with hp | hp
    · obtain ⟨t, k, g1, g2, g3, g4, g5, g6⟩ := h4 p hp
      exact ⟨t, k, List.mem_append_left _ g1, g2, g3, g4, g5, g6⟩
    · have hk := List.mem_of_find?_eq_some hf
      have hc : sqS k s.x s.y ≤ r * r := by simpa using List.find?_some hf
      exact ⟨s, k, by simp, hk, List.mem_singleton.1 hp, hc, s2 k (h1.subset hk) s (by simp), fun h => hnot (h1.subset h)⟩
theorem thin_far {r : Int} : ∀ (o : List Sg), o.Pairwise (farP r) → thinO r o = (o, []) := by
  refine fun o => list_snoc (P := fun o => o.Pairwise (farP r) → thinO r o = (o, [])) (fun _ => rfl) (fun o s ih h => ?_) o
  obtain ⟨h1, _, h2⟩ := List.pairwise_append.1 h
  rw [thinO_app, ih h1, thinStep]
  have : o.find? (fun k => decide (sqS k s.x s.y ≤ r * r)) = none := by
    rw [List.find?_eq_none]; intro k hk
    have := h2 k hk s (by simp)
    simpa [farP] using this
  simp only [this]
theorem sqS_sym (s o : Sg) : sqS s o.x o.y = sqS o s.x s.y := by
  have h : ∀ a b : Int, (a - b) * (a - b) = (b - a) * (b - a) := fun a b => by
    rw [← Int.neg_mul_neg]; congr 1 <;> omega
  unfold sqS
  rw [h s.x, h s.y]
theorem rr_nn (a : Int) : 0 ≤ a * a := by
  rcases Int.le_total 0 a with h | h
  · exact Int.mul_nonneg h h
  · have := Int.mul_nonneg (show 0 ≤ -a by omega) (show 0 ≤ -a by omega)
    rw [Int.neg_mul_neg] at this; exact this
theorem far_symm {r : Int} {a b : Sg} (h : farP r a b) : farP r b a := by unfold farP at *; rw [sqS_sym b a]; exact h
theorem find_self {l : List Sg} (hu : NoTwo l) {s : Sg} (hs : s ∈ l) : (l.find? fun t => t.n == s.n) = some s := by
  cases h : l.find? fun t => t.n == s.n with
  | none =>
    have := List.find?_eq_none.1 h s hs
    simp at this
  | some t =>
    obtain ⟨h1, h2⟩ := find_mem h
    rw [noTwo_eq hu t h1 s hs h2]
theorem kRun_of {l : List Sg} {r : Int} (hu : NoTwo l) : ∀ (S o : List Sg), (∀ s ∈ S, s ∈ l) → (o ++ S).Pairwise (fun a b => a.n < b.n) → (o ++ S).Pairwise (farP r) → kRun l r o (S.map Sg.n) = some (o ++ S)
  | [], o, _, _, _ => by simp [kRun]
  | s :: S, o, h1, h2, h3 => by
    rw [List.map_cons, kRun, find_self hu (h1 s (by simp))]
    simp only
    have n1 : notUp o s.n = false := by
      rcases nil_or_snoc o with rfl | ⟨q, z, rfl⟩
      · rfl
      · have := (List.pairwise_append.1 h2).2.2 z (by simp) s (by simp)
        simp [notUp]; omega
    have n2 : (o.any fun k => decide (sqS k s.x s.y ≤ r * r)) = false := by
      rw [List.any_eq_false]; intro k hk
      have := (List.pairwise_append.1 h3).2.2 k hk s (by simp)
      simpa [farP] using this
    rw [n1, n2, if_neg (by decide), if_neg (by decide)]
    have := kRun_of hu S (o ++ [s]) (fun t ht => h1 t (by simp [ht])) (by simpa using h2) (by simpa using h3)
    simpa using this
theorem gRun_of {l S : List Sg} {r : Int} : ∀ (G : List (Int × Int)) (p : Option Int), (G.Pairwise fun a b => a.1 < b.1) → (∀ q, p = some q → ∀ x ∈ G, q < x.1) →
    (∀ x ∈ G, ∃ s k, (l.find? fun t => t.n == x.1) = some s ∧ (S.find? fun t => t.n == x.2) = some k ∧ (S.find? fun t => t.n == x.1) = none ∧ sqS k s.x s.y ≤ r * r ∧ s.hi ≤ k.hi) → gRun l S r p G = true
  | [], _, _, _, _ => rfl
  | x :: G, p, h1, h2, h3 => by
    obtain ⟨s, k, g1, g2, g3, g4, g5⟩ := h3 x (by simp)
    obtain ⟨a1, a2⟩ := List.pairwise_cons.1 h1
    rw [gRun, g1, g2]
    simp only
    have u1 : gUp p x.1 = false := by
      cases p with
      | none => rfl
      | some q => have := h2 q rfl x (by simp); simp [gUp]; omega
    have u2 : gBad r s k = false := by simp [gBad]; omega
    rw [g3, if_neg (show ¬ (none : Option Sg).isSome = true from Bool.false_ne_true), u1, u2, if_neg (by decide), if_neg (by decide)]
    exact gRun_of G (some x.1) a2 (fun q hq y hy => by cases hq; exact a1 y hy) fun y hy => h3 y (by simp [hy])
theorem kpGo_of {l : List Sg} : ∀ (K o : List Int), (∀ n ∈ K, n ∈ l.map Sg.n) → (o ++ K).Pairwise (fun a b => a ≠ b) → kpGo l o K = 0
  | [], _, _, _ => rfl
  | n :: K, o, h1, h2 => by
    have e1 : (l.any fun s => s.n == n) = true := by
      obtain ⟨s, hs, e⟩ := List.mem_map.1 (h1 n (by simp))
      exact List.any_eq_true.2 ⟨s, hs, by simpa using e⟩
    have e2 : (o.any fun m => m == n) = false := by
      rw [List.any_eq_false]; intro m hm
      have := (List.pairwise_append.1 h2).2.2 m hm n (by simp)
      simpa using this
    rw [kpGo, e1, e2, if_neg (by decide), if_neg (by decide)]
    exact kpGo_of K (o ++ [n]) (fun m hm => h1 m (by simp [hm])) (by simpa using h2)
def byNum (a b : Sg) : Int := cmpI a.n b.n
theorem swoNum : SWO fun a b => decide (byNum a b < 0) where
  irrefl a := by simp only [byNum, cmpI_neg, decide_eq_false_iff_not]; omega
  trans a b c := by simp only [byNum, cmpI_neg, decide_eq_true_eq]; omega
  ntrans a b c := by simp only [byNum, cmpI_neg, decide_eq_false_iff_not]; omega
theorem num_up {kp : List Sg} (hu : NoTwo kp) : (sortL byNum kp).Pairwise fun a b => a.n < b.n :=
  (sortL_strict swoNum (noTwo_nodup hu) fun a ha b hb h1 h2 => noTwo_eq hu a ha b hb (by simp only [byNum, cmpI_neg] at h1 h2; omega)).imp fun {a b} h => by simpa only [byNum, cmpI_neg] using h
theorem num_map {kp : List Sg} (hu : NoTwo kp) : (sortL byNum kp).map Sg.n = sortZ (kp.map Sg.n) := by
  refine sortZ_eq ((sortL_perm byNum kp).map _) ?_
  rw [List.pairwise_map]
  exact (num_up hu).imp fun {a b} h => Int.le_of_lt h
/-- What a valid sheet's thinning is like. -/
structure Shoal (l : List Sg) (r : Int) : Prop where
  e : (thinRes l r).2.2 = 0
  keep : keepRes l (thinRes l r).1 = (keepS l (thinRes l r).1, 0)
  right : rightB l r (thinRes l r).1 (thinRes l r).2.1 = true
  len : (keepS l (thinRes l r).1).length + (thinRes l r).2.1.length = l.length
  near : ∀ s ∈ l, ∃ k ∈ keepS l (thinRes l r).1, s.hi ≤ k.hi ∧ sqS k s.x s.y ≤ r * r
  again : thinRes (keepS l (thinRes l r).1) r = ((thinRes l r).1, [], 0)
theorem shoal {l : List Sg} {r : Int} (c0 : chkErr sgB Sg.n l = 0) (r0 : radB r = 0) : Shoal l r := by
  obtain ⟨hl5, hall, hu⟩ := chk_zero c0
  have huo : NoTwo (sortL cfThin l) := noTwo_perm (sortL_perm cfThin l).symm hu
  have hso : (sortL cfThin l).Pairwise fun a b => b.hi ≤ a.hi := (sortL_sorted swoThin l).imp fun {a b} h => by rw [cfThin_lt] at h; omega
  have hstr : (sortL cfThin l).Pairwise fun a b => cfThin a b < 0 := sortL_strict swoThin (noTwo_nodup hu) fun a ha b hb h1 h2 => noTwo_eq hu a ha b hb (by rw [cfThin_lt] at h1 h2; omega)
  have hmem : ∀ {s}, s ∈ sortL cfThin l ↔ s ∈ l := fun {s} => (sortL_perm cfThin l).mem_iff
  obtain ⟨f1, f2, f3, f4⟩ := thin_facts r (sortL cfThin l) huo hso
  obtain ⟨p1, _⟩ := thin_split r (sortL cfThin l) huo fun s hs => sg_pos (hall s (hmem.1 hs))
  have hpg := thin_pairs r hu
  have hln := thinO_len r (sortL cfThin l)
  have eT : thinRes l r = (sortZ ((thinO r (sortL cfThin l)).1.map Sg.n), sortL (fun a b => cmpI a.1 b.1) (thinO r (sortL cfThin l)).2, 0) := by
    rw [thinRes, if_neg (by simpa using c0), if_neg (by simpa using r0)]
  generalize thinO r (sortL cfThin l) = q at *
  obtain ⟨kp, gs⟩ := q
  dsimp only at f1 f2 f3 f4 p1 hpg hln eT
  have hkl : ∀ s ∈ kp, s ∈ l := fun s hs => hmem.1 (f1.subset hs)
  have hku : NoTwo kp := huo.sublist f1
  have hin : ∀ s ∈ sortL cfThin l, ((sortZ (kp.map Sg.n)).any fun m => m == s.n) = decide (gdF gs s.n = 0) := by
    intro s hs
    rw [Bool.eq_iff_iff, List.any_eq_true, decide_eq_true_eq]
    constructor
    · rintro ⟨m, hm, e⟩
      obtain ⟨k, hk, e2⟩ := List.mem_map.1 ((sortZ_perm _).subset hm)
      have : k = s := noTwo_eq huo k (f1.subset hk) s hs (by rw [e2]; simpa using e)
      subst this
      rw [p1] at hk
      simpa using (List.mem_filter.1 hk).2
    · intro h
      have : s ∈ kp := by rw [p1]; exact List.mem_filter.2 ⟨hs, by simpa using h⟩
      exact ⟨s.n, (sortZ_perm _).symm.subset (List.mem_map.2 ⟨s, this, rfl⟩), by simp⟩
  have hkS : (keepS l (sortZ (kp.map Sg.n))).Perm kp := by
    have h1 : (keepS l (sortZ (kp.map Sg.n))).Perm ((sortL cfThin l).filter fun s => (sortZ (kp.map Sg.n)).any fun m => m == s.n) := ((sortL_perm cfThin l).symm.filter _)
    refine h1.trans ?_
    rw [List.filter_congr hin, ← p1]
  have hkey : ∀ x ∈ sortL (fun a b : Int × Int => cmpI a.1 b.1) gs, x ∈ gs := fun x hx => (sortL_perm _ _).subset hx
  have swoG : SWO fun x y : Int × Int => decide (cmpI x.1 y.1 < 0) := ⟨fun x => by simp only [cmpI_neg, decide_eq_false_iff_not]; omega, fun x y z => by simp only [cmpI_neg, decide_eq_true_eq]; omega, fun x y z => by simp only [cmpI_neg, decide_eq_false_iff_not]; omega⟩
  have hGup : (sortL (fun a b : Int × Int => cmpI a.1 b.1) gs).Pairwise fun a b => a.1 < b.1 := by
    have h1 := (sortL_sorted swoG gs).and ((sortL_perm (fun a b : Int × Int => cmpI a.1 b.1) gs).symm.pairwise hpg fun h e => h e.symm)
    exact h1.imp fun {a b} h => by rw [cmpI_neg] at h; omega
  have hS1 : ∀ {s}, s ∈ sortL byNum kp ↔ s ∈ kp := fun {s} => (sortL_perm byNum kp).mem_iff
  have hSu : NoTwo (sortL byNum kp) := noTwo_perm (sortL_perm byNum kp).symm hku
  constructor
  all_goals rw [eT]
  · rw [keepRes, if_neg (by simpa using c0)]
    dsimp only
    rw [← num_map hku, kpGo_of ((sortL byNum kp).map Sg.n) [] (fun n hn => by
      obtain ⟨s, hs, rfl⟩ := List.mem_map.1 hn
      exact List.mem_map.2 ⟨s, hkl s (hS1.1 hs), rfl⟩) (by
      rw [List.nil_append, List.pairwise_map]; exact hSu), if_neg (by decide)]
  · have e1 : kRun l r [] ((sortL byNum kp).map Sg.n) = some (sortL byNum kp) := by
      have := kRun_of (r := r) hu (sortL byNum kp) [] (fun s hs => hkl s (hS1.1 hs)) (num_up hku) ((sortL_perm byNum kp).symm.pairwise f2 far_symm)
      rwa [List.nil_append] at this
    have hlenT : (sortZ (kp.map Sg.n)).length + (sortL (fun a b : Int × Int => cmpI a.1 b.1) gs).length = l.length := by
      rw [sortZ_len, List.length_map, sortL_len, hln, sortL_len]
    rw [rightB, decide_eq_true hlenT, Bool.true_and]
    dsimp only
    rw [← num_map hku, e1]
    dsimp only
    refine gRun_of _ none hGup (fun q hq => (by cases hq)) fun x hx => ?_
    obtain ⟨s, k, g1, g2, rfl, g4, g5, g6⟩ := f4 x (hkey x hx)
    refine ⟨s, k, find_self hu (hmem.1 g1), find_self hSu (hS1.2 g2), ?_, g4, g5⟩
    rw [List.find?_eq_none]
    intro t ht e
    have := noTwo_eq huo t (f1.subset (hS1.1 ht)) s g1 (by simpa using e)
    exact g6 (this ▸ hS1.1 ht)
  · dsimp only
    rw [hkS.length_eq, sortL_len, hln, sortL_len]
  · intro s hs
    dsimp only
    rcases f3 s (hmem.2 hs) with h | ⟨k, hk, hg⟩
    · have h0 := rr_nn r
      exact ⟨s, hkS.symm.subset h, Int.le_refl _, by simp [sqS]; exact h0⟩
    · obtain ⟨t, k', g1, g2, g3, g4, g5, _⟩ := f4 _ hg
      simp only [Prod.mk.injEq] at g3
      have e1 := noTwo_eq huo s (hmem.2 hs) t g1 g3.1
      have e2 := noTwo_eq hku k hk k' g2 g3.2
      subst e1; subst e2
      exact ⟨k, hkS.symm.subset hk, g5, g4⟩
  · dsimp only
    have c1 : chkErr sgB Sg.n (keepS l (sortZ (kp.map Sg.n))) = 0 := chk_of (by have := keep_len l (sortZ (kp.map Sg.n)); omega) (fun x hx => hall x ((List.mem_filter.1 hx).1)) (hu.filter _)
    have e1 : kp = sortL cfThin (keepS l (sortZ (kp.map Sg.n))) := sortL_eq swoThin hkS.symm (hstr.sublist f1)
    rw [thinRes, if_neg (by simpa using c1), if_neg (by simpa using r0), ← e1, thin_far kp f2]
    have e2 : sortL (fun a b : Int × Int => cmpI a.1 b.1) [] = [] := List.eq_nil_of_length_eq_zero (by rw [sortL_len]; rfl)
    rw [e2]
end Go.Proofs.Tryz
end
