/- Texts SdFd SdFe SdW SdFf TpB TpD TpA TpE TwV, joined; what is not needed is left out. -/
import Derived.Test.YtpbhikmlcaddmaaMpd
import Derived.Test.YtpbhikmlcaddmaaMpc
section
namespace Go.Proofs.Try
open Go Go.Vm Go.Sort
set_option maxRecDepth 20000
set_option maxHeartbeats 8000000
/-! Bin, Floor, Count; the reference's grid and Count; SoundingBins. -/
def hiV (s : Sg) : Int := s.hi
theorem ev_BinS (l : List Sg) (g : Gr) : Ev Try.prog 7 [.sl 5 (l.map sgD), grD g] (grE (binRes g hiV l)) := by
  have h0 : ∀ s : Sg, Ev Try.prog 21 [sgD s] (iD (hiV s)) := fun s => by
    refine ev_of_awp tysOk mixed (fn := Try.f21) Try.func21 rfl rfl rfl ?_
    conv => whnf
    repeat' (first
      | ((with_reducible refine Split.of_true ?_); conv => whnf)
      | ((with_reducible refine Split.of_false ?_); conv => whnf)
      | ((with_reducible refine Split.neg ?_))
      | ((with_reducible refine Split.is_true ?_ ?_); decide; conv => whnf)
      | ((with_reducible refine Split.is_false ?_ ?_); decide; conv => whnf)
      | ((with_reducible refine Split.nez (fun _ => ?_) (fun _ => ?_)) <;> conv => whnf)
      | ((with_reducible refine Split.eqz (fun _ => ?_) (fun _ => ?_)) <;> conv => whnf)
      | ((with_reducible refine Split.and ?_))
      | ((with_reducible refine Split.or ?_))
      | ((with_reducible refine Split.streq (fun _ => ?_) (fun _ => ?_)) <;> conv => whnf)
      | ((with_reducible refine Split.dec (fun _ => ?_) (fun _ => ?_)) <;> conv => whnf)
      | ((with_reducible refine Split.mk (fun _ => ?_) (fun _ => ?_)) <;> conv => whnf)
      | ((with_reducible refine NilK.mk (fun _ => ?_) ?_) <;> conv => whnf)
      | ((with_reducible refine AltK.l ?_); (conv => whnf); (with_reducible refine Need.mk ?_ ?_); (first | omega | (refine ⟨?_, ?_⟩ <;> simp <;> omega) | (simp; omega)); conv => whnf)
      | ((with_reducible refine Need.mk ?_ ?_); (first | omega | rfl | decide | (refine ⟨?_, ?_⟩ <;> simp <;> omega) | (simp; omega)); conv => whnf)
      | ((with_reducible refine Wr.quo ?_ ?_ ?_ ?_); omega; omega; omega; conv => whnf)
      | ((with_reducible refine Wr.inr ?_ ?_); (first | omega | (simp; omega)); conv => whnf)
      | ((with_reducible refine Wr.inu ?_ ?_); omega; conv => whnf)
      | (exfalso; first | omega | contradiction))
    rfl
  have h := ev_binned l g 21 [] hiV fun s _ => h0 s
  refine ev_of_awp tysOk mixed (fn := Try.f7) Try.func7 rfl rfl rfl ?_
  conv => whnf
  repeat' (first
    | ((with_reducible refine Split.of_true ?_); conv => whnf)
    | ((with_reducible refine Split.of_false ?_); conv => whnf)
    | ((with_reducible refine Split.neg ?_))
    | ((with_reducible refine Split.is_true ?_ ?_); decide; conv => whnf)
    | ((with_reducible refine Split.is_false ?_ ?_); decide; conv => whnf)
    | ((with_reducible refine Split.nez (fun _ => ?_) (fun _ => ?_)) <;> conv => whnf)
    | ((with_reducible refine Split.eqz (fun _ => ?_) (fun _ => ?_)) <;> conv => whnf)
    | ((with_reducible refine Split.and ?_))
    | ((with_reducible refine Split.or ?_))
    | ((with_reducible refine Split.streq (fun _ => ?_) (fun _ => ?_)) <;> conv => whnf)
    | ((with_reducible refine Split.dec (fun _ => ?_) (fun _ => ?_)) <;> conv => whnf)
    | ((with_reducible refine Split.mk (fun _ => ?_) (fun _ => ?_)) <;> conv => whnf)
    | ((with_reducible refine NilK.mk (fun _ => ?_) ?_) <;> conv => whnf)
    | ((with_reducible refine AltK.l ?_); (conv => whnf); (with_reducible refine Need.mk ?_ ?_); (first | omega | (refine ⟨?_, ?_⟩ <;> simp <;> omega) | (simp; omega)); conv => whnf)
    | ((with_reducible refine Need.mk ?_ ?_); (first | omega | rfl | decide | (refine ⟨?_, ?_⟩ <;> simp <;> omega) | (simp; omega)); conv => whnf)
    | ((with_reducible refine Wr.quo ?_ ?_ ?_ ?_); omega; omega; omega; conv => whnf)
    | ((with_reducible refine Wr.inr ?_ ?_); (first | omega | (simp; omega)); conv => whnf)
    | ((with_reducible refine Wr.inu ?_ ?_); omega; conv => whnf)
    | ((with_reducible refine AltK.l ?_); (conv => whnf); (first | (refine CallK.mk _ (h) ?_)); conv => whnf)
    | (exfalso; first | omega | contradiction))
  rfl
end Go.Proofs.Try
end

section
namespace Go.Proofs.Try
open Go Go.Vm Go.Sort
set_option maxRecDepth 20000
set_option maxHeartbeats 4000000
/-! SoundingBins. -/
theorem ev_SameGrid (a : Gr) (h : a.lv.length ≤ 1000000) : Ev Try.prog 10 [grD a, grD a] (.bool true) := by
  have h1 := ev_Ints a.lv a.lv h
  rw [decide_eq_true rfl] at h1
  refine ev_of_awp tysOk mixed (fn := Try.f10) Try.func10 rfl rfl rfl ?_
  conv => whnf
  repeat' (first
    | ((with_reducible refine Split.of_true ?_); conv => whnf)
    | ((with_reducible refine Split.of_false ?_); conv => whnf)
    | ((with_reducible refine Split.neg ?_))
    | ((with_reducible refine Split.is_true ?_ ?_); decide; conv => whnf)
    | ((with_reducible refine Split.is_false ?_ ?_); decide; conv => whnf)
    | ((with_reducible refine Split.nez (fun _ => ?_) (fun _ => ?_)) <;> conv => whnf)
    | ((with_reducible refine Split.eqz (fun _ => ?_) (fun _ => ?_)) <;> conv => whnf)
    | ((with_reducible refine Split.and ?_))
    | ((with_reducible refine Split.or ?_))
    | ((with_reducible refine Split.streq (fun _ => ?_) (fun _ => ?_)) <;> conv => whnf)
    | ((with_reducible refine Split.dec (fun _ => ?_) (fun _ => ?_)) <;> conv => whnf)
    | ((with_reducible refine Split.mk (fun _ => ?_) (fun _ => ?_)) <;> conv => whnf)
    | ((with_reducible refine NilK.mk (fun _ => ?_) ?_) <;> conv => whnf)
    | ((with_reducible refine AltK.l ?_); (conv => whnf); (with_reducible refine Need.mk ?_ ?_); (first | omega | (refine ⟨?_, ?_⟩ <;> simp <;> omega) | (simp; omega)); conv => whnf)
    | ((with_reducible refine Need.mk ?_ ?_); (first | omega | rfl | decide | (refine ⟨?_, ?_⟩ <;> simp <;> omega) | (simp; omega)); conv => whnf)
    | ((with_reducible refine Wr.quo ?_ ?_ ?_ ?_); omega; omega; omega; conv => whnf)
    | ((with_reducible refine Wr.inr ?_ ?_); (first | omega | (simp; omega)); conv => whnf)
    | ((with_reducible refine Wr.inu ?_ ?_); omega; conv => whnf)
    | ((with_reducible refine AltK.l ?_); (conv => whnf); (first | (refine CallK.mk _ (h1) ?_)); conv => whnf)
    | (exfalso; first | omega | contradiction))
  all_goals rfl
end Go.Proofs.Try
end

section
namespace Go.Proofs.Try
open Go Go.Vm Go.Sort
/-! Plain laws: what a thinning keeps; accepted thinnings. -/
theorem chkGo_of {α : Type} {v : α → Bool} {num : α → Int} : ∀ (r o : List α), (∀ x ∈ r, v x = true) → (o ++ r).Pairwise (fun a b => num a ≠ num b) → chkGo v num o r = 0
  | [], _, _, _ => rfl
  | x :: r, o, h1, h2 => by
    rw [chkGo, if_neg (by rw [h1 x (by simp)]; decide)]
    have h3 : ¬ (o.any fun y => num y == num x) = true := by
      rw [List.any_eq_true]
      rintro ⟨y, hy, e⟩
      have := (List.pairwise_append.1 h2).2.2 y hy x (by simp)
      exact this (by simpa using e)
    rw [if_neg h3]
    exact chkGo_of r (o ++ [x]) (fun y hy => h1 y (by simp [hy])) (by simpa using h2)
theorem chk_of {α : Type} {v : α → Bool} {num : α → Int} {l : List α} (h1 : l.length ≤ 500) (h2 : ∀ x ∈ l, v x = true) (h3 : l.Pairwise fun a b => num a ≠ num b) : chkErr v num l = 0 := by
  rw [chkErr, if_neg (by omega)]; exact chkGo_of l [] h2 h3
end Go.Proofs.Try
end

section
namespace Go.Proofs.Try
open Go Go.Vm Go.Sort
set_option maxRecDepth 20000
set_option maxHeartbeats 8000000
/-! SoundingHighest. -/
theorem lev_get {g : Gr} {v : Sg → Int} {l : List Sg} {i : Nat} (hi : i < cellsN g) : (levS g v l)[i]? = some ((maxO g v l (i : Int)).getD 30000) := by
  rw [levS, List.getElem?_map, List.getElem?_range hi]; rfl
theorem lev_len (g : Gr) (v : Sg → Int) (l : List Sg) : (levS g v l).length = cellsN g := by simp [levS]
theorem bin_ok {g : Gr} {l : List Sg} (c0 : chkErr sgB Sg.n l = 0) (f0 : frErr g = 0) : binRes g hiV l = if badS g hiV l = true then (gr0, 2) else ({ g with lv := levS g hiV l }, 0) := by
  rw [binRes, if_neg (by simpa using c0), if_neg (by simpa using f0)]
end Go.Proofs.Try
end

section
namespace Go.Proofs.Try
open Go Go.Vm Go.Sort
set_option maxRecDepth 20000
set_option maxHeartbeats 4000000
/-! Plain laws: bounds of levels; reduced soundings make a valid sheet. -/
theorem mean_tight {g : Ga} {t : Int} (h : Good g) : -20000 * (meanS g t).2.1 ≤ (meanS g t).1 ∧ (meanS g t).1 ≤ 20000 * (meanS g t).2.1 := by
  have hp := posF_spec (t := t) h.asc
  unfold meanS
  generalize posF g.marks t = p at hp
  unfold meanAt
  split
  · rename_i b hb
    have wb := wrongB_false (h.ok b (List.mem_of_getElem? hb))
    split
    · simp only; omega
    · split
      · simp only; omega
      · rename_i q' q
        split
        · rename_i a ha
          have wa := wrongB_false (h.ok a (List.mem_of_getElem? ha))
          have h1 := (hp q a ha).1 (by omega)
          have h2 := (hp (q+1) b hb).2 (by omega)
          have e : a.l * (b.m - a.m) + (b.l - a.l) * (t - a.m) = a.l * (b.m - t) + b.l * (t - a.m) := by grind
          have m1 : -20000 * (b.m - t) ≤ a.l * (b.m - t) := Int.mul_le_mul_of_nonneg_right (by omega) (by omega)
          have m2 : -20000 * (t - a.m) ≤ b.l * (t - a.m) := Int.mul_le_mul_of_nonneg_right (by omega) (by omega)
          have m3 : a.l * (b.m - t) ≤ 20000 * (b.m - t) := Int.mul_le_mul_of_nonneg_right (by omega) (by omega)
          have m4 : b.l * (t - a.m) ≤ 20000 * (t - a.m) := Int.mul_le_mul_of_nonneg_right (by omega) (by omega)
          simp only
          rw [e]
          omega
        · simp only; omega
  · simp only; omega
theorem at_tight {g : Ga} {t : Int} (h : Good g) : -21000 ≤ (atS g t).1 ∧ (atS g t).2.1 ≤ 21000 := by
  obtain ⟨m1, m2⟩ := mean_tight (t := t) h
  have hb := (mean_bd (t := t) h).1
  have he := h.err
  have q1 := ediv_ge (m := -20000) hb m1
  have q2 := up_le (m := 20000) hb m2
  unfold atS
  split
  · dsimp only; omega
  · dsimp only; omega
theorem lv_tight {l : List Ga} {x t : Int} (hG : GoodAll l) : -21000 ≤ (lvS l x t).1 ∧ (lvS l x t).2.1 ≤ 21000 := by
  have hp := posX_spec (x := x) hG.asc
  unfold lvS
  generalize posX l x = p at *
  unfold lvF
  cases hb : l[p]? with
  | none =>
    cases p with
    | zero => simp
    | succ q =>
      cases ha : l[q]? with
      | none => simp only [ha]; omega
      | some a => simp only [ha]; exact at_tight (ga_good hG ha)
  | some b =>
    by_cases hbx : b.x = x
    · simp only [hbx, if_true]; exact at_tight (ga_good hG hb)
    · cases p with
      | zero => simp only [hbx, if_false]; exact at_tight (ga_good hG hb)
      | succ q =>
        cases ha : l[q]? with
        | none => simp only [hbx, if_false, ha]; omega
        | some a =>
          simp only [hbx, if_false, ha]
          have hax := (hp q a ha).1 (by omega)
          have hbx' := (hp (q + 1) b hb).2 (by omega)
          have t1 := at_tight (t := t) (ga_good hG ha)
          have t2 := at_tight (t := t) (ga_good hG hb)
          unfold mixS
          split
          · obtain ⟨g1, g2, _⟩ := mix_facts (p := b.x - x) (q := x - a.x) (by omega) (by omega) (by omega) (at_le (t := t) (ga_good hG ha)) (at_le (t := t) (ga_good hG hb))
            rw [show b.x - x + (x - a.x) = b.x - a.x by omega] at g1 g2
            dsimp only
            omega
          · dsimp only; omega
theorem red_sg {g : List Ga} {r : Rw} (g0 : gsErr g = 0) (hr : RGood r) : sgB (redV g r) = true := by
  have h1 := lv_tight (x := r.x) (t := r.mi) (goodAll g0)
  have h2 := lv_le (x := r.x) (t := r.mi) (goodAll g0)
  have a1 := hr.n
  have a2 := hr.x
  have a3 := hr.y
  have a4 := hr.d
  have a5 := hr.dr
  have a6 := hr.e
  unfold redV redS sgB outsideB
  generalize lvS g r.x r.mi = q at *
  simp
  omega
theorem red_chk {g : List Ga} {l : List Rw} (c0 : chkErr rawB Rw.n l = 0) (g0 : gsErr g = 0) : chkErr sgB Sg.n (outS g l) = 0 := by
  obtain ⟨h1, h2, h3⟩ := chk_zero c0
  refine chk_of (by have := out_len g l; omega) (fun s hs => ?_) ?_
  · obtain ⟨r, hr, rfl⟩ := List.mem_map.1 hs
    exact red_sg g0 (raw_good.1 (h2 r (List.mem_filter.1 hr).1))
  · rw [outS, List.pairwise_map]
    exact h3.filter _
end Go.Proofs.Try
end

section
namespace Go.Proofs.Try
open Go Go.Vm Go.Sort
set_option maxRecDepth 20000
set_option maxHeartbeats 4000000
/-! Plain law of TopWorseTide: with greater errors of the gauges every interval holds the former one. -/
def wrs (d : Int) (g : Ga) : Ga := { g with err := minI (g.err + d) 1000 }
theorem wrs_err {d e : Int} (hd : 0 ≤ d) (he : 0 ≤ e ∧ e ≤ 1000) : e ≤ minI (e + d) 1000 ∧ minI (e + d) 1000 ≤ 1000 := by unfold minI; split <;> omega
theorem wrs_rec {d : Int} {g : Ga} (hd : 0 ≤ d) (h : recErr g = 0) : recErr (wrs d g) = 0 := by
  have hG := good_of_rec h
  have he := hG.err
  have hx := hG.x
  have hl := hG.len
  have := wrs_err hd he
  unfold recErr
  have e1 : (wrs d g).err = minI (g.err + d) 1000 := rfl
  have e2 : (wrs d g).x = g.x := rfl
  have e3 : (wrs d g).marks = g.marks := rfl
  rw [if_neg (by simp only [outsideB, Bool.or_eq_true, decide_eq_true_eq, e1, e2]; omega), if_neg (by rw [e3]; omega)]
  exact markErr_of hG.ok hG.asc (fun q h => (by cases h))
theorem wrs_gs {d : Int} (hd : 0 ≤ d) : ∀ (r o : List Ga), gsGo o r = 0 → gsGo (o.map (wrs d)) (r.map (wrs d)) = 0
  | [], o, _ => rfl
  | g :: r, o, h => by
    have ih := wrs_gs hd r (o ++ [g])
    rw [List.map_append] at ih
    rw [gsGo] at h
    split at h
    · cases h
    · rename_i h1
      split at h
      · cases h
      · rename_i h2
        split at h
        · contradiction
        · rename_i h3
          have h3 : recErr g = 0 := by simpa using h3
          have e2 : (o.map (wrs d)).any (sameN (wrs d g)) = o.any (sameN g) := by rw [List.any_map]; rfl
          simp only [List.map_cons]
          rw [gsGo, if_neg (show ¬ nameB (wrs d g).name = false from h1), e2, if_neg h2, if_neg (by rw [wrs_rec hd h3]; simp), List.getLast?_map]
          cases hz : o.getLast? with
          | none =>
            rw [hz] at h
            exact ih h
          | some z =>
            rw [hz] at h
            simp only at h
            split at h
            · cases h
            · rename_i h4
              simp only [Option.map_some]
              rw [if_neg (by exact h4)]
              exact ih h
theorem wrs_gsE {l : List Ga} {d : Int} (hd : 0 ≤ d) (h : gsErr l = 0) : gsErr (l.map (wrs d)) = 0 := by
  have hl := (goodAll h).len
  unfold gsErr at h ⊢
  rw [if_neg (by omega)] at h
  rw [if_neg (by rw [List.length_map]; omega)]
  exact wrs_gs hd l [] h
theorem wrs_at {d : Int} {g : Ga} (hd : 0 ≤ d) (h : Good g) (t : Int) : (atS (wrs d g) t).2.2 = (atS g t).2.2 ∧ (atS (wrs d g) t).1 ≤ (atS g t).1 ∧ (atS g t).2.1 ≤ (atS (wrs d g) t).2.1 := by
  have he := wrs_err hd h.err
  have e : meanS (wrs d g) t = meanS g t := rfl
  have e2 : (wrs d g).err = minI (g.err + d) 1000 := rfl
  unfold atS
  rw [e, e2]
  split
  · exact ⟨rfl, by dsimp only; omega⟩
  · exact ⟨rfl, by dsimp only; omega⟩
theorem wrs_pos (d : Int) (l : List Ga) (x : Int) : posX (l.map (wrs d)) x = posX l x := by
  unfold posX
  rw [List.takeWhile_map, List.length_map]
  rfl
theorem wrs_lv {d : Int} {l : List Ga} {x t : Int} (hd : 0 ≤ d) (hG : GoodAll l) : (lvS (l.map (wrs d)) x t).2.2 = (lvS l x t).2.2 ∧ (lvS (l.map (wrs d)) x t).1 ≤ (lvS l x t).1 ∧ (lvS l x t).2.1 ≤ (lvS (l.map (wrs d)) x t).2.1 := by
  have hp := posX_spec (x := x) hG.asc
  unfold lvS
  rw [wrs_pos]
  generalize posX l x = p at *
  unfold lvF
  rw [List.getElem?_map]
  cases hb : l[p]? with
  | none =>
    simp only [Option.map_none]
    cases p with
    | zero => exact ⟨rfl, by dsimp only; omega⟩
    | succ q =>
      simp only [List.getElem?_map]
      cases ha : l[q]? with
      | none => exact ⟨rfl, by dsimp only [Option.map_none]; omega⟩
      | some a => exact wrs_at hd (ga_good hG ha) t
  | some b =>
    simp only [Option.map_some]
    have ex : (wrs d b).x = b.x := rfl
    rw [ex]
    split
    · exact wrs_at hd (ga_good hG hb) t
    · cases p with
      | zero => exact wrs_at hd (ga_good hG hb) t
      | succ q =>
        simp only [List.getElem?_map]
        cases ha : l[q]? with
        | none => exact ⟨rfl, by dsimp only [Option.map_none]; omega⟩
        | some a =>
          simp only [Option.map_some]
          obtain ⟨a1, a2, a3⟩ := wrs_at hd (ga_good hG ha) t
          obtain ⟨b1, b2, b3⟩ := wrs_at hd (ga_good hG hb) t
          have hax := (hp q a ha).1 (by omega)
          have hbx := (hp (q + 1) b hb).2 (by omega)
          unfold mixS
          rw [a1, b1]
          have ea : (wrs d a).x = a.x := rfl
          rw [ea, ex]
          split
          · have m1 := Int.mul_le_mul_of_nonneg_right (c := b.x - x) a2 (by omega)
            have m2 := Int.mul_le_mul_of_nonneg_right (c := x - a.x) b2 (by omega)
            have m3 := Int.mul_le_mul_of_nonneg_right (c := b.x - x) a3 (by omega)
            have m4 := Int.mul_le_mul_of_nonneg_right (c := x - a.x) b3 (by omega)
            exact ⟨rfl, Int.ediv_le_ediv (by omega) (by omega), up_mono (by omega) (by omega)⟩
          · exact ⟨rfl, by dsimp only; omega⟩
/-- A sounding with the better tide and with the worse one. -/
structure Wr (a b : Sg) : Prop where
  n : b.n = a.n
  x : b.x = a.x
  y : b.y = a.y
  lo : b.lo ≤ a.lo
  hi : a.hi ≤ b.hi
theorem wrs_red {d : Int} {gs : List Ga} (hd : 0 ≤ d) (hG : GoodAll gs) (r : Rw) : Wr (redV gs r) (redV (gs.map (wrs d)) r) := by
  obtain ⟨_, h2, h3⟩ := wrs_lv (d := d) (x := r.x) (t := r.mi) hd hG
  exact ⟨rfl, rfl, rfl, by show _ - _ - _ ≤ _ - _ - _; omega, by show _ - _ + _ ≤ _ - _ + _; omega⟩
theorem wrs_out {d : Int} {gs : List Ga} (hd : 0 ≤ d) (hG : GoodAll gs) (rs : List Rw) : outS (gs.map (wrs d)) rs = (rs.filter (okL gs)).map (redV (gs.map (wrs d))) := by
  rw [outS]
  congr 1
  refine List.filter_congr fun r _ => ?_
  exact (wrs_lv hd hG).1
def mxRel : Option Int → Option Int → Prop
  | none, none => True
  | some x, some y => x ≤ y
  | _, _ => False
theorem mx_rel {g : Gr} {f f' : Rw → Sg} (h : ∀ r, Wr (f r) (f' r)) (i : Int) (L : List Rw) : mxRel (maxO g hiV (L.map f) i) (maxO g hiV (L.map f') i) := by
  refine list_snoc (P := fun L => mxRel (maxO g hiV (L.map f) i) (maxO g hiV (L.map f') i)) trivial (fun m r ih => ?_) L
  have e : ∀ f : Rw → Sg, maxO g hiV ((m ++ [r]).map f) i = mxStep g hiV i (maxO g hiV (m.map f) i) (f r) := fun f => by rw [List.map_append, maxO, List.foldl_append]; rfl
  rw [e, e]
  have hc : cellI g (f' r) = cellI g (f r) := by rw [← cell_xy g (f' r), (h r).x, (h r).y]; rfl
  have hh : hiV (f r) ≤ hiV (f' r) := (h r).hi
  unfold mxStep
  rw [hc]
  split
  · cases h1 : maxO g hiV (m.map f) i <;> cases h2 : maxO g hiV (m.map f') i <;> rw [h1, h2] at ih <;> simp only [mxRel] at ih ⊢
    · exact hh
    · (repeat' split) <;> first | omega | (simp only [mxRel]; omega)
  · exact ih
end Go.Proofs.Try
end

section
namespace Go.Proofs.Try
open Go Go.Vm Go.Sort
set_option maxRecDepth 20000
set_option maxHeartbeats 4000000
/-! The theorems across layers: what they begin with; TopThinnedGrid. -/
def pierT : Ga := ⟨⟨#[112, 105, 101, 114]⟩, 0, 5, [⟨10, 100⟩]⟩
theorem pier_redT : rdE [pierT] rawS = (⟨7, 0, 0, -455, -425⟩, 0) := by decide
theorem ev_three : Ev Try.prog 5 [] (.bool true) := by
  have h := ev_Reduce [pierT] rawS
  rw [pier_redT] at h
  refine ev_of_awp tysOk mixed (fn := Try.f5) Try.func5 rfl rfl rfl ?_
  conv => whnf
  repeat' (first
    | ((with_reducible refine Split.of_true ?_); conv => whnf)
    | ((with_reducible refine Split.of_false ?_); conv => whnf)
    | ((with_reducible refine Split.neg ?_))
    | ((with_reducible refine Split.is_true ?_ ?_); decide; conv => whnf)
    | ((with_reducible refine Split.is_false ?_ ?_); decide; conv => whnf)
    | ((with_reducible refine Split.nez (fun _ => ?_) (fun _ => ?_)) <;> conv => whnf)
    | ((with_reducible refine Split.eqz (fun _ => ?_) (fun _ => ?_)) <;> conv => whnf)
    | ((with_reducible refine Split.and ?_))
    | ((with_reducible refine Split.or ?_))
    | ((with_reducible refine Split.streq (fun _ => ?_) (fun _ => ?_)) <;> conv => whnf)
    | ((with_reducible refine Split.dec (fun _ => ?_) (fun _ => ?_)) <;> conv => whnf)
    | ((with_reducible refine Split.mk (fun _ => ?_) (fun _ => ?_)) <;> conv => whnf)
    | ((with_reducible refine NilK.mk (fun _ => ?_) ?_) <;> conv => whnf)
    | ((with_reducible refine AltK.l ?_); (conv => whnf); (with_reducible refine Need.mk ?_ ?_); (first | omega | (refine ⟨?_, ?_⟩ <;> simp <;> omega) | (simp; omega)); conv => whnf)
    | ((with_reducible refine Need.mk ?_ ?_); (first | omega | rfl | decide | (refine ⟨?_, ?_⟩ <;> simp <;> omega) | (simp; omega)); conv => whnf)
    | ((with_reducible refine Wr.quo ?_ ?_ ?_ ?_); omega; omega; omega; conv => whnf)
    | ((with_reducible refine Wr.inr ?_ ?_); (first | omega | (simp; omega)); conv => whnf)
    | ((with_reducible refine Wr.inu ?_ ?_); omega; conv => whnf)
    | ((with_reducible refine AltK.l ?_); (conv => whnf); (first | (refine CallK.mk _ (h) ?_)); conv => whnf)
    | (exfalso; first | omega | contradiction))
  rfl
end Go.Proofs.Try
end

section
namespace Go.Proofs.Try
open Go Go.Vm Go.Sort
set_option maxRecDepth 20000
set_option maxHeartbeats 4000000
/-! bed.Check, bed.Shoalest on grids. -/
theorem ev_bet1 (n lo hi : Int) : Ev Try.prog 48 [iD n, .ref [iD lo] 0, .ref [iD hi] 0] (.bool (outsideB n lo hi)) := by
  refine ev_of_awp tysOk mixed (fn := Try.f48) Try.func48 rfl rfl rfl ?_
  conv => whnf
  repeat' (first
    | ((with_reducible refine Split.of_true ?_); conv => whnf)
    | ((with_reducible refine Split.of_false ?_); conv => whnf)
    | ((with_reducible refine Split.neg ?_))
    | ((with_reducible refine Split.is_true ?_ ?_); decide; conv => whnf)
    | ((with_reducible refine Split.is_false ?_ ?_); decide; conv => whnf)
    | ((with_reducible refine Split.nez (fun _ => ?_) (fun _ => ?_)) <;> conv => whnf)
    | ((with_reducible refine Split.eqz (fun _ => ?_) (fun _ => ?_)) <;> conv => whnf)
    | ((with_reducible refine Split.and ?_))
    | ((with_reducible refine Split.or ?_))
    | ((with_reducible refine Split.streq (fun _ => ?_) (fun _ => ?_)) <;> conv => whnf)
    | ((with_reducible refine Split.dec (fun _ => ?_) (fun _ => ?_)) <;> conv => whnf)
    | ((with_reducible refine Split.mk (fun _ => ?_) (fun _ => ?_)) <;> conv => whnf)
    | ((with_reducible refine NilK.mk (fun _ => ?_) ?_) <;> conv => whnf)
    | ((with_reducible refine AltK.l ?_); (conv => whnf); (with_reducible refine Need.mk ?_ ?_); (first | omega | (refine ⟨?_, ?_⟩ <;> simp <;> omega) | (simp; omega)); conv => whnf)
    | ((with_reducible refine Need.mk ?_ ?_); (first | omega | rfl | decide | (refine ⟨?_, ?_⟩ <;> simp <;> omega) | (simp; omega)); conv => whnf)
    | ((with_reducible refine Wr.quo ?_ ?_ ?_ ?_); omega; omega; omega; conv => whnf)
    | ((with_reducible refine Wr.inr ?_ ?_); (first | omega | (simp; omega)); conv => whnf)
    | ((with_reducible refine Wr.inu ?_ ?_); omega; conv => whnf)
    | (exfalso; first | omega | contradiction))
  all_goals (simp_all [outsideB, retOf] <;> omega)
theorem ev_bet (l : List Int) (lo hi : Int) (hn : l.length ≤ 1000000) : Ev Try.prog 22 [iD lo, iD hi, .sl 1 (l.map iD)] (.bool (!l.any fun n => outsideB n lo hi)) := by
  have h := ev_ContI l 48 [.ref [iD lo] 0, .ref [iD hi] 0] (fun n => outsideB n lo hi) hn (fun n _ => ev_bet1 n lo hi)
  refine ev_of_awp tysOk mixed (fn := Try.f22) Try.func22 rfl rfl rfl ?_
  conv => whnf
  repeat' (first
    | ((with_reducible refine Split.of_true ?_); conv => whnf)
    | ((with_reducible refine Split.of_false ?_); conv => whnf)
    | ((with_reducible refine Split.neg ?_))
    | ((with_reducible refine Split.is_true ?_ ?_); decide; conv => whnf)
    | ((with_reducible refine Split.is_false ?_ ?_); decide; conv => whnf)
    | ((with_reducible refine Split.nez (fun _ => ?_) (fun _ => ?_)) <;> conv => whnf)
    | ((with_reducible refine Split.eqz (fun _ => ?_) (fun _ => ?_)) <;> conv => whnf)
    | ((with_reducible refine Split.and ?_))
    | ((with_reducible refine Split.or ?_))
    | ((with_reducible refine Split.streq (fun _ => ?_) (fun _ => ?_)) <;> conv => whnf)
    | ((with_reducible refine Split.dec (fun _ => ?_) (fun _ => ?_)) <;> conv => whnf)
    | ((with_reducible refine Split.mk (fun _ => ?_) (fun _ => ?_)) <;> conv => whnf)
    | ((with_reducible refine NilK.mk (fun _ => ?_) ?_) <;> conv => whnf)
    | ((with_reducible refine AltK.l ?_); (conv => whnf); (with_reducible refine Need.mk ?_ ?_); (first | omega | (refine ⟨?_, ?_⟩ <;> simp <;> omega) | (simp; omega)); conv => whnf)
    | ((with_reducible refine Need.mk ?_ ?_); (first | omega | rfl | decide | (refine ⟨?_, ?_⟩ <;> simp <;> omega) | (simp; omega)); conv => whnf)
    | ((with_reducible refine Wr.quo ?_ ?_ ?_ ?_); omega; omega; omega; conv => whnf)
    | ((with_reducible refine Wr.inr ?_ ?_); (first | omega | (simp; omega)); conv => whnf)
    | ((with_reducible refine Wr.inu ?_ ?_); omega; conv => whnf)
    | ((with_reducible refine AltK.l ?_); (conv => whnf); (first | (refine CallK.mk _ (h) ?_)); conv => whnf)
    | (exfalso; first | omega | contradiction))
  rfl
theorem ev_b1 (n lo hi : Int) : Ev Try.prog 22 [iD lo, iD hi, .sl 1 [iD n]] (.bool (!outsideB n lo hi)) := by
  have h := ev_bet [n] lo hi (by simp)
  simpa using h
theorem ev_b2 (n m lo hi : Int) : Ev Try.prog 22 [iD lo, iD hi, .sl 1 [iD n, iD m]] (.bool (!(outsideB n lo hi || outsideB m lo hi))) := by
  have h := ev_bet [n, m] lo hi (by simp)
  simpa using h
theorem ev_isLevel (n : Int) : Ev Try.prog 25 [iD n] (.bool (!outsideB n (-20000) 20000)) := by
  have h := ev_b1 n (-20000) 20000
  refine ev_of_awp tysOk mixed (fn := Try.f25) Try.func25 rfl rfl rfl ?_
  conv => whnf
  repeat' (first
    | ((with_reducible refine Split.of_true ?_); conv => whnf)
    | ((with_reducible refine Split.of_false ?_); conv => whnf)
    | ((with_reducible refine Split.neg ?_))
    | ((with_reducible refine Split.is_true ?_ ?_); decide; conv => whnf)
    | ((with_reducible refine Split.is_false ?_ ?_); decide; conv => whnf)
    | ((with_reducible refine Split.nez (fun _ => ?_) (fun _ => ?_)) <;> conv => whnf)
    | ((with_reducible refine Split.eqz (fun _ => ?_) (fun _ => ?_)) <;> conv => whnf)
    | ((with_reducible refine Split.and ?_))
    | ((with_reducible refine Split.or ?_))
    | ((with_reducible refine Split.streq (fun _ => ?_) (fun _ => ?_)) <;> conv => whnf)
    | ((with_reducible refine Split.dec (fun _ => ?_) (fun _ => ?_)) <;> conv => whnf)
    | ((with_reducible refine Split.mk (fun _ => ?_) (fun _ => ?_)) <;> conv => whnf)
    | ((with_reducible refine NilK.mk (fun _ => ?_) ?_) <;> conv => whnf)
    | ((with_reducible refine AltK.l ?_); (conv => whnf); (with_reducible refine Need.mk ?_ ?_); (first | omega | (refine ⟨?_, ?_⟩ <;> simp <;> omega) | (simp; omega)); conv => whnf)
    | ((with_reducible refine Need.mk ?_ ?_); (first | omega | rfl | decide | (refine ⟨?_, ?_⟩ <;> simp <;> omega) | (simp; omega)); conv => whnf)
    | ((with_reducible refine Wr.quo ?_ ?_ ?_ ?_); omega; omega; omega; conv => whnf)
    | ((with_reducible refine Wr.inr ?_ ?_); (first | omega | (simp; omega)); conv => whnf)
    | ((with_reducible refine Wr.inu ?_ ?_); omega; conv => whnf)
    | ((with_reducible refine AltK.l ?_); (conv => whnf); (first | (refine CallK.mk _ (h) ?_)); conv => whnf)
    | (exfalso; first | omega | contradiction))
  rfl
def lvBad (n : Int) : Bool := !(n == 30000) && outsideB n (-20000) 20000
theorem ev_BCheck1 (n : Int) : Ev Try.prog 24 [iD n] (.bool (lvBad n)) := by
  have h := ev_isLevel n
  cases ho : outsideB n (-20000) 20000 with
  | true =>
    rw [ho] at h
    have e : lvBad n = !(n == 30000) := by rw [lvBad, ho, Bool.and_true]
    rw [e]
    refine ev_of_awp tysOk mixed (fn := Try.f24) Try.func24 rfl rfl rfl ?_
    conv => whnf
    repeat' (first
      | ((with_reducible refine Split.of_true ?_); conv => whnf)
      | ((with_reducible refine Split.of_false ?_); conv => whnf)
      | ((with_reducible refine Split.neg ?_))
      | ((with_reducible refine Split.is_true ?_ ?_); decide; conv => whnf)
      | ((with_reducible refine Split.is_false ?_ ?_); decide; conv => whnf)
      | ((with_reducible refine Split.nez (fun _ => ?_) (fun _ => ?_)) <;> conv => whnf)
      | ((with_reducible refine Split.eqz (fun _ => ?_) (fun _ => ?_)) <;> conv => whnf)
      | ((with_reducible refine Split.and ?_))
      | ((with_reducible refine Split.or ?_))
      | ((with_reducible refine Split.streq (fun _ => ?_) (fun _ => ?_)) <;> conv => whnf)
      | ((with_reducible refine Split.dec (fun _ => ?_) (fun _ => ?_)) <;> conv => whnf)
      | ((with_reducible refine Split.mk (fun _ => ?_) (fun _ => ?_)) <;> conv => whnf)
      | ((with_reducible refine NilK.mk (fun _ => ?_) ?_) <;> conv => whnf)
      | ((with_reducible refine AltK.l ?_); (conv => whnf); (with_reducible refine Need.mk ?_ ?_); (first | omega | (refine ⟨?_, ?_⟩ <;> simp <;> omega) | (simp; omega)); conv => whnf)
      | ((with_reducible refine Need.mk ?_ ?_); (first | omega | rfl | decide | (refine ⟨?_, ?_⟩ <;> simp <;> omega) | (simp; omega)); conv => whnf)
      | ((with_reducible refine Wr.quo ?_ ?_ ?_ ?_); omega; omega; omega; conv => whnf)
      | ((with_reducible refine Wr.inr ?_ ?_); (first | omega | (simp; omega)); conv => whnf)
      | ((with_reducible refine Wr.inu ?_ ?_); omega; conv => whnf)
      | ((with_reducible refine AltK.l ?_); (conv => whnf); (first | (refine CallK.mk _ (h) ?_)); conv => whnf)
      | (exfalso; first | omega | contradiction))
    all_goals (simp_all [retOf])
  | false =>
    rw [ho] at h
    have e : lvBad n = false := by rw [lvBad, ho, Bool.and_false]
    rw [e]
    refine ev_of_awp tysOk mixed (fn := Try.f24) Try.func24 rfl rfl rfl ?_
    conv => whnf
    repeat' (first
      | ((with_reducible refine Split.of_true ?_); conv => whnf)
      | ((with_reducible refine Split.of_false ?_); conv => whnf)
      | ((with_reducible refine Split.neg ?_))
      | ((with_reducible refine Split.is_true ?_ ?_); decide; conv => whnf)
      | ((with_reducible refine Split.is_false ?_ ?_); decide; conv => whnf)
      | ((with_reducible refine Split.nez (fun _ => ?_) (fun _ => ?_)) <;> conv => whnf)
      | ((with_reducible refine Split.eqz (fun _ => ?_) (fun _ => ?_)) <;> conv => whnf)
      | ((with_reducible refine Split.and ?_))
      | ((with_reducible refine Split.or ?_))
      | ((with_reducible refine Split.streq (fun _ => ?_) (fun _ => ?_)) <;> conv => whnf)
      | ((with_reducible refine Split.dec (fun _ => ?_) (fun _ => ?_)) <;> conv => whnf)
      | ((with_reducible refine Split.mk (fun _ => ?_) (fun _ => ?_)) <;> conv => whnf)
      | ((with_reducible refine NilK.mk (fun _ => ?_) ?_) <;> conv => whnf)
      | ((with_reducible refine AltK.l ?_); (conv => whnf); (with_reducible refine Need.mk ?_ ?_); (first | omega | (refine ⟨?_, ?_⟩ <;> simp <;> omega) | (simp; omega)); conv => whnf)
      | ((with_reducible refine Need.mk ?_ ?_); (first | omega | rfl | decide | (refine ⟨?_, ?_⟩ <;> simp <;> omega) | (simp; omega)); conv => whnf)
      | ((with_reducible refine Wr.quo ?_ ?_ ?_ ?_); omega; omega; omega; conv => whnf)
      | ((with_reducible refine Wr.inr ?_ ?_); (first | omega | (simp; omega)); conv => whnf)
      | ((with_reducible refine Wr.inu ?_ ?_); omega; conv => whnf)
      | ((with_reducible refine AltK.l ?_); (conv => whnf); (first | (refine CallK.mk _ (h) ?_)); conv => whnf)
      | (exfalso; first | omega | contradiction))
    all_goals (simp_all [retOf])
def offB (g : Gr) : Bool := decide (g.x + g.cols * g.side > 1000000) || decide (g.y + g.rows * g.side > 1000000)
theorem ev_BCheck {g : Gr} (hF : FrOk g) (hl : (g.lv.length : Int) = g.cols * g.rows) (ho : ∀ n ∈ g.lv, lvBad n = false) : Ev Try.prog 8 [grD g] (iD (if offB g = true then 2 else 0)) := by
  have hx := hF.x
  have hy := hF.y
  have hs := hF.side
  have hc := hF.cols
  have hr := hF.rows
  have hal := hF.all
  have m1 := mul_bd (x := g.cols) (y := g.side) (X := 1024) (Y := 10000) (by omega) (by omega)
  have m2 := mul_bd (x := g.rows) (y := g.side) (X := 1024) (Y := 10000) (by omega) (by omega)
  have h1 := ev_b2 g.x g.y (-1000000) 1000000
  have h2 := ev_b1 g.side 100 10000
  have h3 := ev_b2 g.cols g.rows 1 1024
  have o1 : (outsideB g.x (-1000000) 1000000 || outsideB g.y (-1000000) 1000000) = false := by simp [outsideB]; omega
  have o2 : outsideB g.side 100 10000 = false := by simp [outsideB]; omega
  have o3 : (outsideB g.cols 1 1024 || outsideB g.rows 1 1024) = false := by simp [outsideB]; omega
  rw [o1] at h1
  rw [o2] at h2
  rw [o3] at h3
  have h4 := ev_ContI g.lv 24 [] lvBad (by omega) (fun n _ => by simpa using ev_BCheck1 n)
  have o4 : g.lv.any lvBad = false := by rw [List.any_eq_false]; intro n hn; rw [ho n hn]; decide
  rw [o4] at h4
  have hlen : (g.lv.map iD).length = g.lv.length := List.length_map _
  obtain ⟨x, y, side, cols, rows, lv⟩ := g
  dsimp only at *
  unfold offB
  dsimp only
  refine ev_of_awp tysOk mixed (fn := Try.f8) Try.func8 rfl rfl rfl ?_
  conv => whnf
  repeat' (first
    | ((with_reducible refine Split.of_true ?_); conv => whnf)
    | ((with_reducible refine Split.of_false ?_); conv => whnf)
    | ((with_reducible refine Split.neg ?_))
    | ((with_reducible refine Split.is_true ?_ ?_); decide; conv => whnf)
    | ((with_reducible refine Split.is_false ?_ ?_); decide; conv => whnf)
    | ((with_reducible refine Split.nez (fun _ => ?_) (fun _ => ?_)) <;> conv => whnf)
    | ((with_reducible refine Split.eqz (fun _ => ?_) (fun _ => ?_)) <;> conv => whnf)
    | ((with_reducible refine Split.and ?_))
    | ((with_reducible refine Split.or ?_))
    | ((with_reducible refine Split.streq (fun _ => ?_) (fun _ => ?_)) <;> conv => whnf)
    | ((with_reducible refine Split.dec (fun _ => ?_) (fun _ => ?_)) <;> conv => whnf)
    | ((with_reducible refine Split.mk (fun _ => ?_) (fun _ => ?_)) <;> conv => whnf)
    | ((with_reducible refine NilK.mk (fun _ => ?_) ?_) <;> conv => whnf)
    | ((with_reducible refine AltK.l ?_); (conv => whnf); (with_reducible refine Need.mk ?_ ?_); (first | omega | (refine ⟨?_, ?_⟩ <;> simp <;> omega) | (simp; omega)); conv => whnf)
    | ((with_reducible refine Need.mk ?_ ?_); (first | omega | rfl | decide | (refine ⟨?_, ?_⟩ <;> simp <;> omega) | (simp; omega)); conv => whnf)
    | ((with_reducible refine Wr.quo ?_ ?_ ?_ ?_); omega; omega; omega; conv => whnf)
    | ((with_reducible refine Wr.inr ?_ ?_); (first | omega | (simp; omega)); conv => whnf)
    | ((with_reducible refine Wr.inu ?_ ?_); omega; conv => whnf)
    | ((with_reducible refine AltK.l ?_); (conv => whnf); (first | (refine CallK.mk _ (h1) ?_) | (refine CallK.mk _ (h2) ?_) | (refine CallK.mk _ (h3) ?_) | (refine CallK.mk _ (h4) ?_)); conv => whnf)
    | (exfalso; first | omega | contradiction))
  all_goals (simp_all [retOf, iD] <;> omega)
theorem ev_cellsOf (g : Gr) : Ev Try.prog 50 [grD g] (.agg [iD g.x, iD g.y, iD g.side, iD g.cols, iD g.rows]) := by
  refine ev_of_awp tysOk mixed (fn := Try.f50) Try.func50 rfl rfl rfl ?_
  conv => whnf
  repeat' (first
    | ((with_reducible refine Split.of_true ?_); conv => whnf)
    | ((with_reducible refine Split.of_false ?_); conv => whnf)
    | ((with_reducible refine Split.neg ?_))
    | ((with_reducible refine Split.is_true ?_ ?_); decide; conv => whnf)
    | ((with_reducible refine Split.is_false ?_ ?_); decide; conv => whnf)
    | ((with_reducible refine Split.nez (fun _ => ?_) (fun _ => ?_)) <;> conv => whnf)
    | ((with_reducible refine Split.eqz (fun _ => ?_) (fun _ => ?_)) <;> conv => whnf)
    | ((with_reducible refine Split.and ?_))
    | ((with_reducible refine Split.or ?_))
    | ((with_reducible refine Split.streq (fun _ => ?_) (fun _ => ?_)) <;> conv => whnf)
    | ((with_reducible refine Split.dec (fun _ => ?_) (fun _ => ?_)) <;> conv => whnf)
    | ((with_reducible refine Split.mk (fun _ => ?_) (fun _ => ?_)) <;> conv => whnf)
    | ((with_reducible refine NilK.mk (fun _ => ?_) ?_) <;> conv => whnf)
    | ((with_reducible refine AltK.l ?_); (conv => whnf); (with_reducible refine Need.mk ?_ ?_); (first | omega | (refine ⟨?_, ?_⟩ <;> simp <;> omega) | (simp; omega)); conv => whnf)
    | ((with_reducible refine Need.mk ?_ ?_); (first | omega | rfl | decide | (refine ⟨?_, ?_⟩ <;> simp <;> omega) | (simp; omega)); conv => whnf)
    | ((with_reducible refine Wr.quo ?_ ?_ ?_ ?_); omega; omega; omega; conv => whnf)
    | ((with_reducible refine Wr.inr ?_ ?_); (first | omega | (simp; omega)); conv => whnf)
    | ((with_reducible refine Wr.inu ?_ ?_); omega; conv => whnf)
    | (exfalso; first | omega | contradiction))
  rfl
theorem ev_both {a b : Gr} (ha : Ev Try.prog 8 [grD a] (iD 0)) (hb : Ev Try.prog 8 [grD b] (iD 0)) (hx : b.x = a.x) (hy : b.y = a.y) (hs : b.side = a.side) (hc : b.cols = a.cols) (hr : b.rows = a.rows) : Ev Try.prog 26 [grD a, grD b] (iD 0) := by
  have h1 := ev_cellsOf a
  have h2 := ev_cellsOf b
  rw [hx, hy, hs, hc, hr] at h2
  refine ev_of_awp tysOk mixed (fn := Try.f26) Try.func26 rfl rfl rfl ?_
  conv => whnf
  repeat' (first
    | ((with_reducible refine Split.of_true ?_); conv => whnf)
    | ((with_reducible refine Split.of_false ?_); conv => whnf)
    | ((with_reducible refine Split.neg ?_))
    | ((with_reducible refine Split.is_true ?_ ?_); decide; conv => whnf)
    | ((with_reducible refine Split.is_false ?_ ?_); decide; conv => whnf)
    | ((with_reducible refine Split.nez (fun _ => ?_) (fun _ => ?_)) <;> conv => whnf)
    | ((with_reducible refine Split.eqz (fun _ => ?_) (fun _ => ?_)) <;> conv => whnf)
    | ((with_reducible refine Split.and ?_))
    | ((with_reducible refine Split.or ?_))
    | ((with_reducible refine Split.streq (fun _ => ?_) (fun _ => ?_)) <;> conv => whnf)
    | ((with_reducible refine Split.dec (fun _ => ?_) (fun _ => ?_)) <;> conv => whnf)
    | ((with_reducible refine Split.mk (fun _ => ?_) (fun _ => ?_)) <;> conv => whnf)
    | ((with_reducible refine NilK.mk (fun _ => ?_) ?_) <;> conv => whnf)
    | ((with_reducible refine AltK.l ?_); (conv => whnf); (with_reducible refine Need.mk ?_ ?_); (first | omega | (refine ⟨?_, ?_⟩ <;> simp <;> omega) | (simp; omega)); conv => whnf)
    | ((with_reducible refine Need.mk ?_ ?_); (first | omega | rfl | decide | (refine ⟨?_, ?_⟩ <;> simp <;> omega) | (simp; omega)); conv => whnf)
    | ((with_reducible refine Wr.quo ?_ ?_ ?_ ?_); omega; omega; omega; conv => whnf)
    | ((with_reducible refine Wr.inr ?_ ?_); (first | omega | (simp; omega)); conv => whnf)
    | ((with_reducible refine Wr.inu ?_ ?_); omega; conv => whnf)
    | (exfalso; first | omega | contradiction))
  refine LoopK.o2 (fun i : Nat => i ≤ 2) (fun i => [(12, .d (.int .i64 i))]) (fun _ => []) (fun i => 2 - i) 0 (by omega) (by refine ⟨?_, ?_, rfl⟩ <;> (repeat' (first | exact True.intro | exact rfl | refine ⟨?_, ?_⟩ | (intro h; cases h; done) | (intro h; exact h) | exact map_snoc | (refine own_congr ?_; simp; done) | (refine int_congr ?_; (first | omega | (simp; omega))) | (simp; done)))) ?_
  rintro i hi
  obtain rfl | rfl | rfl : i = 0 ∨ i = 1 ∨ i = 2 := by omega
  · conv => whnf
    repeat' (first
      | ((refine PickE.mk _ rfl ?_); conv => whnf)
      | ((refine Split.is_false rfl ?_); conv => whnf)
      | ((refine Split.is_true rfl ?_); conv => whnf)
      | ((with_reducible refine Split.of_true ?_); conv => whnf)
      | ((with_reducible refine Split.of_false ?_); conv => whnf)
      | ((with_reducible refine Split.neg ?_))
      | ((with_reducible refine Split.is_true ?_ ?_); decide; conv => whnf)
      | ((with_reducible refine Split.is_false ?_ ?_); decide; conv => whnf)
      | ((with_reducible refine Split.nez (fun _ => ?_) (fun _ => ?_)) <;> conv => whnf)
      | ((with_reducible refine Split.eqz (fun _ => ?_) (fun _ => ?_)) <;> conv => whnf)
      | ((with_reducible refine Split.and ?_))
      | ((with_reducible refine Split.or ?_))
      | ((with_reducible refine Split.streq (fun _ => ?_) (fun _ => ?_)) <;> conv => whnf)
      | ((with_reducible refine Split.dec (fun _ => ?_) (fun _ => ?_)) <;> conv => whnf)
      | ((with_reducible refine Split.mk (fun _ => ?_) (fun _ => ?_)) <;> conv => whnf)
      | ((with_reducible refine NilK.mk (fun _ => ?_) ?_) <;> conv => whnf)
      | ((with_reducible refine AltK.l ?_); (conv => whnf); (with_reducible refine Need.mk ?_ ?_); (first | omega | (refine ⟨?_, ?_⟩ <;> simp <;> omega) | (simp; omega)); conv => whnf)
      | ((with_reducible refine Need.mk ?_ ?_); (first | omega | rfl | decide | (refine ⟨?_, ?_⟩ <;> simp <;> omega) | (simp; omega)); conv => whnf)
      | ((with_reducible refine Wr.quo ?_ ?_ ?_ ?_); omega; omega; omega; conv => whnf)
      | ((with_reducible refine Wr.inr ?_ ?_); (first | omega | (simp; omega)); conv => whnf)
      | ((with_reducible refine Wr.inu ?_ ?_); omega; conv => whnf)
      | ((with_reducible refine AltK.l ?_); (conv => whnf); (first | (refine CallK.mk _ (ha) ?_) | (refine CallK.mk _ (hb) ?_) | (refine CallK.mk _ (h1) ?_) | (refine CallK.mk _ (h2) ?_)); conv => whnf)
      | (exfalso; first | omega | contradiction))
    exact Again.au 1 (by omega) (by omega) (by refine ⟨?_, ?_, rfl⟩ <;> (repeat' (first | exact True.intro | exact rfl | refine ⟨?_, ?_⟩ | (intro h; cases h; done) | (intro h; exact h) | exact map_snoc | (refine own_congr ?_; simp; done) | (refine int_congr ?_; (first | omega | (simp; omega))) | (simp; done))))
  · conv => whnf
    repeat' (first
      | ((refine PickE.mk _ rfl ?_); conv => whnf)
      | ((refine Split.is_false rfl ?_); conv => whnf)
      | ((refine Split.is_true rfl ?_); conv => whnf)
      | ((with_reducible refine Split.of_true ?_); conv => whnf)
      | ((with_reducible refine Split.of_false ?_); conv => whnf)
      | ((with_reducible refine Split.neg ?_))
      | ((with_reducible refine Split.is_true ?_ ?_); decide; conv => whnf)
      | ((with_reducible refine Split.is_false ?_ ?_); decide; conv => whnf)
      | ((with_reducible refine Split.nez (fun _ => ?_) (fun _ => ?_)) <;> conv => whnf)
      | ((with_reducible refine Split.eqz (fun _ => ?_) (fun _ => ?_)) <;> conv => whnf)
      | ((with_reducible refine Split.and ?_))
      | ((with_reducible refine Split.or ?_))
      | ((with_reducible refine Split.streq (fun _ => ?_) (fun _ => ?_)) <;> conv => whnf)
      | ((with_reducible refine Split.dec (fun _ => ?_) (fun _ => ?_)) <;> conv => whnf)
      | ((with_reducible refine Split.mk (fun _ => ?_) (fun _ => ?_)) <;> conv => whnf)
      | ((with_reducible refine NilK.mk (fun _ => ?_) ?_) <;> conv => whnf)
      | ((with_reducible refine AltK.l ?_); (conv => whnf); (with_reducible refine Need.mk ?_ ?_); (first | omega | (refine ⟨?_, ?_⟩ <;> simp <;> omega) | (simp; omega)); conv => whnf)
      | ((with_reducible refine Need.mk ?_ ?_); (first | omega | rfl | decide | (refine ⟨?_, ?_⟩ <;> simp <;> omega) | (simp; omega)); conv => whnf)
      | ((with_reducible refine Wr.quo ?_ ?_ ?_ ?_); omega; omega; omega; conv => whnf)
      | ((with_reducible refine Wr.inr ?_ ?_); (first | omega | (simp; omega)); conv => whnf)
      | ((with_reducible refine Wr.inu ?_ ?_); omega; conv => whnf)
      | ((with_reducible refine AltK.l ?_); (conv => whnf); (first | (refine CallK.mk _ (ha) ?_) | (refine CallK.mk _ (hb) ?_) | (refine CallK.mk _ (h1) ?_) | (refine CallK.mk _ (h2) ?_)); conv => whnf)
      | (exfalso; first | omega | contradiction))
    exact Again.au 2 (by omega) (by omega) (by refine ⟨?_, ?_, rfl⟩ <;> (repeat' (first | exact True.intro | exact rfl | refine ⟨?_, ?_⟩ | (intro h; cases h; done) | (intro h; exact h) | exact map_snoc | (refine own_congr ?_; simp; done) | (refine int_congr ?_; (first | omega | (simp; omega))) | (simp; done))))
  · conv => whnf
    repeat' (first
      | ((refine PickE.mk _ rfl ?_); conv => whnf)
      | ((refine Split.is_false rfl ?_); conv => whnf)
      | ((refine Split.is_true rfl ?_); conv => whnf)
      | ((with_reducible refine Split.of_true ?_); conv => whnf)
      | ((with_reducible refine Split.of_false ?_); conv => whnf)
      | ((with_reducible refine Split.neg ?_))
      | ((with_reducible refine Split.is_true ?_ ?_); decide; conv => whnf)
      | ((with_reducible refine Split.is_false ?_ ?_); decide; conv => whnf)
      | ((with_reducible refine Split.nez (fun _ => ?_) (fun _ => ?_)) <;> conv => whnf)
      | ((with_reducible refine Split.eqz (fun _ => ?_) (fun _ => ?_)) <;> conv => whnf)
      | ((with_reducible refine Split.and ?_))
      | ((with_reducible refine Split.or ?_))
      | ((with_reducible refine Split.streq (fun _ => ?_) (fun _ => ?_)) <;> conv => whnf)
      | ((with_reducible refine Split.dec (fun _ => ?_) (fun _ => ?_)) <;> conv => whnf)
      | ((with_reducible refine Split.mk (fun _ => ?_) (fun _ => ?_)) <;> conv => whnf)
      | ((with_reducible refine NilK.mk (fun _ => ?_) ?_) <;> conv => whnf)
      | ((with_reducible refine AltK.l ?_); (conv => whnf); (with_reducible refine Need.mk ?_ ?_); (first | omega | (refine ⟨?_, ?_⟩ <;> simp <;> omega) | (simp; omega)); conv => whnf)
      | ((with_reducible refine Need.mk ?_ ?_); (first | omega | rfl | decide | (refine ⟨?_, ?_⟩ <;> simp <;> omega) | (simp; omega)); conv => whnf)
      | ((with_reducible refine Wr.quo ?_ ?_ ?_ ?_); omega; omega; omega; conv => whnf)
      | ((with_reducible refine Wr.inr ?_ ?_); (first | omega | (simp; omega)); conv => whnf)
      | ((with_reducible refine Wr.inu ?_ ?_); omega; conv => whnf)
      | ((with_reducible refine AltK.l ?_); (conv => whnf); (first | (refine CallK.mk _ (ha) ?_) | (refine CallK.mk _ (hb) ?_) | (refine CallK.mk _ (h1) ?_) | (refine CallK.mk _ (h2) ?_)); conv => whnf)
      | (exfalso; first | omega | contradiction))
    all_goals first | rfl | (simp_all [retOf]; done)
theorem ev_known {g : Gr} {i : Nat} {x : Int} (hx : g.lv[i]? = some x) (hn : g.lv.length ≤ 1000000) : Ev Try.prog 29 [grD g, iD i] (.bool (!(x == 30000))) := by
  have hil := lt_of_some hx
  have h1 := ev_b1 i 0 ((g.lv.length : Int) - 1)
  have o1 : outsideB (i : Int) 0 ((g.lv.length : Int) - 1) = false := by simp [outsideB]; omega
  rw [o1] at h1
  have hlen : (g.lv.map iD).length = g.lv.length := List.length_map _
  rw [← hlen] at h1
  refine ev_of_awp tysOk mixed (fn := Try.f29) Try.func29 rfl rfl rfl ?_
  conv => whnf
  repeat' (first
    | ((refine PickE.map i hx (by omega) ?_); conv => whnf)
    | ((with_reducible refine Split.of_true ?_); conv => whnf)
    | ((with_reducible refine Split.of_false ?_); conv => whnf)
    | ((with_reducible refine Split.neg ?_))
    | ((with_reducible refine Split.is_true ?_ ?_); decide; conv => whnf)
    | ((with_reducible refine Split.is_false ?_ ?_); decide; conv => whnf)
    | ((with_reducible refine Split.nez (fun _ => ?_) (fun _ => ?_)) <;> conv => whnf)
    | ((with_reducible refine Split.eqz (fun _ => ?_) (fun _ => ?_)) <;> conv => whnf)
    | ((with_reducible refine Split.and ?_))
    | ((with_reducible refine Split.or ?_))
    | ((with_reducible refine Split.streq (fun _ => ?_) (fun _ => ?_)) <;> conv => whnf)
    | ((with_reducible refine Split.dec (fun _ => ?_) (fun _ => ?_)) <;> conv => whnf)
    | ((with_reducible refine Split.mk (fun _ => ?_) (fun _ => ?_)) <;> conv => whnf)
    | ((with_reducible refine NilK.mk (fun _ => ?_) ?_) <;> conv => whnf)
    | ((with_reducible refine AltK.l ?_); (conv => whnf); (with_reducible refine Need.mk ?_ ?_); (first | omega | (refine ⟨?_, ?_⟩ <;> simp <;> omega) | (simp; omega)); conv => whnf)
    | ((with_reducible refine Need.mk ?_ ?_); (first | omega | rfl | decide | (refine ⟨?_, ?_⟩ <;> simp <;> omega) | (simp; omega)); conv => whnf)
    | ((with_reducible refine Wr.quo ?_ ?_ ?_ ?_); omega; omega; omega; conv => whnf)
    | ((with_reducible refine Wr.inr ?_ ?_); (first | omega | (simp; omega)); conv => whnf)
    | ((with_reducible refine Wr.inu ?_ ?_); omega; conv => whnf)
    | ((with_reducible refine AltK.l ?_); (conv => whnf); (first | (refine CallK.mk _ (h1) ?_)); conv => whnf)
    | (exfalso; first | omega | contradiction))
  all_goals first | rfl | (simp_all [retOf]; done) | (simp_all [retOf]; rfl)
def shV (x y : Int) : Int := if y = 30000 then x else if x = 30000 then y else maxI x y
theorem ev_S1 {a b : Gr} {i : Nat} {x y : Int} (hx : a.lv[i]? = some x) (hy : b.lv[i]? = some y) (hn : a.lv.length ≤ 1000000) (hm : b.lv.length ≤ 1000000) : Ev Try.prog 28 [iD i, .ref (grD b).cells 0, .ref (grD a).cells 0] (iD (shV x y)) := by
  have h1 := ev_known hx hn
  have h2 := ev_known hy hm
  have hla : (a.lv.map iD).length = a.lv.length := List.length_map _
  have hlb : (b.lv.map iD).length = b.lv.length := List.length_map _
  have hia := lt_of_some hx
  have hib := lt_of_some hy
  refine ev_of_awp tysOk mixed (fn := Try.f28) Try.func28 rfl rfl rfl ?_
  conv => whnf
  repeat' (first
    | ((refine PickE.map i hy (by omega) ?_); conv => whnf)
    | ((refine PickE.map i hx (by omega) ?_); conv => whnf)
    | ((with_reducible refine Split.of_true ?_); conv => whnf)
    | ((with_reducible refine Split.of_false ?_); conv => whnf)
    | ((with_reducible refine Split.neg ?_))
    | ((with_reducible refine Split.is_true ?_ ?_); decide; conv => whnf)
    | ((with_reducible refine Split.is_false ?_ ?_); decide; conv => whnf)
    | ((with_reducible refine Split.nez (fun _ => ?_) (fun _ => ?_)) <;> conv => whnf)
    | ((with_reducible refine Split.eqz (fun _ => ?_) (fun _ => ?_)) <;> conv => whnf)
    | ((with_reducible refine Split.and ?_))
    | ((with_reducible refine Split.or ?_))
    | ((with_reducible refine Split.streq (fun _ => ?_) (fun _ => ?_)) <;> conv => whnf)
    | ((with_reducible refine Split.dec (fun _ => ?_) (fun _ => ?_)) <;> conv => whnf)
    | ((with_reducible refine Split.mk (fun _ => ?_) (fun _ => ?_)) <;> conv => whnf)
    | ((with_reducible refine NilK.mk (fun _ => ?_) ?_) <;> conv => whnf)
    | ((with_reducible refine AltK.l ?_); (conv => whnf); (with_reducible refine Need.mk ?_ ?_); (first | omega | (refine ⟨?_, ?_⟩ <;> simp <;> omega) | (simp; omega)); conv => whnf)
    | ((with_reducible refine Need.mk ?_ ?_); (first | omega | rfl | decide | (refine ⟨?_, ?_⟩ <;> simp <;> omega) | (simp; omega)); conv => whnf)
    | ((with_reducible refine Wr.quo ?_ ?_ ?_ ?_); omega; omega; omega; conv => whnf)
    | ((with_reducible refine Wr.inr ?_ ?_); (first | omega | (simp; omega)); conv => whnf)
    | ((with_reducible refine Wr.inu ?_ ?_); omega; conv => whnf)
    | ((with_reducible refine AltK.l ?_); (conv => whnf); (first | (refine CallK.mk _ (h1) ?_) | (refine CallK.mk _ (h2) ?_)); conv => whnf)
    | (exfalso; first | omega | contradiction))
  all_goals (simp_all [retOf, shV, iD])
def wiE (v : Nat → Int) (n i : Nat) : List D := ((List.range i).map fun j : Nat => iD (v j)) ++ List.replicate (n - i) (D.int .i64 0)
theorem wiE_len (v : Nat → Int) {n i : Nat} (h : i ≤ n) : (wiE v n i).length = n := by simp [wiE]; omega
theorem wiE_next (v : Nat → Int) {n i : Nat} (h : i < n) : (wiE v n i).set i (iD (v i)) = wiE v n (i + 1) := by
  unfold wiE
  rw [List.set_append_right _ _ (by simp), List.range_succ, List.map_append]
  simp only [List.length_map, List.length_range, Nat.sub_self, List.map_cons, List.map_nil, List.append_assoc]
  rw [show n - i = (n - (i + 1)) + 1 by omega, List.replicate_succ]
  rfl
theorem wiE_get (v : Nat → Int) {n i : Nat} (h : i < n) : (wiE v n i)[i]? = some (D.int .i64 0) := by
  unfold wiE
  rw [List.getElem?_append_right (by simp)]
  simp [List.getElem?_replicate]; omega
theorem ev_bwith (g : Gr) (f : Nat) (caps : List D) (v : Nat → Int) (hn : g.lv.length ≤ 1000000) (hf : ∀ i, i < g.lv.length → Ev Try.prog f ([iD i] ++ caps) (iD (v i))) : Ev Try.prog 27 [grD g, .fn f caps] (grD { g with lv := (List.range g.lv.length).map v }) := by
  have hlen : (g.lv.map iD).length = g.lv.length := List.length_map _
  have hmp1 : List.replicate ((g.lv.map iD).length : Int).toNat (D.int .i64 0) = wiE v g.lv.length 0 := by rw [hlen]; simp [wiE]
  have hrl : ((List.replicate ((g.lv.map iD).length : Int).toNat (D.int .i64 0)).length : Int) = g.lv.length := by simp
  refine ev_of_awp tysOk mixed (fn := Try.f27) Try.func27 rfl rfl rfl ?_
  conv => whnf
  repeat' (first
    | ((with_reducible refine Split.of_true ?_); conv => whnf)
    | ((with_reducible refine Split.of_false ?_); conv => whnf)
    | ((with_reducible refine Split.neg ?_))
    | ((with_reducible refine Split.is_true ?_ ?_); decide; conv => whnf)
    | ((with_reducible refine Split.is_false ?_ ?_); decide; conv => whnf)
    | ((with_reducible refine Split.nez (fun _ => ?_) (fun _ => ?_)) <;> conv => whnf)
    | ((with_reducible refine Split.eqz (fun _ => ?_) (fun _ => ?_)) <;> conv => whnf)
    | ((with_reducible refine Split.and ?_))
    | ((with_reducible refine Split.or ?_))
    | ((with_reducible refine Split.streq (fun _ => ?_) (fun _ => ?_)) <;> conv => whnf)
    | ((with_reducible refine Split.dec (fun _ => ?_) (fun _ => ?_)) <;> conv => whnf)
    | ((with_reducible refine Split.mk (fun _ => ?_) (fun _ => ?_)) <;> conv => whnf)
    | ((with_reducible refine NilK.mk (fun _ => ?_) ?_) <;> conv => whnf)
    | ((with_reducible refine AltK.l ?_); (conv => whnf); (with_reducible refine Need.mk ?_ ?_); (first | omega | (refine ⟨?_, ?_⟩ <;> simp <;> omega) | (simp; omega)); conv => whnf)
    | ((with_reducible refine Need.mk ?_ ?_); (first | omega | rfl | decide | (refine ⟨?_, ?_⟩ <;> simp <;> omega) | (simp; omega)); conv => whnf)
    | ((with_reducible refine Wr.quo ?_ ?_ ?_ ?_); omega; omega; omega; conv => whnf)
    | ((with_reducible refine Wr.inr ?_ ?_); (first | omega | (simp; omega)); conv => whnf)
    | ((with_reducible refine Wr.inu ?_ ?_); omega; conv => whnf)
    | (exfalso; first | omega | contradiction))
  refine LoopK.o2 (fun i : Nat => i ≤ g.lv.length) (fun i => [(16, .d (.int .i64 i))]) (fun i => [(11, .row 3 1 (wiE v g.lv.length i) false)]) (fun i => g.lv.length - i) 0 (by simp) (by refine ⟨?_, ?_, rfl⟩ <;> (repeat' (first | exact True.intro | exact rfl | refine ⟨?_, ?_⟩ | (intro h; cases h; done) | (intro h; exact h) | exact map_snoc | (refine own_congr ?_; simp; done) | (refine int_congr ?_; (first | omega | (simp; omega))) | (simp; done) | exact hmp1 | ((first | refine own_congr ?_ | refine int_congr ?_ | skip); simp [D.cells]; done) | ((first | refine own_congr ?_ | refine int_congr ?_); simp [D.cells]; omega) | (show @Eq (List Go.Vm.D) _ []; simp [D.cells]; done) | (simp [D.cells, D.cells]; done)))) ?_
  rintro i hi
  have hwl := wiE_len v hi
  by_cases hil : i < g.lv.length
  · have hf := hf i hil
    have hmp2 := wiE_next v hil
    have hwg : (wiE v g.lv.length i)[((i : Int)).toNat]? = some (D.int .i64 0) := wiE_get v hil
    conv => whnf
    repeat' (first
      | ((with_reducible refine Split.of_true ?_); conv => whnf)
      | ((with_reducible refine Split.of_false ?_); conv => whnf)
      | ((with_reducible refine Split.neg ?_))
      | ((with_reducible refine Split.is_true ?_ ?_); decide; conv => whnf)
      | ((with_reducible refine Split.is_false ?_ ?_); decide; conv => whnf)
      | ((with_reducible refine Split.nez (fun _ => ?_) (fun _ => ?_)) <;> conv => whnf)
      | ((with_reducible refine Split.eqz (fun _ => ?_) (fun _ => ?_)) <;> conv => whnf)
      | ((with_reducible refine Split.and ?_))
      | ((with_reducible refine Split.or ?_))
      | ((with_reducible refine Split.streq (fun _ => ?_) (fun _ => ?_)) <;> conv => whnf)
      | ((with_reducible refine Split.dec (fun _ => ?_) (fun _ => ?_)) <;> conv => whnf)
      | ((with_reducible refine Split.mk (fun _ => ?_) (fun _ => ?_)) <;> conv => whnf)
      | ((with_reducible refine NilK.mk (fun _ => ?_) ?_) <;> conv => whnf)
      | ((with_reducible refine AltK.l ?_); (conv => whnf); (with_reducible refine Need.mk ?_ ?_); (first | omega | (refine ⟨?_, ?_⟩ <;> simp <;> omega) | (simp; omega)); conv => whnf)
      | ((with_reducible refine Need.mk ?_ ?_); (first | omega | rfl | decide | (refine ⟨?_, ?_⟩ <;> simp <;> omega) | (simp; omega)); conv => whnf)
      | ((with_reducible refine Wr.quo ?_ ?_ ?_ ?_); omega; omega; omega; conv => whnf)
      | ((with_reducible refine Wr.inr ?_ ?_); (first | omega | (simp; omega)); conv => whnf)
      | ((with_reducible refine Wr.inu ?_ ?_); omega; conv => whnf)
      | (exfalso; first | omega | contradiction))
    refine AltK.l ?_
    conv => whnf
    refine CallK.mk _ hf ?_
    conv => whnf
    repeat' (first
      | ((refine PickE.mk _ hwg ?_); conv => whnf)
      | ((with_reducible refine Split.of_true ?_); conv => whnf)
      | ((with_reducible refine Split.of_false ?_); conv => whnf)
      | ((with_reducible refine Split.neg ?_))
      | ((with_reducible refine Split.is_true ?_ ?_); decide; conv => whnf)
      | ((with_reducible refine Split.is_false ?_ ?_); decide; conv => whnf)
      | ((with_reducible refine Split.nez (fun _ => ?_) (fun _ => ?_)) <;> conv => whnf)
      | ((with_reducible refine Split.eqz (fun _ => ?_) (fun _ => ?_)) <;> conv => whnf)
      | ((with_reducible refine Split.and ?_))
      | ((with_reducible refine Split.or ?_))
      | ((with_reducible refine Split.streq (fun _ => ?_) (fun _ => ?_)) <;> conv => whnf)
      | ((with_reducible refine Split.dec (fun _ => ?_) (fun _ => ?_)) <;> conv => whnf)
      | ((with_reducible refine Split.mk (fun _ => ?_) (fun _ => ?_)) <;> conv => whnf)
      | ((with_reducible refine NilK.mk (fun _ => ?_) ?_) <;> conv => whnf)
      | ((with_reducible refine AltK.l ?_); (conv => whnf); (with_reducible refine Need.mk ?_ ?_); (first | omega | (refine ⟨?_, ?_⟩ <;> simp <;> omega) | (simp; omega)); conv => whnf)
      | ((with_reducible refine Need.mk ?_ ?_); (first | omega | rfl | decide | (refine ⟨?_, ?_⟩ <;> simp <;> omega) | (simp; omega)); conv => whnf)
      | ((with_reducible refine Wr.quo ?_ ?_ ?_ ?_); omega; omega; omega; conv => whnf)
      | ((with_reducible refine Wr.inr ?_ ?_); (first | omega | (simp; omega)); conv => whnf)
      | ((with_reducible refine Wr.inu ?_ ?_); omega; conv => whnf)
      | (exfalso; first | omega | contradiction))
    exact Again.au (i + 1) (by omega) (by omega) (by refine ⟨?_, ?_, rfl⟩ <;> (repeat' (first | exact True.intro | exact rfl | refine ⟨?_, ?_⟩ | (intro h; cases h; done) | (intro h; exact h) | exact map_snoc | (refine own_congr ?_; simp; done) | (refine int_congr ?_; (first | omega | (simp; omega))) | (simp; done) | exact hmp2 | ((first | refine own_congr ?_ | refine int_congr ?_ | skip); simp [D.cells]; done) | ((first | refine own_congr ?_ | refine int_congr ?_); simp [D.cells]; omega) | (show @Eq (List Go.Vm.D) _ []; simp [D.cells]; done) | (simp [D.cells, D.cells]; done))))
  · rw [show i = g.lv.length by omega]
    have e : wiE v g.lv.length g.lv.length = ((List.range g.lv.length).map v).map iD := by simp [wiE, iD]
    rw [e]
    conv => whnf
    repeat' (first
      | ((with_reducible refine Split.of_true ?_); conv => whnf)
      | ((with_reducible refine Split.of_false ?_); conv => whnf)
      | ((with_reducible refine Split.neg ?_))
      | ((with_reducible refine Split.is_true ?_ ?_); decide; conv => whnf)
      | ((with_reducible refine Split.is_false ?_ ?_); decide; conv => whnf)
      | ((with_reducible refine Split.nez (fun _ => ?_) (fun _ => ?_)) <;> conv => whnf)
      | ((with_reducible refine Split.eqz (fun _ => ?_) (fun _ => ?_)) <;> conv => whnf)
      | ((with_reducible refine Split.and ?_))
      | ((with_reducible refine Split.or ?_))
      | ((with_reducible refine Split.streq (fun _ => ?_) (fun _ => ?_)) <;> conv => whnf)
      | ((with_reducible refine Split.dec (fun _ => ?_) (fun _ => ?_)) <;> conv => whnf)
      | ((with_reducible refine Split.mk (fun _ => ?_) (fun _ => ?_)) <;> conv => whnf)
      | ((with_reducible refine NilK.mk (fun _ => ?_) ?_) <;> conv => whnf)
      | ((with_reducible refine AltK.l ?_); (conv => whnf); (with_reducible refine Need.mk ?_ ?_); (first | omega | (refine ⟨?_, ?_⟩ <;> simp <;> omega) | (simp; omega)); conv => whnf)
      | ((with_reducible refine Need.mk ?_ ?_); (first | omega | rfl | decide | (refine ⟨?_, ?_⟩ <;> simp <;> omega) | (simp; omega)); conv => whnf)
      | ((with_reducible refine Wr.quo ?_ ?_ ?_ ?_); omega; omega; omega; conv => whnf)
      | ((with_reducible refine Wr.inr ?_ ?_); (first | omega | (simp; omega)); conv => whnf)
      | ((with_reducible refine Wr.inu ?_ ?_); omega; conv => whnf)
      | (exfalso; first | omega | contradiction))
    rfl
theorem ev_Shoalest {fr : Gr} {L M : List Int} (hF : FrOk fr) (hL : (L.length : Int) = fr.cols * fr.rows) (hM : (M.length : Int) = fr.cols * fr.rows) (hLo : ∀ n ∈ L, lvBad n = false) (hMo : ∀ n ∈ M, lvBad n = false) (hoff : offB fr = false)
    (hsh : ∀ (i : Nat) x y, L[i]? = some x → M[i]? = some y → shV x y = y) : Ev Try.prog 9 [grD { fr with lv := L }, grD { fr with lv := M }] (.tup [grD { fr with lv := M }, iD 0]) := by
  have hal := hF.all
  have hFL : FrOk { fr with lv := L } := ⟨hF.x, hF.y, hF.side, hF.cols, hF.rows, hF.all⟩
  have hFM : FrOk { fr with lv := M } := ⟨hF.x, hF.y, hF.side, hF.cols, hF.rows, hF.all⟩
  have h1 := ev_BCheck hFL hL hLo
  have h2 := ev_BCheck hFM hM hMo
  have e1 : offB { fr with lv := L } = false := hoff
  have e2 : offB { fr with lv := M } = false := hoff
  rw [e1, if_neg (by decide)] at h1
  rw [e2, if_neg (by decide)] at h2
  have h3 := ev_both h1 h2 rfl rfl rfl rfl rfl
  have h4 := ev_bwith { fr with lv := L } 28 [.ref (grD { fr with lv := M }).cells 0, .ref (grD { fr with lv := L }).cells 0] (fun i => (M[i]?).getD 0) (by show L.length ≤ _; omega) (fun i hi => by
    obtain ⟨x, hx⟩ := some_of_lt (show i < L.length from hi)
    obtain ⟨y, hy⟩ := some_of_lt (show i < M.length by have : L.length = M.length := by omega
                                                       have : i < L.length := hi
                                                       omega)
    have h := ev_S1 (a := { fr with lv := L }) (b := { fr with lv := M }) hx hy (by show L.length ≤ _; omega) (by show M.length ≤ _; omega)
    rw [hsh i x y hx hy] at h
    rw [hy]
    exact h)
  have e3 : (List.range L.length).map (fun i => (M[i]?).getD 0) = M := by
    refine List.ext_getElem? fun i => ?_
    rw [List.getElem?_map]
    by_cases h : i < L.length
    · obtain ⟨y, hy⟩ := some_of_lt (show i < M.length by omega)
      rw [List.getElem?_range h, hy]
      simp [hy]
    · rw [List.getElem?_eq_none (by simp; omega), List.getElem?_eq_none (by omega)]
      rfl
  have e4 : ({ ({ fr with lv := L } : Gr) with lv := (List.range ({ fr with lv := L } : Gr).lv.length).map (fun i => (M[i]?).getD 0) } : Gr) = { fr with lv := M } := by
    show ({ fr with lv := _ } : Gr) = _
    rw [e3]
  rw [e4] at h4
  refine ev_of_awp tysOk mixed (fn := Try.f9) Try.func9 rfl rfl rfl ?_
  conv => whnf
  repeat' (first
    | ((with_reducible refine Split.of_true ?_); conv => whnf)
    | ((with_reducible refine Split.of_false ?_); conv => whnf)
    | ((with_reducible refine Split.neg ?_))
    | ((with_reducible refine Split.is_true ?_ ?_); decide; conv => whnf)
    | ((with_reducible refine Split.is_false ?_ ?_); decide; conv => whnf)
    | ((with_reducible refine Split.nez (fun _ => ?_) (fun _ => ?_)) <;> conv => whnf)
    | ((with_reducible refine Split.eqz (fun _ => ?_) (fun _ => ?_)) <;> conv => whnf)
    | ((with_reducible refine Split.and ?_))
    | ((with_reducible refine Split.or ?_))
    | ((with_reducible refine Split.streq (fun _ => ?_) (fun _ => ?_)) <;> conv => whnf)
    | ((with_reducible refine Split.dec (fun _ => ?_) (fun _ => ?_)) <;> conv => whnf)
    | ((with_reducible refine Split.mk (fun _ => ?_) (fun _ => ?_)) <;> conv => whnf)
    | ((with_reducible refine NilK.mk (fun _ => ?_) ?_) <;> conv => whnf)
    | ((with_reducible refine AltK.l ?_); (conv => whnf); (with_reducible refine Need.mk ?_ ?_); (first | omega | (refine ⟨?_, ?_⟩ <;> simp <;> omega) | (simp; omega)); conv => whnf)
    | ((with_reducible refine Need.mk ?_ ?_); (first | omega | rfl | decide | (refine ⟨?_, ?_⟩ <;> simp <;> omega) | (simp; omega)); conv => whnf)
    | ((with_reducible refine Wr.quo ?_ ?_ ?_ ?_); omega; omega; omega; conv => whnf)
    | ((with_reducible refine Wr.inr ?_ ?_); (first | omega | (simp; omega)); conv => whnf)
    | ((with_reducible refine Wr.inu ?_ ?_); omega; conv => whnf)
    | ((with_reducible refine AltK.l ?_); (conv => whnf); (first | (refine CallK.mk _ (h3) ?_) | (refine CallK.mk _ (h4) ?_)); conv => whnf)
    | (exfalso; first | omega | contradiction))
  all_goals rfl
end Go.Proofs.Try
end

section
/- Openings of views. -/
namespace Go.Proofs.Try
open Go Go.Vm
theorem u8_of {n : Int} (h : (Lit.int .u8 n).wf = true) : 0 ≤ n ∧ n ≤ 255 := by
  simp [Lit.wf, IntKind.min, IntKind.max, IntKind.signed, IntKind.bits] at h
  omega
end Go.Proofs.Try
end
