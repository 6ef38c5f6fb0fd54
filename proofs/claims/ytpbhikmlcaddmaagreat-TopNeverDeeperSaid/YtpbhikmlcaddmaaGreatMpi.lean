/- Texts TpC, joined; what is not needed is left out. -/
import Derived.Test.YtpbhikmlcaddmaaGreatMph
section
namespace Go.Proofs.Tryz
open Go Go.Vm Go.Sort
set_option maxRecDepth 20000
set_option maxHeartbeats 40000000
/-! A survey; TopNeverDeeper. -/
structure Sv where
  gs : List Ga
  rs : List Rw
  fr : Gr
  rad : Int
def svD (v : Sv) : D := .agg [.sl 4 (v.gs.map gD), .sl 7 (v.rs.map rD), iD v.fr.x, iD v.fr.y, iD v.fr.side, iD v.fr.cols, iD v.fr.rows, .sl 1 (v.fr.lv.map iD), iD v.rad]
def fitA (v : Sv) : Bool := decide (v.gs.length ≤ 4) && decide (v.rs.length ≤ 20) && decide (gsErr v.gs = 0) && decide (chkErr rawB Rw.n v.rs = 0) && decide (frErr v.fr = 0) && decide (v.fr.cols * v.fr.rows ≤ 60) && !outsideB v.rad 0 100000
def fitB (v : Sv) : Bool := fitA v && v.gs.all fun g => decide (g.marks.length ≤ 10)
structure Fit (v : Sv) : Prop where
  few : v.rs.length ≤ 20
  gs : gsErr v.gs = 0
  rs : chkErr rawB Rw.n v.rs = 0
  fr : frErr v.fr = 0
  rad : 0 ≤ v.rad ∧ v.rad ≤ 100000
theorem fit_of {v : Sv} (h : fitB v = true) : Fit v := by
  simp [fitB, fitA, outsideB] at h
  exact ⟨by omega, by omega, by omega, by omega, by omega⟩
theorem ev_fit (v : Sv) : Ev Tryz.prog 12 [svD v] (.bool (fitB v)) := by
  obtain ⟨gs, rs, fr, rad⟩ := v
  have hg : (gs.map gD).length = gs.length := List.length_map _
  have hr : (rs.map rD).length = rs.length := List.length_map _
  have h1 := ev_CheckGaugesR gs
  have h2 := ev_CheckRR rs
  have h3 := ev_CheckFrame fr
  have h4 := ev_Within rad 0 100000
  show Ev Tryz.prog 12 [.agg [.sl 4 (gs.map gD), .sl 7 (rs.map rD), iD fr.x, iD fr.y, iD fr.side, iD fr.cols, iD fr.rows, .sl 1 (fr.lv.map iD), iD rad]] (.bool (fitA ⟨gs, rs, fr, rad⟩ && gs.all fun g => decide (g.marks.length ≤ 10)))
  by_cases good : gsErr gs = 0 ∧ chkErr rawB Rw.n rs = 0 ∧ frErr fr = 0
  · obtain ⟨g0, c0, f0⟩ := good
    have hal := (fr_ok f0).all
    rw [g0] at h1
    rw [c0] at h2
    rw [f0] at h3
    have e : fitA ⟨gs, rs, fr, rad⟩ = (decide (gs.length ≤ 4) && decide (rs.length ≤ 20) && decide (fr.cols * fr.rows ≤ 60) && !outsideB rad 0 100000) := by simp [fitA, g0, c0, f0]
    rw [e]
    cases ho : outsideB rad 0 100000 with
    | true =>
      rw [ho] at h4
      simp only [Bool.not_true, Bool.and_false, Bool.false_and]
      refine ev_of_awp tysOk mixed (fn := Tryz.f12) Tryz.func12 rfl rfl rfl ?_
      conv => whnf
      repeat' (first | ((with_reducible refine Split.of_true ?_); conv => whnf) | ((with_reducible refine Split.of_false ?_); conv => whnf) | ((with_reducible refine Split.neg ?_)) | ((with_reducible refine Split.is_true ?_ ?_); decide; conv => whnf) | ((with_reducible refine Split.is_false ?_ ?_); decide; conv => whnf) | ((with_reducible refine Split.nez (fun _ => ?_) (fun _ => ?_)) <;> conv => whnf) | ((with_reducible refine Split.eqz (fun _ => ?_) (fun _ => ?_)) <;> conv => whnf) | ((with_reducible refine Split.and ?_)) | ((with_reducible refine Split.or ?_)) | ((with_reducible refine Split.dec (fun _ => ?_) (fun _ => ?_)) <;> conv => whnf) | ((with_reducible refine Split.mk (fun _ => ?_) (fun _ => ?_)) <;> conv => whnf) | ((with_reducible refine AltK.l ?_); (conv => whnf); (with_reducible refine Need.mk ?_ ?_); (first | omega | (refine ⟨?_, ?_⟩ <;> simp <;> omega) | (simp; omega)); conv => whnf) | ((with_reducible refine Need.mk ?_ ?_); (first | omega | rfl | decide | (refine ⟨?_, ?_⟩ <;> simp <;> omega) | (simp; omega)); conv => whnf) | ((with_reducible refine Wr.inr ?_ ?_); (first | omega | (simp; omega)); conv => whnf) | ((with_reducible refine AltK.l ?_); (conv => whnf); (first | (refine CallK.mk _ (h1) ?_) | (refine CallK.mk _ (h2) ?_) | (refine CallK.mk _ (h3) ?_) | (refine CallK.mk _ (h4) ?_)); conv => whnf) | (exfalso; first | omega | contradiction))
      all_goals rfl
    | false =>
      rw [ho] at h4
      simp only [Bool.not_false, Bool.and_true]
      by_cases hb : gs.length ≤ 4 ∧ rs.length ≤ 20 ∧ fr.cols * fr.rows ≤ 60
      · obtain ⟨b1, b2, b3⟩ := hb
        rw [decide_eq_true b1, decide_eq_true b2, decide_eq_true b3]
        simp only [Bool.and_true, Bool.true_and]
        refine ev_of_awp tysOk mixed (fn := Tryz.f12) Tryz.func12 rfl rfl rfl ?_
        conv => whnf
        repeat' (first | ((with_reducible refine Split.of_true ?_); conv => whnf) | ((with_reducible refine Split.of_false ?_); conv => whnf) | ((with_reducible refine Split.neg ?_)) | ((with_reducible refine Split.is_true ?_ ?_); decide; conv => whnf) | ((with_reducible refine Split.is_false ?_ ?_); decide; conv => whnf) | ((with_reducible refine Split.nez (fun _ => ?_) (fun _ => ?_)) <;> conv => whnf) | ((with_reducible refine Split.eqz (fun _ => ?_) (fun _ => ?_)) <;> conv => whnf) | ((with_reducible refine Split.and ?_)) | ((with_reducible refine Split.or ?_)) | ((with_reducible refine Split.dec (fun _ => ?_) (fun _ => ?_)) <;> conv => whnf) | ((with_reducible refine Split.mk (fun _ => ?_) (fun _ => ?_)) <;> conv => whnf) | ((with_reducible refine AltK.l ?_); (conv => whnf); (with_reducible refine Need.mk ?_ ?_); (first | omega | (refine ⟨?_, ?_⟩ <;> simp <;> omega) | (simp; omega)); conv => whnf) | ((with_reducible refine Need.mk ?_ ?_); (first | omega | rfl | decide | (refine ⟨?_, ?_⟩ <;> simp <;> omega) | (simp; omega)); conv => whnf) | ((with_reducible refine Wr.inr ?_ ?_); (first | omega | (simp; omega)); conv => whnf) | ((with_reducible refine AltK.l ?_); (conv => whnf); (first | (refine CallK.mk _ (h1) ?_) | (refine CallK.mk _ (h2) ?_) | (refine CallK.mk _ (h3) ?_) | (refine CallK.mk _ (h4) ?_)); conv => whnf) | (exfalso; first | omega | contradiction))
        refine LoopK.o2 (fun i : Nat => i ≤ gs.length ∧ ∀ g ∈ gs.take i, decide (g.marks.length ≤ 10) = true) (fun i => [(3, .d (.int .i64 i))]) (fun _ => []) (fun i => gs.length - i) 0 (by simp) (by refine ⟨?_, ?_, rfl⟩ <;> (repeat' (first | exact True.intro | exact rfl | refine ⟨?_, ?_⟩ | (intro h; cases h; done) | (intro h; exact h) | exact map_snoc | (refine own_congr ?_; simp; done) | (refine int_congr ?_; (first | omega | (simp; omega))) | (simp; done)))) ?_
        rintro i ⟨hi, hp⟩
        by_cases hil : i < gs.length
        · obtain ⟨g, hgi⟩ := some_of_lt hil
          have em : (g.marks.map mD).length = g.marks.length := List.length_map _
          conv => whnf
          repeat' (first | ((refine PickE.map i hgi (by omega) ?_); conv => whnf) | ((with_reducible refine Split.of_true ?_); conv => whnf) | ((with_reducible refine Split.of_false ?_); conv => whnf) | ((with_reducible refine Split.neg ?_)) | ((with_reducible refine Split.is_true ?_ ?_); decide; conv => whnf) | ((with_reducible refine Split.is_false ?_ ?_); decide; conv => whnf) | ((with_reducible refine Split.nez (fun _ => ?_) (fun _ => ?_)) <;> conv => whnf) | ((with_reducible refine Split.eqz (fun _ => ?_) (fun _ => ?_)) <;> conv => whnf) | ((with_reducible refine Split.and ?_)) | ((with_reducible refine Split.or ?_)) | ((with_reducible refine Split.dec (fun _ => ?_) (fun _ => ?_)) <;> conv => whnf) | ((with_reducible refine Split.mk (fun _ => ?_) (fun _ => ?_)) <;> conv => whnf) | ((with_reducible refine AltK.l ?_); (conv => whnf); (with_reducible refine Need.mk ?_ ?_); (first | omega | (refine ⟨?_, ?_⟩ <;> simp <;> omega) | (simp; omega)); conv => whnf) | ((with_reducible refine Need.mk ?_ ?_); (first | omega | rfl | decide | (refine ⟨?_, ?_⟩ <;> simp <;> omega) | (simp; omega)); conv => whnf) | ((with_reducible refine Wr.inr ?_ ?_); (first | omega | (simp; omega)); conv => whnf) | (exfalso; first | omega | contradiction))
          · have : (gs.all fun g => decide (g.marks.length ≤ 10)) = false := by
              rw [List.all_eq_false]
              exact ⟨g, List.mem_of_getElem? hgi, by simp; omega⟩
            rw [this]; rfl
          · refine Again.au (i + 1) ⟨by omega, fun x hx => ?_⟩ (by omega) (by refine ⟨?_, ?_, rfl⟩ <;> (repeat' (first | exact True.intro | exact rfl | refine ⟨?_, ?_⟩ | (intro h; cases h; done) | (intro h; exact h) | exact map_snoc | (refine own_congr ?_; simp; done) | (refine int_congr ?_; (first | omega | (simp; omega))) | (simp; done))))
            rw [take_snoc hgi] at hx
            rcases List.mem_append.1 hx with hx | hx
            · exact hp x hx
            · rw [List.mem_singleton.1 hx]; simp; omega
        · rw [List.take_of_length_le (by omega)] at hp
          rw [List.all_eq_true.2 hp]
          conv => whnf
          repeat' (first | ((with_reducible refine Split.of_true ?_); conv => whnf) | ((with_reducible refine Split.of_false ?_); conv => whnf) | ((with_reducible refine Split.neg ?_)) | ((with_reducible refine Split.is_true ?_ ?_); decide; conv => whnf) | ((with_reducible refine Split.is_false ?_ ?_); decide; conv => whnf) | ((with_reducible refine Split.nez (fun _ => ?_) (fun _ => ?_)) <;> conv => whnf) | ((with_reducible refine Split.eqz (fun _ => ?_) (fun _ => ?_)) <;> conv => whnf) | ((with_reducible refine Split.and ?_)) | ((with_reducible refine Split.or ?_)) | ((with_reducible refine Split.dec (fun _ => ?_) (fun _ => ?_)) <;> conv => whnf) | ((with_reducible refine Split.mk (fun _ => ?_) (fun _ => ?_)) <;> conv => whnf) | ((with_reducible refine AltK.l ?_); (conv => whnf); (with_reducible refine Need.mk ?_ ?_); (first | omega | (refine ⟨?_, ?_⟩ <;> simp <;> omega) | (simp; omega)); conv => whnf) | ((with_reducible refine Need.mk ?_ ?_); (first | omega | rfl | decide | (refine ⟨?_, ?_⟩ <;> simp <;> omega) | (simp; omega)); conv => whnf) | ((with_reducible refine Wr.inr ?_ ?_); (first | omega | (simp; omega)); conv => whnf) | (exfalso; first | omega | contradiction))
          rfl
      · have : (decide (gs.length ≤ 4) && decide (rs.length ≤ 20) && decide (fr.cols * fr.rows ≤ 60)) = false := by
          simp only [Bool.and_eq_false_iff, decide_eq_false_iff_not]; omega
        rw [this, Bool.false_and]
        refine ev_of_awp tysOk mixed (fn := Tryz.f12) Tryz.func12 rfl rfl rfl ?_
        conv => whnf
        repeat' (first | ((with_reducible refine Split.of_true ?_); conv => whnf) | ((with_reducible refine Split.of_false ?_); conv => whnf) | ((with_reducible refine Split.neg ?_)) | ((with_reducible refine Split.is_true ?_ ?_); decide; conv => whnf) | ((with_reducible refine Split.is_false ?_ ?_); decide; conv => whnf) | ((with_reducible refine Split.nez (fun _ => ?_) (fun _ => ?_)) <;> conv => whnf) | ((with_reducible refine Split.eqz (fun _ => ?_) (fun _ => ?_)) <;> conv => whnf) | ((with_reducible refine Split.and ?_)) | ((with_reducible refine Split.or ?_)) | ((with_reducible refine Split.dec (fun _ => ?_) (fun _ => ?_)) <;> conv => whnf) | ((with_reducible refine Split.mk (fun _ => ?_) (fun _ => ?_)) <;> conv => whnf) | ((with_reducible refine AltK.l ?_); (conv => whnf); (with_reducible refine Need.mk ?_ ?_); (first | omega | (refine ⟨?_, ?_⟩ <;> simp <;> omega) | (simp; omega)); conv => whnf) | ((with_reducible refine Need.mk ?_ ?_); (first | omega | rfl | decide | (refine ⟨?_, ?_⟩ <;> simp <;> omega) | (simp; omega)); conv => whnf) | ((with_reducible refine Wr.inr ?_ ?_); (first | omega | (simp; omega)); conv => whnf) | ((with_reducible refine AltK.l ?_); (conv => whnf); (first | (refine CallK.mk _ (h1) ?_) | (refine CallK.mk _ (h2) ?_) | (refine CallK.mk _ (h3) ?_) | (refine CallK.mk _ (h4) ?_)); conv => whnf) | (exfalso; first | omega | contradiction))
        all_goals first | rfl | (exfalso; omega)
  · have : fitA ⟨gs, rs, fr, rad⟩ = false := by
      simp only [fitA, Bool.and_eq_false_iff, decide_eq_false_iff_not, Bool.not_eq_false']; omega
    rw [this, Bool.false_and]
    refine ev_of_awp tysOk mixed (fn := Tryz.f12) Tryz.func12 rfl rfl rfl ?_
    conv => whnf
    repeat' (first | ((with_reducible refine Split.of_true ?_); conv => whnf) | ((with_reducible refine Split.of_false ?_); conv => whnf) | ((with_reducible refine Split.neg ?_)) | ((with_reducible refine Split.is_true ?_ ?_); decide; conv => whnf) | ((with_reducible refine Split.is_false ?_ ?_); decide; conv => whnf) | ((with_reducible refine Split.nez (fun _ => ?_) (fun _ => ?_)) <;> conv => whnf) | ((with_reducible refine Split.eqz (fun _ => ?_) (fun _ => ?_)) <;> conv => whnf) | ((with_reducible refine Split.and ?_)) | ((with_reducible refine Split.or ?_)) | ((with_reducible refine Split.dec (fun _ => ?_) (fun _ => ?_)) <;> conv => whnf) | ((with_reducible refine Split.mk (fun _ => ?_) (fun _ => ?_)) <;> conv => whnf) | ((with_reducible refine AltK.l ?_); (conv => whnf); (with_reducible refine Need.mk ?_ ?_); (first | omega | (refine ⟨?_, ?_⟩ <;> simp <;> omega) | (simp; omega)); conv => whnf) | ((with_reducible refine Need.mk ?_ ?_); (first | omega | rfl | decide | (refine ⟨?_, ?_⟩ <;> simp <;> omega) | (simp; omega)); conv => whnf) | ((with_reducible refine Wr.inr ?_ ?_); (first | omega | (simp; omega)); conv => whnf) | ((with_reducible refine AltK.l ?_); (conv => whnf); (first | (refine CallK.mk _ (h1) ?_) | (refine CallK.mk _ (h2) ?_) | (refine CallK.mk _ (h3) ?_) | (refine CallK.mk _ (h4) ?_)); conv => whnf) | (exfalso; first | omega | contradiction))
    all_goals first | rfl | (exfalso; omega)
def fdB (M : List Sg) (tr x y r : Int) : Bool := M.any fun k => decide (k.hi ≥ tr) && decide (sqS k x y ≤ r * r)
theorem fd_snoc {M : List Sg} {tr x y r : Int} {j : Nat} {k : Sg} (h : M[j]? = some k) : fdB (M.take (j + 1)) tr x y r = (fdB (M.take j) tr x y r || (decide (k.hi ≥ tr) && decide (sqS k x y ≤ r * r))) := by
  rw [fdB, take_snoc h, List.any_append]; simp [fdB]
theorem cell_lv {g : Gr} {l : List Sg} {s : Sg} (hF : FrOk g) (hb : badS g hiV l = false) (hs : s ∈ l) (hc : 0 ≤ cellI g s) : ∃ L, (levS g hiV l)[(cellI g s).toNat]? = some L ∧ L ≠ 30000 ∧ s.hi ≤ L ∧ (cellI g s).toNat < cellsN g := by
  have hin := cell_in hF (show cellI g s ≠ -1 by omega)
  have hi : (cellI g s).toNat < cellsN g := by unfold cellsN; omega
  have hK := cell_ok hb hi
  refine ⟨_, lev_get hi, ?_, hK.top s hs (by omega), hi⟩
  have h1 := hK.yes
  intro he
  rw [he] at h1
  have hb2 : badO (maxO g hiV l ((cellI g s).toNat : Int)) = false := by
    rw [badS, List.any_eq_false] at hb
    have := hb _ (List.mem_range.2 hi)
    simpa using this
  cases hm : maxO g hiV l ((cellI g s).toNat : Int) with
  | none => exact mx_none hm s hs (by omega)
  | some x =>
    rw [hm] at hb2 he
    have hx : x = 30000 := he
    subst hx
    have : outsideB 30000 (-20000) 20000 = true := by decide
    rw [badO, this] at hb2; cases hb2
theorem nd_out (v : Sv) (wa : List Int) (hf : fitB v = true) (hy : badS v.fr hiV (outS v.gs v.rs) = true) : Ev Tryz.prog 4 [svD v, .sl 1 (wa.map iD)] (.bool true) := by
  have h0 := ev_fit v
  have h7 := ev_three
  have hwl : (wa.map iD).length = wa.length := List.length_map _
  rw [hf] at h0
  obtain ⟨few, g0, c0, f0, hrad⟩ := fit_of hf
  clear hf
  obtain ⟨gs, rs, fr, rad⟩ := v
  dsimp only at few g0 c0 f0 hrad hy
  replace h0 : Ev Tryz.prog 12 [.agg [.sl 4 (gs.map gD), .sl 7 (rs.map rD), iD fr.x, iD fr.y, iD fr.side, iD fr.cols, iD fr.rows, .sl 1 (fr.lv.map iD), iD rad]] (.bool true) := h0
  show Ev Tryz.prog 4 [.agg [.sl 4 (gs.map gD), .sl 7 (rs.map rD), iD fr.x, iD fr.y, iD fr.side, iD fr.cols, iD fr.rows, .sl 1 (fr.lv.map iD), iD rad], .sl 1 (wa.map iD)] (.bool true)
  have hgl : (gs.map gD).length = gs.length := List.length_map _
  have hrl : (rs.map rD).length = rs.length := List.length_map _
  have hF := fr_ok f0
  have hal := hF.all
  have hG := goodAll g0
  obtain ⟨_, hrall, hru⟩ := chk_zero c0
  have h1 := ev_ReduceAll gs rs
  rw [raE, if_neg (by simpa using c0), if_neg (by simpa using g0)] at h1
  have hA := red_chk c0 g0
  have hsum := out_dry gs rs
  have hraw := fun s => out_raw (g := gs) (l := rs) (s := s)
  have hdl : ((dryS gs rs).map iD).length = (dryS gs rs).length := List.length_map _
  replace h1 : Ev Tryz.prog 13 [.sl 4 (gs.map gD), .sl 7 (rs.map rD)] (.tup [.sl 5 ((outS gs rs).map sgD), .sl 1 ((dryS gs rs).map iD), iD 0]) := h1
  generalize outS gs rs = A at *
  generalize dryS gs rs = B at *
  have hAl : (A.map sgD).length = A.length := List.length_map _
  have hB := ev_BinS A fr
  rw [bin_ok hA f0, hy, if_pos rfl] at hB
  replace hB : Ev Tryz.prog 11 [.sl 5 (A.map sgD), grD fr] (.tup [grD gr0, iD 2]) := hB
  have r0 : radB rad = 0 := by
    have : outsideB rad 0 2000000 = false := by simp [outsideB]; omega
    rw [radB, this]; rfl
  have hS := shoal hA r0
  have h3 := ev_Thin A rad
  obtain ⟨n1, n2⟩ := thin_len' A rad
  have h4 := ev_Keep A (thinRes A rad).1 (thinRes A rad).2.1 (by omega)
  rw [hS.keep] at h4
  have hk5 := keep_len A (thinRes A rad).1
  have hnear := hS.near
  have e3 := hS.e
  obtain ⟨hl5, hall, hu⟩ := chk_zero hA
  generalize thinRes A rad = q at *
  obtain ⟨q1, q2, q3⟩ := q
  dsimp only at *
  subst e3
  have hpk : ∀ s ∈ keepS A q1, s ∈ A := fun s hs => (List.mem_filter.1 hs).1
  generalize keepS A q1 = M at *
  have hM : (M.map sgD).length = M.length := List.length_map _
  have hkp : ∀ s ∈ M, -1000000 ≤ s.x ∧ s.x ≤ 1000000 ∧ -1000000 ≤ s.y ∧ s.y ≤ 1000000 := fun s hs => sg_place (hall s (hpk s hs))
  have hrr := mul_bd (x := rad) (y := rad) (X := 100000) (Y := 100000) (by omega) (by omega)
  replace h3 : Ev Tryz.prog 9 [.sl 5 (A.map sgD), iD rad] (.tup [thD q1 q2, iD 0]) := h3
  replace h4 : Ev Tryz.prog 10 [.sl 5 (A.map sgD), thD q1 q2] (.tup [.sl 5 (M.map sgD), iD 0]) := h4
  refine ev_of_awp tysOk mixed (fn := Tryz.f4) Tryz.func4 rfl rfl rfl ?_
  conv => whnf
  repeat' (first | ((with_reducible refine Split.of_true ?_); conv => whnf) | ((with_reducible refine Split.of_false ?_); conv => whnf) | ((with_reducible refine Split.neg ?_)) | ((with_reducible refine Split.is_true ?_ ?_); decide; conv => whnf) | ((with_reducible refine Split.is_false ?_ ?_); decide; conv => whnf) | ((with_reducible refine Split.nez (fun _ => ?_) (fun _ => ?_)) <;> conv => whnf) | ((with_reducible refine Split.eqz (fun _ => ?_) (fun _ => ?_)) <;> conv => whnf) | ((with_reducible refine Split.and ?_)) | ((with_reducible refine Split.or ?_)) | ((with_reducible refine Split.dec (fun _ => ?_) (fun _ => ?_)) <;> conv => whnf) | ((with_reducible refine Split.mk (fun _ => ?_) (fun _ => ?_)) <;> conv => whnf) | ((with_reducible refine AltK.l ?_); (conv => whnf); (with_reducible refine Need.mk ?_ ?_); (first | omega | (refine ⟨?_, ?_⟩ <;> simp <;> omega) | (simp; omega)); conv => whnf) | ((with_reducible refine Need.mk ?_ ?_); (first | omega | rfl | decide | (refine ⟨?_, ?_⟩ <;> simp <;> omega) | (simp; omega)); conv => whnf) | ((with_reducible refine Wr.inr ?_ ?_); (first | omega | (simp; omega)); conv => whnf) | ((with_reducible refine AltK.l ?_); (conv => whnf); (first | (refine CallK.mk _ (h0) ?_) | (refine CallK.mk _ (h7) ?_) | (refine CallK.mk _ (h1) ?_) | (refine CallK.mk _ (h3) ?_) | (refine CallK.mk _ (h4) ?_) | (refine CallK.mk _ (hB) ?_)); conv => whnf) | (exfalso; first | omega | contradiction))
  · rfl
  refine LoopK.o2 (fun k : Nat => k ≤ A.length) (fun k => [(14, .d (.int .i64 k))]) (fun _ => []) (fun k => A.length - k) 0 (by simp) (by refine ⟨?_, ?_, rfl⟩ <;> (repeat' (first | exact True.intro | exact rfl | refine ⟨?_, ?_⟩ | (intro h; cases h; done) | (intro h; exact h) | exact map_snoc | (refine own_congr ?_; simp; done) | (refine int_congr ?_; (first | omega | (simp; omega))) | (simp; done)))) ?_
  rintro k hk
  by_cases hkA : k < A.length
  · obtain ⟨s, hs⟩ := some_of_lt hkA
    have hsA := List.mem_of_getElem? hs
    obtain ⟨r, hr, hok, hse⟩ := hraw s hsA
    obtain ⟨J, hJ⟩ := List.getElem?_of_mem hr
    have hJl := lt_of_some hJ
    have hrg := raw_good.1 (hrall r hr)
    have hL := ev_LevelR hG hrg.x hrg.mi
    have hle := lv_le (x := r.x) (t := r.mi) hG
    have hti := lv_tight (x := r.x) (t := r.mi) hG
    obtain ⟨nk, hnk1, hnk2⟩ : ∃ n : Int, (k < wa.length → wa[k]? = some n) ∧ (¬ k < wa.length → n = 0) := by
      by_cases h : k < wa.length
      · obtain ⟨n, hn⟩ := some_of_lt h
        exact ⟨n, fun _ => hn, fun h' => absurd h h'⟩
      · exact ⟨0, fun h' => absurd h' h, fun _ => rfl⟩
    have hsn : s.n = r.n := by rw [hse]; rfl
    have hsx : s.x = r.x := by rw [hse]; rfl
    have hsy : s.y = r.y := by rw [hse]; rfl
    have hsh : s.hi = (lvS gs r.x r.mi).2.1 - (r.dr + r.d) + r.e := by rw [hse]; rfl
    have hok' : (lvS gs r.x r.mi).2.2 = true := hok
    have hC := ev_Cell fr r.x r.y hF (by have := hrg.x; have := hrg.y; omega)
    rw [show cellI fr ⟨0, r.x, r.y, 0, 0⟩ = cellI fr s by rw [← hsx, ← hsy]; rfl] at hC
    have hnr := hnear s hsA
    have hrx := hrg.x
    have hry := hrg.y
    have hrd := hrg.d
    have hrdr := hrg.dr
    have hre := hrg.e
    clear hok hse hraw hnear
    generalize lvS gs r.x r.mi = w at *
    obtain ⟨lo, hi, ok⟩ := w
    dsimp only at hle hti hsh hok'
    subst hok'
    replace hL : Ev Tryz.prog 14 [.sl 4 (gs.map gD), .int .i64 r.x, .int .i64 r.mi] (.tup [ivD lo hi, .bool true]) := hL
    have hm := ev_ModB nk (hi - lo + 1) (by omega)
    have z1 := Int.emod_nonneg nk (show hi - lo + 1 ≠ 0 by omega)
    have z2 := Int.emod_lt_of_pos nk (show 0 < hi - lo + 1 by omega)
    generalize nk % (hi - lo + 1) = z at *
    generalize cellI fr s = c at *
    conv => whnf
    repeat' (first | ((with_reducible refine Split.of_true ?_); conv => whnf) | ((with_reducible refine Split.of_false ?_); conv => whnf) | ((with_reducible refine Split.neg ?_)) | ((with_reducible refine Split.is_true ?_ ?_); decide; conv => whnf) | ((with_reducible refine Split.is_false ?_ ?_); decide; conv => whnf) | ((with_reducible refine Split.nez (fun _ => ?_) (fun _ => ?_)) <;> conv => whnf) | ((with_reducible refine Split.eqz (fun _ => ?_) (fun _ => ?_)) <;> conv => whnf) | ((with_reducible refine Split.and ?_)) | ((with_reducible refine Split.or ?_)) | ((with_reducible refine Split.dec (fun _ => ?_) (fun _ => ?_)) <;> conv => whnf) | ((with_reducible refine Split.mk (fun _ => ?_) (fun _ => ?_)) <;> conv => whnf) | ((with_reducible refine AltK.l ?_); (conv => whnf); (with_reducible refine Need.mk ?_ ?_); (first | omega | (refine ⟨?_, ?_⟩ <;> simp <;> omega) | (simp; omega)); conv => whnf) | ((with_reducible refine Need.mk ?_ ?_); (first | omega | rfl | decide | (refine ⟨?_, ?_⟩ <;> simp <;> omega) | (simp; omega)); conv => whnf) | ((with_reducible refine Wr.inr ?_ ?_); (first | omega | (simp; omega)); conv => whnf) | (exfalso; first | omega | contradiction))
    refine LoopK.o2 (fun a : Nat => a ≤ J) (fun a => [(15, .d (.int .i64 a))]) (fun _ => []) (fun a => J - a) 0 (by simp) (by refine ⟨?_, ?_, rfl⟩ <;> (repeat' (first | exact True.intro | exact rfl | refine ⟨?_, ?_⟩ | (intro h; cases h; done) | (intro h; exact h) | exact map_snoc | (refine own_congr ?_; simp; done) | (refine int_congr ?_; (first | omega | (simp; omega))) | (simp; done)))) ?_
    rintro a ha
    by_cases haJ : a = J
    · subst haJ
      by_cases hkw : k < wa.length
      · as_aux_lemma =>
          have hnk1 := hnk1 hkw
          conv => whnf
          repeat' (first | ((refine PickE.map k hnk1 (by omega) ?_); conv => whnf) | ((refine PickE.map k hs (by omega) ?_); conv => whnf) | ((refine PickE.map a hJ (by omega) ?_); conv => whnf) | ((with_reducible refine Split.of_true ?_); conv => whnf) | ((with_reducible refine Split.of_false ?_); conv => whnf) | ((with_reducible refine Split.neg ?_)) | ((with_reducible refine Split.is_true ?_ ?_); decide; conv => whnf) | ((with_reducible refine Split.is_false ?_ ?_); decide; conv => whnf) | ((with_reducible refine Split.nez (fun _ => ?_) (fun _ => ?_)) <;> conv => whnf) | ((with_reducible refine Split.eqz (fun _ => ?_) (fun _ => ?_)) <;> conv => whnf) | ((with_reducible refine Split.and ?_)) | ((with_reducible refine Split.or ?_)) | ((with_reducible refine Split.dec (fun _ => ?_) (fun _ => ?_)) <;> conv => whnf) | ((with_reducible refine Split.mk (fun _ => ?_) (fun _ => ?_)) <;> conv => whnf) | ((with_reducible refine AltK.l ?_); (conv => whnf); (with_reducible refine Need.mk ?_ ?_); (first | omega | (refine ⟨?_, ?_⟩ <;> simp <;> omega) | (simp; omega)); conv => whnf) | ((with_reducible refine Need.mk ?_ ?_); (first | omega | rfl | decide | (refine ⟨?_, ?_⟩ <;> simp <;> omega) | (simp; omega)); conv => whnf) | ((with_reducible refine Wr.inr ?_ ?_); (first | omega | (simp; omega)); conv => whnf) | ((with_reducible refine AltK.l ?_); (conv => whnf); (first | (refine CallK.mk _ (hL) ?_) | (refine CallK.mk _ (hm) ?_) | (refine CallK.mk _ (hC) ?_)); conv => whnf) | (exfalso; first | omega | contradiction))
          have htr : lo + z - r.dr - r.d + r.e ≤ s.hi := by omega
          have htb : -200000 ≤ lo + z - r.dr - r.d + r.e ∧ lo + z - r.dr - r.d + r.e ≤ 200000 := by omega
          generalize lo + z - r.dr - r.d + r.e = tr at *
          refine LoopK.o2 (fun j : Nat => j ≤ M.length) (fun j => [(22, .d (.bool (fdB (M.take j) tr r.x r.y rad))), (23, .d (.int .i64 j))]) (fun _ => []) (fun j => M.length - j) 0 (by simp) (by refine ⟨?_, ?_, rfl⟩ <;> (repeat' (first | exact True.intro | exact rfl | refine ⟨?_, ?_⟩ | (intro h; cases h; done) | (intro h; exact h) | exact map_snoc | (refine own_congr ?_; simp; done) | (refine int_congr ?_; (first | omega | (simp; omega))) | (simp; done) | ((first | refine own_congr ?_ | refine int_congr ?_ | skip); simp [fdB]; done) | ((first | refine own_congr ?_ | refine int_congr ?_); simp [fdB]; omega) | (show @Eq (List Go.Vm.D) _ []; simp [fdB]; done) | (simp [D.cells, fdB]; done)))) ?_
          rintro j hj
          by_cases hjM : j < M.length
          · obtain ⟨t, ht⟩ := some_of_lt hjM
            have hq := ev_Square t.x t.y r.x r.y (hkp t (List.mem_of_getElem? ht)) (by omega)
            rw [show (t.x - r.x) * (t.x - r.x) + (t.y - r.y) * (t.y - r.y) = sqS t r.x r.y from rfl] at hq
            have s2 := fd_snoc (tr := tr) (x := r.x) (y := r.y) (r := rad) ht
            cases hv : fdB (M.take j) tr r.x r.y rad with
            | true =>
              rw [hv, Bool.true_or] at s2
              have hmp1 : AV.d (D.bool true) = AV.d (D.bool (fdB (M.take (j + 1)) tr r.x r.y rad)) := by rw [s2]
              conv => whnf
              repeat' (first | ((refine PickE.map j ht (by omega) ?_); conv => whnf) | ((with_reducible refine Split.of_true ?_); conv => whnf) | ((with_reducible refine Split.of_false ?_); conv => whnf) | ((with_reducible refine Split.neg ?_)) | ((with_reducible refine Split.is_true ?_ ?_); decide; conv => whnf) | ((with_reducible refine Split.is_false ?_ ?_); decide; conv => whnf) | ((with_reducible refine Split.nez (fun _ => ?_) (fun _ => ?_)) <;> conv => whnf) | ((with_reducible refine Split.eqz (fun _ => ?_) (fun _ => ?_)) <;> conv => whnf) | ((with_reducible refine Split.and ?_)) | ((with_reducible refine Split.or ?_)) | ((with_reducible refine Split.dec (fun _ => ?_) (fun _ => ?_)) <;> conv => whnf) | ((with_reducible refine Split.mk (fun _ => ?_) (fun _ => ?_)) <;> conv => whnf) | ((with_reducible refine AltK.l ?_); (conv => whnf); (with_reducible refine Need.mk ?_ ?_); (first | omega | (refine ⟨?_, ?_⟩ <;> simp <;> omega) | (simp; omega)); conv => whnf) | ((with_reducible refine Need.mk ?_ ?_); (first | omega | rfl | decide | (refine ⟨?_, ?_⟩ <;> simp <;> omega) | (simp; omega)); conv => whnf) | ((with_reducible refine Wr.inr ?_ ?_); (first | omega | (simp; omega)); conv => whnf) | ((with_reducible refine AltK.l ?_); (conv => whnf); (first | (refine CallK.mk _ (hq) ?_)); conv => whnf) | (exfalso; first | omega | contradiction))
              all_goals exact Again.au (j + 1) (by omega) (by omega) (by refine ⟨?_, ?_, rfl⟩ <;> (repeat' (first | exact True.intro | exact rfl | refine ⟨?_, ?_⟩ | (intro h; cases h; done) | (intro h; exact h) | exact map_snoc | (refine own_congr ?_; simp; done) | (refine int_congr ?_; (first | omega | (simp; omega))) | (simp; done) | exact hmp1 | ((first | refine own_congr ?_ | refine int_congr ?_ | skip); simp [D.cells]; done) | ((first | refine own_congr ?_ | refine int_congr ?_); simp [D.cells]; omega) | (show @Eq (List Go.Vm.D) _ []; simp [D.cells]; done) | (simp [D.cells, D.cells]; done))))
            | false =>
              rw [hv, Bool.false_or] at s2
              by_cases htr : t.hi ≥ tr
              · rw [decide_eq_true htr, Bool.true_and] at s2
                have hmp1 : AV.d (D.bool (decide (sqS t r.x r.y ≤ rad * rad))) = AV.d (D.bool (fdB (M.take (j + 1)) tr r.x r.y rad)) := by rw [s2]
                conv => whnf
                repeat' (first | ((refine PickE.map j ht (by omega) ?_); conv => whnf) | ((with_reducible refine Split.of_true ?_); conv => whnf) | ((with_reducible refine Split.of_false ?_); conv => whnf) | ((with_reducible refine Split.neg ?_)) | ((with_reducible refine Split.is_true ?_ ?_); decide; conv => whnf) | ((with_reducible refine Split.is_false ?_ ?_); decide; conv => whnf) | ((with_reducible refine Split.nez (fun _ => ?_) (fun _ => ?_)) <;> conv => whnf) | ((with_reducible refine Split.eqz (fun _ => ?_) (fun _ => ?_)) <;> conv => whnf) | ((with_reducible refine Split.and ?_)) | ((with_reducible refine Split.or ?_)) | ((with_reducible refine Split.dec (fun _ => ?_) (fun _ => ?_)) <;> conv => whnf) | ((with_reducible refine Split.mk (fun _ => ?_) (fun _ => ?_)) <;> conv => whnf) | ((with_reducible refine AltK.l ?_); (conv => whnf); (with_reducible refine Need.mk ?_ ?_); (first | omega | (refine ⟨?_, ?_⟩ <;> simp <;> omega) | (simp; omega)); conv => whnf) | ((with_reducible refine Need.mk ?_ ?_); (first | omega | rfl | decide | (refine ⟨?_, ?_⟩ <;> simp <;> omega) | (simp; omega)); conv => whnf) | ((with_reducible refine Wr.inr ?_ ?_); (first | omega | (simp; omega)); conv => whnf) | ((with_reducible refine AltK.l ?_); (conv => whnf); (first | (refine CallK.mk _ (hq) ?_)); conv => whnf) | (exfalso; first | omega | contradiction))
                all_goals exact Again.au (j + 1) (by omega) (by omega) (by refine ⟨?_, ?_, rfl⟩ <;> (repeat' (first | exact True.intro | exact rfl | refine ⟨?_, ?_⟩ | (intro h; cases h; done) | (intro h; exact h) | exact map_snoc | (refine own_congr ?_; simp; done) | (refine int_congr ?_; (first | omega | (simp; omega))) | (simp; done) | exact hmp1 | ((first | refine own_congr ?_ | refine int_congr ?_ | skip); simp [D.cells]; done) | ((first | refine own_congr ?_ | refine int_congr ?_); simp [D.cells]; omega) | (show @Eq (List Go.Vm.D) _ []; simp [D.cells]; done) | (simp [D.cells, D.cells]; done))))
              · rw [decide_eq_false htr, Bool.false_and] at s2
                have hmp1 : AV.d (D.bool false) = AV.d (D.bool (fdB (M.take (j + 1)) tr r.x r.y rad)) := by rw [s2]
                conv => whnf
                repeat' (first | ((refine PickE.map j ht (by omega) ?_); conv => whnf) | ((with_reducible refine Split.of_true ?_); conv => whnf) | ((with_reducible refine Split.of_false ?_); conv => whnf) | ((with_reducible refine Split.neg ?_)) | ((with_reducible refine Split.is_true ?_ ?_); decide; conv => whnf) | ((with_reducible refine Split.is_false ?_ ?_); decide; conv => whnf) | ((with_reducible refine Split.nez (fun _ => ?_) (fun _ => ?_)) <;> conv => whnf) | ((with_reducible refine Split.eqz (fun _ => ?_) (fun _ => ?_)) <;> conv => whnf) | ((with_reducible refine Split.and ?_)) | ((with_reducible refine Split.or ?_)) | ((with_reducible refine Split.dec (fun _ => ?_) (fun _ => ?_)) <;> conv => whnf) | ((with_reducible refine Split.mk (fun _ => ?_) (fun _ => ?_)) <;> conv => whnf) | ((with_reducible refine AltK.l ?_); (conv => whnf); (with_reducible refine Need.mk ?_ ?_); (first | omega | (refine ⟨?_, ?_⟩ <;> simp <;> omega) | (simp; omega)); conv => whnf) | ((with_reducible refine Need.mk ?_ ?_); (first | omega | rfl | decide | (refine ⟨?_, ?_⟩ <;> simp <;> omega) | (simp; omega)); conv => whnf) | ((with_reducible refine Wr.inr ?_ ?_); (first | omega | (simp; omega)); conv => whnf) | ((with_reducible refine AltK.l ?_); (conv => whnf); (first | (refine CallK.mk _ (hq) ?_)); conv => whnf) | (exfalso; first | omega | contradiction))
                all_goals exact Again.au (j + 1) (by omega) (by omega) (by refine ⟨?_, ?_, rfl⟩ <;> (repeat' (first | exact True.intro | exact rfl | refine ⟨?_, ?_⟩ | (intro h; cases h; done) | (intro h; exact h) | exact map_snoc | (refine own_congr ?_; simp; done) | (refine int_congr ?_; (first | omega | (simp; omega))) | (simp; done) | exact hmp1 | ((first | refine own_congr ?_ | refine int_congr ?_ | skip); simp [D.cells]; done) | ((first | refine own_congr ?_ | refine int_congr ?_); simp [D.cells]; omega) | (show @Eq (List Go.Vm.D) _ []; simp [D.cells]; done) | (simp [D.cells, D.cells]; done))))
          · have hfd : fdB M tr r.x r.y rad = true := by
              obtain ⟨t, ht, t1, t2⟩ := hnr
              rw [hsx, hsy] at t2
              exact List.any_eq_true.2 ⟨t, ht, by simp; omega⟩
            have hfd2 : fdB (M.take j) tr r.x r.y rad = true := by rw [List.take_of_length_le (by omega)]; exact hfd
            conv => whnf
            repeat' (first | ((refine Split.is_true hfd2 ?_); conv => whnf) | ((with_reducible refine Split.of_true ?_); conv => whnf) | ((with_reducible refine Split.of_false ?_); conv => whnf) | ((with_reducible refine Split.neg ?_)) | ((with_reducible refine Split.is_true ?_ ?_); decide; conv => whnf) | ((with_reducible refine Split.is_false ?_ ?_); decide; conv => whnf) | ((with_reducible refine Split.nez (fun _ => ?_) (fun _ => ?_)) <;> conv => whnf) | ((with_reducible refine Split.eqz (fun _ => ?_) (fun _ => ?_)) <;> conv => whnf) | ((with_reducible refine Split.and ?_)) | ((with_reducible refine Split.or ?_)) | ((with_reducible refine Split.dec (fun _ => ?_) (fun _ => ?_)) <;> conv => whnf) | ((with_reducible refine Split.mk (fun _ => ?_) (fun _ => ?_)) <;> conv => whnf) | ((with_reducible refine AltK.l ?_); (conv => whnf); (with_reducible refine Need.mk ?_ ?_); (first | omega | (refine ⟨?_, ?_⟩ <;> simp <;> omega) | (simp; omega)); conv => whnf) | ((with_reducible refine Need.mk ?_ ?_); (first | omega | rfl | decide | (refine ⟨?_, ?_⟩ <;> simp <;> omega) | (simp; omega)); conv => whnf) | ((with_reducible refine Wr.inr ?_ ?_); (first | omega | (simp; omega)); conv => whnf) | (exfalso; first | omega | contradiction))
            exact Again.au (k + 1) (by omega) (by omega) (by refine ⟨?_, ?_, rfl⟩ <;> (repeat' (first | exact True.intro | exact rfl | refine ⟨?_, ?_⟩ | (intro h; cases h; done) | (intro h; exact h) | exact map_snoc | (refine own_congr ?_; simp; done) | (refine int_congr ?_; (first | omega | (simp; omega))) | (simp; done))))
      · as_aux_lemma =>
          have hnk2 := hnk2 hkw
          subst hnk2
          conv => whnf
          repeat' (first | ((refine PickE.map k hs (by omega) ?_); conv => whnf) | ((refine PickE.map a hJ (by omega) ?_); conv => whnf) | ((with_reducible refine Split.of_true ?_); conv => whnf) | ((with_reducible refine Split.of_false ?_); conv => whnf) | ((with_reducible refine Split.neg ?_)) | ((with_reducible refine Split.is_true ?_ ?_); decide; conv => whnf) | ((with_reducible refine Split.is_false ?_ ?_); decide; conv => whnf) | ((with_reducible refine Split.nez (fun _ => ?_) (fun _ => ?_)) <;> conv => whnf) | ((with_reducible refine Split.eqz (fun _ => ?_) (fun _ => ?_)) <;> conv => whnf) | ((with_reducible refine Split.and ?_)) | ((with_reducible refine Split.or ?_)) | ((with_reducible refine Split.dec (fun _ => ?_) (fun _ => ?_)) <;> conv => whnf) | ((with_reducible refine Split.mk (fun _ => ?_) (fun _ => ?_)) <;> conv => whnf) | ((with_reducible refine AltK.l ?_); (conv => whnf); (with_reducible refine Need.mk ?_ ?_); (first | omega | (refine ⟨?_, ?_⟩ <;> simp <;> omega) | (simp; omega)); conv => whnf) | ((with_reducible refine Need.mk ?_ ?_); (first | omega | rfl | decide | (refine ⟨?_, ?_⟩ <;> simp <;> omega) | (simp; omega)); conv => whnf) | ((with_reducible refine Wr.inr ?_ ?_); (first | omega | (simp; omega)); conv => whnf) | ((with_reducible refine AltK.l ?_); (conv => whnf); (first | (refine CallK.mk _ (hL) ?_) | (refine CallK.mk _ (hm) ?_) | (refine CallK.mk _ (hC) ?_)); conv => whnf) | (exfalso; first | omega | contradiction))
          have htr : lo + z - r.dr - r.d + r.e ≤ s.hi := by omega
          have htb : -200000 ≤ lo + z - r.dr - r.d + r.e ∧ lo + z - r.dr - r.d + r.e ≤ 200000 := by omega
          generalize lo + z - r.dr - r.d + r.e = tr at *
          refine LoopK.o2 (fun j : Nat => j ≤ M.length) (fun j => [(22, .d (.bool (fdB (M.take j) tr r.x r.y rad))), (23, .d (.int .i64 j))]) (fun _ => []) (fun j => M.length - j) 0 (by simp) (by refine ⟨?_, ?_, rfl⟩ <;> (repeat' (first | exact True.intro | exact rfl | refine ⟨?_, ?_⟩ | (intro h; cases h; done) | (intro h; exact h) | exact map_snoc | (refine own_congr ?_; simp; done) | (refine int_congr ?_; (first | omega | (simp; omega))) | (simp; done) | ((first | refine own_congr ?_ | refine int_congr ?_ | skip); simp [fdB]; done) | ((first | refine own_congr ?_ | refine int_congr ?_); simp [fdB]; omega) | (show @Eq (List Go.Vm.D) _ []; simp [fdB]; done) | (simp [D.cells, fdB]; done)))) ?_
          rintro j hj
          by_cases hjM : j < M.length
          · obtain ⟨t, ht⟩ := some_of_lt hjM
            have hq := ev_Square t.x t.y r.x r.y (hkp t (List.mem_of_getElem? ht)) (by omega)
            rw [show (t.x - r.x) * (t.x - r.x) + (t.y - r.y) * (t.y - r.y) = sqS t r.x r.y from rfl] at hq
            have s2 := fd_snoc (tr := tr) (x := r.x) (y := r.y) (r := rad) ht
            cases hv : fdB (M.take j) tr r.x r.y rad with
            | true =>
              rw [hv, Bool.true_or] at s2
              have hmp1 : AV.d (D.bool true) = AV.d (D.bool (fdB (M.take (j + 1)) tr r.x r.y rad)) := by rw [s2]
              conv => whnf
              repeat' (first | ((refine PickE.map j ht (by omega) ?_); conv => whnf) | ((with_reducible refine Split.of_true ?_); conv => whnf) | ((with_reducible refine Split.of_false ?_); conv => whnf) | ((with_reducible refine Split.neg ?_)) | ((with_reducible refine Split.is_true ?_ ?_); decide; conv => whnf) | ((with_reducible refine Split.is_false ?_ ?_); decide; conv => whnf) | ((with_reducible refine Split.nez (fun _ => ?_) (fun _ => ?_)) <;> conv => whnf) | ((with_reducible refine Split.eqz (fun _ => ?_) (fun _ => ?_)) <;> conv => whnf) | ((with_reducible refine Split.and ?_)) | ((with_reducible refine Split.or ?_)) | ((with_reducible refine Split.dec (fun _ => ?_) (fun _ => ?_)) <;> conv => whnf) | ((with_reducible refine Split.mk (fun _ => ?_) (fun _ => ?_)) <;> conv => whnf) | ((with_reducible refine AltK.l ?_); (conv => whnf); (with_reducible refine Need.mk ?_ ?_); (first | omega | (refine ⟨?_, ?_⟩ <;> simp <;> omega) | (simp; omega)); conv => whnf) | ((with_reducible refine Need.mk ?_ ?_); (first | omega | rfl | decide | (refine ⟨?_, ?_⟩ <;> simp <;> omega) | (simp; omega)); conv => whnf) | ((with_reducible refine Wr.inr ?_ ?_); (first | omega | (simp; omega)); conv => whnf) | ((with_reducible refine AltK.l ?_); (conv => whnf); (first | (refine CallK.mk _ (hq) ?_)); conv => whnf) | (exfalso; first | omega | contradiction))
              all_goals exact Again.au (j + 1) (by omega) (by omega) (by refine ⟨?_, ?_, rfl⟩ <;> (repeat' (first | exact True.intro | exact rfl | refine ⟨?_, ?_⟩ | (intro h; cases h; done) | (intro h; exact h) | exact map_snoc | (refine own_congr ?_; simp; done) | (refine int_congr ?_; (first | omega | (simp; omega))) | (simp; done) | exact hmp1 | ((first | refine own_congr ?_ | refine int_congr ?_ | skip); simp [D.cells]; done) | ((first | refine own_congr ?_ | refine int_congr ?_); simp [D.cells]; omega) | (show @Eq (List Go.Vm.D) _ []; simp [D.cells]; done) | (simp [D.cells, D.cells]; done))))
            | false =>
              rw [hv, Bool.false_or] at s2
              by_cases htr : t.hi ≥ tr
              · rw [decide_eq_true htr, Bool.true_and] at s2
                have hmp1 : AV.d (D.bool (decide (sqS t r.x r.y ≤ rad * rad))) = AV.d (D.bool (fdB (M.take (j + 1)) tr r.x r.y rad)) := by rw [s2]
                conv => whnf
                repeat' (first | ((refine PickE.map j ht (by omega) ?_); conv => whnf) | ((with_reducible refine Split.of_true ?_); conv => whnf) | ((with_reducible refine Split.of_false ?_); conv => whnf) | ((with_reducible refine Split.neg ?_)) | ((with_reducible refine Split.is_true ?_ ?_); decide; conv => whnf) | ((with_reducible refine Split.is_false ?_ ?_); decide; conv => whnf) | ((with_reducible refine Split.nez (fun _ => ?_) (fun _ => ?_)) <;> conv => whnf) | ((with_reducible refine Split.eqz (fun _ => ?_) (fun _ => ?_)) <;> conv => whnf) | ((with_reducible refine Split.and ?_)) | ((with_reducible refine Split.or ?_)) | ((with_reducible refine Split.dec (fun _ => ?_) (fun _ => ?_)) <;> conv => whnf) | ((with_reducible refine Split.mk (fun _ => ?_) (fun _ => ?_)) <;> conv => whnf) | ((with_reducible refine AltK.l ?_); (conv => whnf); (with_reducible refine Need.mk ?_ ?_); (first | omega | (refine ⟨?_, ?_⟩ <;> simp <;> omega) | (simp; omega)); conv => whnf) | ((with_reducible refine Need.mk ?_ ?_); (first | omega | rfl | decide | (refine ⟨?_, ?_⟩ <;> simp <;> omega) | (simp; omega)); conv => whnf) | ((with_reducible refine Wr.inr ?_ ?_); (first | omega | (simp; omega)); conv => whnf) | ((with_reducible refine AltK.l ?_); (conv => whnf); (first | (refine CallK.mk _ (hq) ?_)); conv => whnf) | (exfalso; first | omega | contradiction))
                all_goals exact Again.au (j + 1) (by omega) (by omega) (by refine ⟨?_, ?_, rfl⟩ <;> (repeat' (first | exact True.intro | exact rfl | refine ⟨?_, ?_⟩ | (intro h; cases h; done) | (intro h; exact h) | exact map_snoc | (refine own_congr ?_; simp; done) | (refine int_congr ?_; (first | omega | (simp; omega))) | (simp; done) | exact hmp1 | ((first | refine own_congr ?_ | refine int_congr ?_ | skip); simp [D.cells]; done) | ((first | refine own_congr ?_ | refine int_congr ?_); simp [D.cells]; omega) | (show @Eq (List Go.Vm.D) _ []; simp [D.cells]; done) | (simp [D.cells, D.cells]; done))))
              · rw [decide_eq_false htr, Bool.false_and] at s2
                have hmp1 : AV.d (D.bool false) = AV.d (D.bool (fdB (M.take (j + 1)) tr r.x r.y rad)) := by rw [s2]
                conv => whnf
                repeat' (first | ((refine PickE.map j ht (by omega) ?_); conv => whnf) | ((with_reducible refine Split.of_true ?_); conv => whnf) | ((with_reducible refine Split.of_false ?_); conv => whnf) | ((with_reducible refine Split.neg ?_)) | ((with_reducible refine Split.is_true ?_ ?_); decide; conv => whnf) | ((with_reducible refine Split.is_false ?_ ?_); decide; conv => whnf) | ((with_reducible refine Split.nez (fun _ => ?_) (fun _ => ?_)) <;> conv => whnf) | ((with_reducible refine Split.eqz (fun _ => ?_) (fun _ => ?_)) <;> conv => whnf) | ((with_reducible refine Split.and ?_)) | ((with_reducible refine Split.or ?_)) | ((with_reducible refine Split.dec (fun _ => ?_) (fun _ => ?_)) <;> conv => whnf) | ((with_reducible refine Split.mk (fun _ => ?_) (fun _ => ?_)) <;> conv => whnf) | ((with_reducible refine AltK.l ?_); (conv => whnf); (with_reducible refine Need.mk ?_ ?_); (first | omega | (refine ⟨?_, ?_⟩ <;> simp <;> omega) | (simp; omega)); conv => whnf) | ((with_reducible refine Need.mk ?_ ?_); (first | omega | rfl | decide | (refine ⟨?_, ?_⟩ <;> simp <;> omega) | (simp; omega)); conv => whnf) | ((with_reducible refine Wr.inr ?_ ?_); (first | omega | (simp; omega)); conv => whnf) | ((with_reducible refine AltK.l ?_); (conv => whnf); (first | (refine CallK.mk _ (hq) ?_)); conv => whnf) | (exfalso; first | omega | contradiction))
                all_goals exact Again.au (j + 1) (by omega) (by omega) (by refine ⟨?_, ?_, rfl⟩ <;> (repeat' (first | exact True.intro | exact rfl | refine ⟨?_, ?_⟩ | (intro h; cases h; done) | (intro h; exact h) | exact map_snoc | (refine own_congr ?_; simp; done) | (refine int_congr ?_; (first | omega | (simp; omega))) | (simp; done) | exact hmp1 | ((first | refine own_congr ?_ | refine int_congr ?_ | skip); simp [D.cells]; done) | ((first | refine own_congr ?_ | refine int_congr ?_); simp [D.cells]; omega) | (show @Eq (List Go.Vm.D) _ []; simp [D.cells]; done) | (simp [D.cells, D.cells]; done))))
          · have hfd : fdB M tr r.x r.y rad = true := by
              obtain ⟨t, ht, t1, t2⟩ := hnr
              rw [hsx, hsy] at t2
              exact List.any_eq_true.2 ⟨t, ht, by simp; omega⟩
            have hfd2 : fdB (M.take j) tr r.x r.y rad = true := by rw [List.take_of_length_le (by omega)]; exact hfd
            conv => whnf
            repeat' (first | ((refine Split.is_true hfd2 ?_); conv => whnf) | ((with_reducible refine Split.of_true ?_); conv => whnf) | ((with_reducible refine Split.of_false ?_); conv => whnf) | ((with_reducible refine Split.neg ?_)) | ((with_reducible refine Split.is_true ?_ ?_); decide; conv => whnf) | ((with_reducible refine Split.is_false ?_ ?_); decide; conv => whnf) | ((with_reducible refine Split.nez (fun _ => ?_) (fun _ => ?_)) <;> conv => whnf) | ((with_reducible refine Split.eqz (fun _ => ?_) (fun _ => ?_)) <;> conv => whnf) | ((with_reducible refine Split.and ?_)) | ((with_reducible refine Split.or ?_)) | ((with_reducible refine Split.dec (fun _ => ?_) (fun _ => ?_)) <;> conv => whnf) | ((with_reducible refine Split.mk (fun _ => ?_) (fun _ => ?_)) <;> conv => whnf) | ((with_reducible refine AltK.l ?_); (conv => whnf); (with_reducible refine Need.mk ?_ ?_); (first | omega | (refine ⟨?_, ?_⟩ <;> simp <;> omega) | (simp; omega)); conv => whnf) | ((with_reducible refine Need.mk ?_ ?_); (first | omega | rfl | decide | (refine ⟨?_, ?_⟩ <;> simp <;> omega) | (simp; omega)); conv => whnf) | ((with_reducible refine Wr.inr ?_ ?_); (first | omega | (simp; omega)); conv => whnf) | (exfalso; first | omega | contradiction))
            exact Again.au (k + 1) (by omega) (by omega) (by refine ⟨?_, ?_, rfl⟩ <;> (repeat' (first | exact True.intro | exact rfl | refine ⟨?_, ?_⟩ | (intro h; cases h; done) | (intro h; exact h) | exact map_snoc | (refine own_congr ?_; simp; done) | (refine int_congr ?_; (first | omega | (simp; omega))) | (simp; done))))
    · obtain ⟨ra, hra⟩ := some_of_lt (show a < rs.length by omega)
      have hne : ra.n ≠ r.n := by
        have := (List.pairwise_iff_getElem.1 hru) a J (by omega) hJl (by omega)
        rw [(List.getElem?_eq_some_iff.1 hra).2, (List.getElem?_eq_some_iff.1 hJ).2] at this
        exact this
      conv => whnf
      repeat' (first | ((refine PickE.map k hs (by omega) ?_); conv => whnf) | ((refine PickE.map a hra (by omega) ?_); conv => whnf) | ((with_reducible refine Split.of_true ?_); conv => whnf) | ((with_reducible refine Split.of_false ?_); conv => whnf) | ((with_reducible refine Split.neg ?_)) | ((with_reducible refine Split.is_true ?_ ?_); decide; conv => whnf) | ((with_reducible refine Split.is_false ?_ ?_); decide; conv => whnf) | ((with_reducible refine Split.nez (fun _ => ?_) (fun _ => ?_)) <;> conv => whnf) | ((with_reducible refine Split.eqz (fun _ => ?_) (fun _ => ?_)) <;> conv => whnf) | ((with_reducible refine Split.and ?_)) | ((with_reducible refine Split.or ?_)) | ((with_reducible refine Split.dec (fun _ => ?_) (fun _ => ?_)) <;> conv => whnf) | ((with_reducible refine Split.mk (fun _ => ?_) (fun _ => ?_)) <;> conv => whnf) | ((with_reducible refine AltK.l ?_); (conv => whnf); (with_reducible refine Need.mk ?_ ?_); (first | omega | (refine ⟨?_, ?_⟩ <;> simp <;> omega) | (simp; omega)); conv => whnf) | ((with_reducible refine Need.mk ?_ ?_); (first | omega | rfl | decide | (refine ⟨?_, ?_⟩ <;> simp <;> omega) | (simp; omega)); conv => whnf) | ((with_reducible refine Wr.inr ?_ ?_); (first | omega | (simp; omega)); conv => whnf) | (exfalso; first | omega | contradiction))
      exact Again.au (a + 1) (by omega) (by omega) (by refine ⟨?_, ?_, rfl⟩ <;> (repeat' (first | exact True.intro | exact rfl | refine ⟨?_, ?_⟩ | (intro h; cases h; done) | (intro h; exact h) | exact map_snoc | (refine own_congr ?_; simp; done) | (refine int_congr ?_; (first | omega | (simp; omega))) | (simp; done))))
  · conv => whnf
    repeat' (first | ((with_reducible refine Split.of_true ?_); conv => whnf) | ((with_reducible refine Split.of_false ?_); conv => whnf) | ((with_reducible refine Split.neg ?_)) | ((with_reducible refine Split.is_true ?_ ?_); decide; conv => whnf) | ((with_reducible refine Split.is_false ?_ ?_); decide; conv => whnf) | ((with_reducible refine Split.nez (fun _ => ?_) (fun _ => ?_)) <;> conv => whnf) | ((with_reducible refine Split.eqz (fun _ => ?_) (fun _ => ?_)) <;> conv => whnf) | ((with_reducible refine Split.and ?_)) | ((with_reducible refine Split.or ?_)) | ((with_reducible refine Split.dec (fun _ => ?_) (fun _ => ?_)) <;> conv => whnf) | ((with_reducible refine Split.mk (fun _ => ?_) (fun _ => ?_)) <;> conv => whnf) | ((with_reducible refine AltK.l ?_); (conv => whnf); (with_reducible refine Need.mk ?_ ?_); (first | omega | (refine ⟨?_, ?_⟩ <;> simp <;> omega) | (simp; omega)); conv => whnf) | ((with_reducible refine Need.mk ?_ ?_); (first | omega | rfl | decide | (refine ⟨?_, ?_⟩ <;> simp <;> omega) | (simp; omega)); conv => whnf) | ((with_reducible refine Wr.inr ?_ ?_); (first | omega | (simp; omega)); conv => whnf) | ((with_reducible refine AltK.l ?_); (conv => whnf); (first | (refine CallK.mk _ (h7) ?_)); conv => whnf) | (exfalso; first | omega | contradiction))
    rfl
theorem nd_in (v : Sv) (wa : List Int) (hf : fitB v = true) (hy : badS v.fr hiV (outS v.gs v.rs) = false) : Ev Tryz.prog 4 [svD v, .sl 1 (wa.map iD)] (.bool true) := by
  have h0 := ev_fit v
  have h7 := ev_three
  have hwl : (wa.map iD).length = wa.length := List.length_map _
  rw [hf] at h0
  obtain ⟨few, g0, c0, f0, hrad⟩ := fit_of hf
  clear hf
  obtain ⟨gs, rs, fr, rad⟩ := v
  dsimp only at few g0 c0 f0 hrad hy
  replace h0 : Ev Tryz.prog 12 [.agg [.sl 4 (gs.map gD), .sl 7 (rs.map rD), iD fr.x, iD fr.y, iD fr.side, iD fr.cols, iD fr.rows, .sl 1 (fr.lv.map iD), iD rad]] (.bool true) := h0
  show Ev Tryz.prog 4 [.agg [.sl 4 (gs.map gD), .sl 7 (rs.map rD), iD fr.x, iD fr.y, iD fr.side, iD fr.cols, iD fr.rows, .sl 1 (fr.lv.map iD), iD rad], .sl 1 (wa.map iD)] (.bool true)
  have hgl : (gs.map gD).length = gs.length := List.length_map _
  have hrl : (rs.map rD).length = rs.length := List.length_map _
  have hF := fr_ok f0
  have hal := hF.all
  have hG := goodAll g0
  obtain ⟨_, hrall, hru⟩ := chk_zero c0
  have h1 := ev_ReduceAll gs rs
  rw [raE, if_neg (by simpa using c0), if_neg (by simpa using g0)] at h1
  have hA := red_chk c0 g0
  have hsum := out_dry gs rs
  have hraw := fun s => out_raw (g := gs) (l := rs) (s := s)
  have hdl : ((dryS gs rs).map iD).length = (dryS gs rs).length := List.length_map _
  replace h1 : Ev Tryz.prog 13 [.sl 4 (gs.map gD), .sl 7 (rs.map rD)] (.tup [.sl 5 ((outS gs rs).map sgD), .sl 1 ((dryS gs rs).map iD), iD 0]) := h1
  generalize outS gs rs = A at *
  generalize dryS gs rs = B at *
  have hAl : (A.map sgD).length = A.length := List.length_map _
  have hB := ev_BinS A fr
  rw [bin_ok hA f0, hy, if_neg (by decide)] at hB
  replace hB : Ev Tryz.prog 11 [.sl 5 (A.map sgD), grD fr] (.tup [grD { fr with lv := levS fr hiV A }, iD 0]) := hB
  have hGl : ((levS fr hiV A).map iD).length = cellsN fr := by rw [List.length_map, lev_len]
  have r0 : radB rad = 0 := by
    have : outsideB rad 0 2000000 = false := by simp [outsideB]; omega
    rw [radB, this]; rfl
  have hS := shoal hA r0
  have h3 := ev_Thin A rad
  obtain ⟨n1, n2⟩ := thin_len' A rad
  have h4 := ev_Keep A (thinRes A rad).1 (thinRes A rad).2.1 (by omega)
  rw [hS.keep] at h4
  have hk5 := keep_len A (thinRes A rad).1
  have hnear := hS.near
  have e3 := hS.e
  obtain ⟨hl5, hall, hu⟩ := chk_zero hA
  generalize thinRes A rad = q at *
  obtain ⟨q1, q2, q3⟩ := q
  dsimp only at *
  subst e3
  have hpk : ∀ s ∈ keepS A q1, s ∈ A := fun s hs => (List.mem_filter.1 hs).1
  generalize keepS A q1 = M at *
  have hM : (M.map sgD).length = M.length := List.length_map _
  have hkp : ∀ s ∈ M, -1000000 ≤ s.x ∧ s.x ≤ 1000000 ∧ -1000000 ≤ s.y ∧ s.y ≤ 1000000 := fun s hs => sg_place (hall s (hpk s hs))
  have hrr := mul_bd (x := rad) (y := rad) (X := 100000) (Y := 100000) (by omega) (by omega)
  replace h3 : Ev Tryz.prog 9 [.sl 5 (A.map sgD), iD rad] (.tup [thD q1 q2, iD 0]) := h3
  replace h4 : Ev Tryz.prog 10 [.sl 5 (A.map sgD), thD q1 q2] (.tup [.sl 5 (M.map sgD), iD 0]) := h4
  refine ev_of_awp tysOk mixed (fn := Tryz.f4) Tryz.func4 rfl rfl rfl ?_
  conv => whnf
  repeat' (first | ((with_reducible refine Split.of_true ?_); conv => whnf) | ((with_reducible refine Split.of_false ?_); conv => whnf) | ((with_reducible refine Split.neg ?_)) | ((with_reducible refine Split.is_true ?_ ?_); decide; conv => whnf) | ((with_reducible refine Split.is_false ?_ ?_); decide; conv => whnf) | ((with_reducible refine Split.nez (fun _ => ?_) (fun _ => ?_)) <;> conv => whnf) | ((with_reducible refine Split.eqz (fun _ => ?_) (fun _ => ?_)) <;> conv => whnf) | ((with_reducible refine Split.and ?_)) | ((with_reducible refine Split.or ?_)) | ((with_reducible refine Split.dec (fun _ => ?_) (fun _ => ?_)) <;> conv => whnf) | ((with_reducible refine Split.mk (fun _ => ?_) (fun _ => ?_)) <;> conv => whnf) | ((with_reducible refine AltK.l ?_); (conv => whnf); (with_reducible refine Need.mk ?_ ?_); (first | omega | (refine ⟨?_, ?_⟩ <;> simp <;> omega) | (simp; omega)); conv => whnf) | ((with_reducible refine Need.mk ?_ ?_); (first | omega | rfl | decide | (refine ⟨?_, ?_⟩ <;> simp <;> omega) | (simp; omega)); conv => whnf) | ((with_reducible refine Wr.inr ?_ ?_); (first | omega | (simp; omega)); conv => whnf) | ((with_reducible refine AltK.l ?_); (conv => whnf); (first | (refine CallK.mk _ (h0) ?_) | (refine CallK.mk _ (h7) ?_) | (refine CallK.mk _ (h1) ?_) | (refine CallK.mk _ (h3) ?_) | (refine CallK.mk _ (h4) ?_) | (refine CallK.mk _ (hB) ?_)); conv => whnf) | (exfalso; first | omega | contradiction))
  · rfl
  refine LoopK.o2 (fun k : Nat => k ≤ A.length) (fun k => [(14, .d (.int .i64 k))]) (fun _ => []) (fun k => A.length - k) 0 (by simp) (by refine ⟨?_, ?_, rfl⟩ <;> (repeat' (first | exact True.intro | exact rfl | refine ⟨?_, ?_⟩ | (intro h; cases h; done) | (intro h; exact h) | exact map_snoc | (refine own_congr ?_; simp; done) | (refine int_congr ?_; (first | omega | (simp; omega))) | (simp; done)))) ?_
  rintro k hk
  by_cases hkA : k < A.length
  · obtain ⟨s, hs⟩ := some_of_lt hkA
    have hsA := List.mem_of_getElem? hs
    obtain ⟨r, hr, hok, hse⟩ := hraw s hsA
    obtain ⟨J, hJ⟩ := List.getElem?_of_mem hr
    have hJl := lt_of_some hJ
    have hrg := raw_good.1 (hrall r hr)
    have hL := ev_LevelR hG hrg.x hrg.mi
    have hle := lv_le (x := r.x) (t := r.mi) hG
    have hti := lv_tight (x := r.x) (t := r.mi) hG
    obtain ⟨nk, hnk1, hnk2⟩ : ∃ n : Int, (k < wa.length → wa[k]? = some n) ∧ (¬ k < wa.length → n = 0) := by
      by_cases h : k < wa.length
      · obtain ⟨n, hn⟩ := some_of_lt h
        exact ⟨n, fun _ => hn, fun h' => absurd h h'⟩
      · exact ⟨0, fun h' => absurd h' h, fun _ => rfl⟩
    have hsn : s.n = r.n := by rw [hse]; rfl
    have hsx : s.x = r.x := by rw [hse]; rfl
    have hsy : s.y = r.y := by rw [hse]; rfl
    have hsh : s.hi = (lvS gs r.x r.mi).2.1 - (r.dr + r.d) + r.e := by rw [hse]; rfl
    have hok' : (lvS gs r.x r.mi).2.2 = true := hok
    have hC := ev_Cell fr r.x r.y hF (by have := hrg.x; have := hrg.y; omega)
    rw [show cellI fr ⟨0, r.x, r.y, 0, 0⟩ = cellI fr s by rw [← hsx, ← hsy]; rfl] at hC
    have hcl := fun h => cell_lv (l := A) hF h hsA
    have hnr := hnear s hsA
    have hrx := hrg.x
    have hry := hrg.y
    have hrd := hrg.d
    have hrdr := hrg.dr
    have hre := hrg.e
    clear hok hse hraw hnear
    generalize lvS gs r.x r.mi = w at *
    obtain ⟨lo, hi, ok⟩ := w
    dsimp only at hle hti hsh hok'
    subst hok'
    replace hL : Ev Tryz.prog 14 [.sl 4 (gs.map gD), .int .i64 r.x, .int .i64 r.mi] (.tup [ivD lo hi, .bool true]) := hL
    have hm := ev_ModB nk (hi - lo + 1) (by omega)
    have z1 := Int.emod_nonneg nk (show hi - lo + 1 ≠ 0 by omega)
    have z2 := Int.emod_lt_of_pos nk (show 0 < hi - lo + 1 by omega)
    generalize nk % (hi - lo + 1) = z at *
    generalize cellI fr s = c at *
    conv => whnf
    repeat' (first | ((with_reducible refine Split.of_true ?_); conv => whnf) | ((with_reducible refine Split.of_false ?_); conv => whnf) | ((with_reducible refine Split.neg ?_)) | ((with_reducible refine Split.is_true ?_ ?_); decide; conv => whnf) | ((with_reducible refine Split.is_false ?_ ?_); decide; conv => whnf) | ((with_reducible refine Split.nez (fun _ => ?_) (fun _ => ?_)) <;> conv => whnf) | ((with_reducible refine Split.eqz (fun _ => ?_) (fun _ => ?_)) <;> conv => whnf) | ((with_reducible refine Split.and ?_)) | ((with_reducible refine Split.or ?_)) | ((with_reducible refine Split.dec (fun _ => ?_) (fun _ => ?_)) <;> conv => whnf) | ((with_reducible refine Split.mk (fun _ => ?_) (fun _ => ?_)) <;> conv => whnf) | ((with_reducible refine AltK.l ?_); (conv => whnf); (with_reducible refine Need.mk ?_ ?_); (first | omega | (refine ⟨?_, ?_⟩ <;> simp <;> omega) | (simp; omega)); conv => whnf) | ((with_reducible refine Need.mk ?_ ?_); (first | omega | rfl | decide | (refine ⟨?_, ?_⟩ <;> simp <;> omega) | (simp; omega)); conv => whnf) | ((with_reducible refine Wr.inr ?_ ?_); (first | omega | (simp; omega)); conv => whnf) | (exfalso; first | omega | contradiction))
    refine LoopK.o2 (fun a : Nat => a ≤ J) (fun a => [(15, .d (.int .i64 a))]) (fun _ => []) (fun a => J - a) 0 (by simp) (by refine ⟨?_, ?_, rfl⟩ <;> (repeat' (first | exact True.intro | exact rfl | refine ⟨?_, ?_⟩ | (intro h; cases h; done) | (intro h; exact h) | exact map_snoc | (refine own_congr ?_; simp; done) | (refine int_congr ?_; (first | omega | (simp; omega))) | (simp; done)))) ?_
    rintro a ha
    by_cases haJ : a = J
    · subst haJ
      by_cases hcc : 0 ≤ c
      · obtain ⟨L, l1, l2, l3, l4⟩ := hcl hy hcc
        by_cases hkw : k < wa.length
        · as_aux_lemma =>
            have hnk1 := hnk1 hkw
            conv => whnf
            repeat' (first | ((refine PickE.map c.toNat l1 (by omega) ?_); conv => whnf) | ((refine PickE.map k hnk1 (by omega) ?_); conv => whnf) | ((refine PickE.map k hs (by omega) ?_); conv => whnf) | ((refine PickE.map a hJ (by omega) ?_); conv => whnf) | ((with_reducible refine Split.of_true ?_); conv => whnf) | ((with_reducible refine Split.of_false ?_); conv => whnf) | ((with_reducible refine Split.neg ?_)) | ((with_reducible refine Split.is_true ?_ ?_); decide; conv => whnf) | ((with_reducible refine Split.is_false ?_ ?_); decide; conv => whnf) | ((with_reducible refine Split.nez (fun _ => ?_) (fun _ => ?_)) <;> conv => whnf) | ((with_reducible refine Split.eqz (fun _ => ?_) (fun _ => ?_)) <;> conv => whnf) | ((with_reducible refine Split.and ?_)) | ((with_reducible refine Split.or ?_)) | ((with_reducible refine Split.dec (fun _ => ?_) (fun _ => ?_)) <;> conv => whnf) | ((with_reducible refine Split.mk (fun _ => ?_) (fun _ => ?_)) <;> conv => whnf) | ((with_reducible refine AltK.l ?_); (conv => whnf); (with_reducible refine Need.mk ?_ ?_); (first | omega | (refine ⟨?_, ?_⟩ <;> simp <;> omega) | (simp; omega)); conv => whnf) | ((with_reducible refine Need.mk ?_ ?_); (first | omega | rfl | decide | (refine ⟨?_, ?_⟩ <;> simp <;> omega) | (simp; omega)); conv => whnf) | ((with_reducible refine Wr.inr ?_ ?_); (first | omega | (simp; omega)); conv => whnf) | ((with_reducible refine AltK.l ?_); (conv => whnf); (first | (refine CallK.mk _ (hL) ?_) | (refine CallK.mk _ (hm) ?_) | (refine CallK.mk _ (hC) ?_)); conv => whnf) | (exfalso; first | omega | contradiction))
            · exfalso; have : c < (List.map iD (levS fr hiV A)).length := by rw [hGl]; omega
              rename_i hge; exact absurd hge (by show ¬ c ≥ ((List.map iD (levS fr hiV A)).length : Int); omega)
            have htr : lo + z - r.dr - r.d + r.e ≤ s.hi := by omega
            have htb : -200000 ≤ lo + z - r.dr - r.d + r.e ∧ lo + z - r.dr - r.d + r.e ≤ 200000 := by omega
            generalize lo + z - r.dr - r.d + r.e = tr at *
            refine LoopK.o2 (fun j : Nat => j ≤ M.length) (fun j => [(22, .d (.bool (fdB (M.take j) tr r.x r.y rad))), (23, .d (.int .i64 j))]) (fun _ => []) (fun j => M.length - j) 0 (by simp) (by refine ⟨?_, ?_, rfl⟩ <;> (repeat' (first | exact True.intro | exact rfl | refine ⟨?_, ?_⟩ | (intro h; cases h; done) | (intro h; exact h) | exact map_snoc | (refine own_congr ?_; simp; done) | (refine int_congr ?_; (first | omega | (simp; omega))) | (simp; done) | ((first | refine own_congr ?_ | refine int_congr ?_ | skip); simp [fdB]; done) | ((first | refine own_congr ?_ | refine int_congr ?_); simp [fdB]; omega) | (show @Eq (List Go.Vm.D) _ []; simp [fdB]; done) | (simp [D.cells, fdB]; done)))) ?_
            rintro j hj
            by_cases hjM : j < M.length
            · obtain ⟨t, ht⟩ := some_of_lt hjM
              have hq := ev_Square t.x t.y r.x r.y (hkp t (List.mem_of_getElem? ht)) (by omega)
              rw [show (t.x - r.x) * (t.x - r.x) + (t.y - r.y) * (t.y - r.y) = sqS t r.x r.y from rfl] at hq
              have s2 := fd_snoc (tr := tr) (x := r.x) (y := r.y) (r := rad) ht
              cases hv : fdB (M.take j) tr r.x r.y rad with
              | true =>
                rw [hv, Bool.true_or] at s2
                have hmp1 : AV.d (D.bool true) = AV.d (D.bool (fdB (M.take (j + 1)) tr r.x r.y rad)) := by rw [s2]
                conv => whnf
                repeat' (first | ((refine PickE.map j ht (by omega) ?_); conv => whnf) | ((with_reducible refine Split.of_true ?_); conv => whnf) | ((with_reducible refine Split.of_false ?_); conv => whnf) | ((with_reducible refine Split.neg ?_)) | ((with_reducible refine Split.is_true ?_ ?_); decide; conv => whnf) | ((with_reducible refine Split.is_false ?_ ?_); decide; conv => whnf) | ((with_reducible refine Split.nez (fun _ => ?_) (fun _ => ?_)) <;> conv => whnf) | ((with_reducible refine Split.eqz (fun _ => ?_) (fun _ => ?_)) <;> conv => whnf) | ((with_reducible refine Split.and ?_)) | ((with_reducible refine Split.or ?_)) | ((with_reducible refine Split.dec (fun _ => ?_) (fun _ => ?_)) <;> conv => whnf) | ((with_reducible refine Split.mk (fun _ => ?_) (fun _ => ?_)) <;> conv => whnf) | ((with_reducible refine AltK.l ?_); (conv => whnf); (with_reducible refine Need.mk ?_ ?_); (first | omega | (refine ⟨?_, ?_⟩ <;> simp <;> omega) | (simp; omega)); conv => whnf) | ((with_reducible refine Need.mk ?_ ?_); (first | omega | rfl | decide | (refine ⟨?_, ?_⟩ <;> simp <;> omega) | (simp; omega)); conv => whnf) | ((with_reducible refine Wr.inr ?_ ?_); (first | omega | (simp; omega)); conv => whnf) | ((with_reducible refine AltK.l ?_); (conv => whnf); (first | (refine CallK.mk _ (hq) ?_)); conv => whnf) | (exfalso; first | omega | contradiction))
                all_goals exact Again.au (j + 1) (by omega) (by omega) (by refine ⟨?_, ?_, rfl⟩ <;> (repeat' (first | exact True.intro | exact rfl | refine ⟨?_, ?_⟩ | (intro h; cases h; done) | (intro h; exact h) | exact map_snoc | (refine own_congr ?_; simp; done) | (refine int_congr ?_; (first | omega | (simp; omega))) | (simp; done) | exact hmp1 | ((first | refine own_congr ?_ | refine int_congr ?_ | skip); simp [D.cells]; done) | ((first | refine own_congr ?_ | refine int_congr ?_); simp [D.cells]; omega) | (show @Eq (List Go.Vm.D) _ []; simp [D.cells]; done) | (simp [D.cells, D.cells]; done))))
              | false =>
                rw [hv, Bool.false_or] at s2
                by_cases htr : t.hi ≥ tr
                · rw [decide_eq_true htr, Bool.true_and] at s2
                  have hmp1 : AV.d (D.bool (decide (sqS t r.x r.y ≤ rad * rad))) = AV.d (D.bool (fdB (M.take (j + 1)) tr r.x r.y rad)) := by rw [s2]
                  conv => whnf
                  repeat' (first | ((refine PickE.map j ht (by omega) ?_); conv => whnf) | ((with_reducible refine Split.of_true ?_); conv => whnf) | ((with_reducible refine Split.of_false ?_); conv => whnf) | ((with_reducible refine Split.neg ?_)) | ((with_reducible refine Split.is_true ?_ ?_); decide; conv => whnf) | ((with_reducible refine Split.is_false ?_ ?_); decide; conv => whnf) | ((with_reducible refine Split.nez (fun _ => ?_) (fun _ => ?_)) <;> conv => whnf) | ((with_reducible refine Split.eqz (fun _ => ?_) (fun _ => ?_)) <;> conv => whnf) | ((with_reducible refine Split.and ?_)) | ((with_reducible refine Split.or ?_)) | ((with_reducible refine Split.dec (fun _ => ?_) (fun _ => ?_)) <;> conv => whnf) | ((with_reducible refine Split.mk (fun _ => ?_) (fun _ => ?_)) <;> conv => whnf) | ((with_reducible refine AltK.l ?_); (conv => whnf); (with_reducible refine Need.mk ?_ ?_); (first | omega | (refine ⟨?_, ?_⟩ <;> simp <;> omega) | (simp; omega)); conv => whnf) | ((with_reducible refine Need.mk ?_ ?_); (first | omega | rfl | decide | (refine ⟨?_, ?_⟩ <;> simp <;> omega) | (simp; omega)); conv => whnf) | ((with_reducible refine Wr.inr ?_ ?_); (first | omega | (simp; omega)); conv => whnf) | ((with_reducible refine AltK.l ?_); (conv => whnf); (first | (refine CallK.mk _ (hq) ?_)); conv => whnf) | (exfalso; first | omega | contradiction))
                  all_goals exact Again.au (j + 1) (by omega) (by omega) (by refine ⟨?_, ?_, rfl⟩ <;> (repeat' (first | exact True.intro | exact rfl | refine ⟨?_, ?_⟩ | (intro h; cases h; done) | (intro h; exact h) | exact map_snoc | (refine own_congr ?_; simp; done) | (refine int_congr ?_; (first | omega | (simp; omega))) | (simp; done) | exact hmp1 | ((first | refine own_congr ?_ | refine int_congr ?_ | skip); simp [D.cells]; done) | ((first | refine own_congr ?_ | refine int_congr ?_); simp [D.cells]; omega) | (show @Eq (List Go.Vm.D) _ []; simp [D.cells]; done) | (simp [D.cells, D.cells]; done))))
                · rw [decide_eq_false htr, Bool.false_and] at s2
                  have hmp1 : AV.d (D.bool false) = AV.d (D.bool (fdB (M.take (j + 1)) tr r.x r.y rad)) := by rw [s2]
                  conv => whnf
                  repeat' (first | ((refine PickE.map j ht (by omega) ?_); conv => whnf) | ((with_reducible refine Split.of_true ?_); conv => whnf) | ((with_reducible refine Split.of_false ?_); conv => whnf) | ((with_reducible refine Split.neg ?_)) | ((with_reducible refine Split.is_true ?_ ?_); decide; conv => whnf) | ((with_reducible refine Split.is_false ?_ ?_); decide; conv => whnf) | ((with_reducible refine Split.nez (fun _ => ?_) (fun _ => ?_)) <;> conv => whnf) | ((with_reducible refine Split.eqz (fun _ => ?_) (fun _ => ?_)) <;> conv => whnf) | ((with_reducible refine Split.and ?_)) | ((with_reducible refine Split.or ?_)) | ((with_reducible refine Split.dec (fun _ => ?_) (fun _ => ?_)) <;> conv => whnf) | ((with_reducible refine Split.mk (fun _ => ?_) (fun _ => ?_)) <;> conv => whnf) | ((with_reducible refine AltK.l ?_); (conv => whnf); (with_reducible refine Need.mk ?_ ?_); (first | omega | (refine ⟨?_, ?_⟩ <;> simp <;> omega) | (simp; omega)); conv => whnf) | ((with_reducible refine Need.mk ?_ ?_); (first | omega | rfl | decide | (refine ⟨?_, ?_⟩ <;> simp <;> omega) | (simp; omega)); conv => whnf) | ((with_reducible refine Wr.inr ?_ ?_); (first | omega | (simp; omega)); conv => whnf) | ((with_reducible refine AltK.l ?_); (conv => whnf); (first | (refine CallK.mk _ (hq) ?_)); conv => whnf) | (exfalso; first | omega | contradiction))
                  all_goals exact Again.au (j + 1) (by omega) (by omega) (by refine ⟨?_, ?_, rfl⟩ <;> (repeat' (first | exact True.intro | exact rfl | refine ⟨?_, ?_⟩ | (intro h; cases h; done) | (intro h; exact h) | exact map_snoc | (refine own_congr ?_; simp; done) | (refine int_congr ?_; (first | omega | (simp; omega))) | (simp; done) | exact hmp1 | ((first | refine own_congr ?_ | refine int_congr ?_ | skip); simp [D.cells]; done) | ((first | refine own_congr ?_ | refine int_congr ?_); simp [D.cells]; omega) | (show @Eq (List Go.Vm.D) _ []; simp [D.cells]; done) | (simp [D.cells, D.cells]; done))))
            · have hfd : fdB M tr r.x r.y rad = true := by
                obtain ⟨t, ht, t1, t2⟩ := hnr
                rw [hsx, hsy] at t2
                exact List.any_eq_true.2 ⟨t, ht, by simp; omega⟩
              have hfd2 : fdB (M.take j) tr r.x r.y rad = true := by rw [List.take_of_length_le (by omega)]; exact hfd
              conv => whnf
              repeat' (first | ((refine Split.is_true hfd2 ?_); conv => whnf) | ((with_reducible refine Split.of_true ?_); conv => whnf) | ((with_reducible refine Split.of_false ?_); conv => whnf) | ((with_reducible refine Split.neg ?_)) | ((with_reducible refine Split.is_true ?_ ?_); decide; conv => whnf) | ((with_reducible refine Split.is_false ?_ ?_); decide; conv => whnf) | ((with_reducible refine Split.nez (fun _ => ?_) (fun _ => ?_)) <;> conv => whnf) | ((with_reducible refine Split.eqz (fun _ => ?_) (fun _ => ?_)) <;> conv => whnf) | ((with_reducible refine Split.and ?_)) | ((with_reducible refine Split.or ?_)) | ((with_reducible refine Split.dec (fun _ => ?_) (fun _ => ?_)) <;> conv => whnf) | ((with_reducible refine Split.mk (fun _ => ?_) (fun _ => ?_)) <;> conv => whnf) | ((with_reducible refine AltK.l ?_); (conv => whnf); (with_reducible refine Need.mk ?_ ?_); (first | omega | (refine ⟨?_, ?_⟩ <;> simp <;> omega) | (simp; omega)); conv => whnf) | ((with_reducible refine Need.mk ?_ ?_); (first | omega | rfl | decide | (refine ⟨?_, ?_⟩ <;> simp <;> omega) | (simp; omega)); conv => whnf) | ((with_reducible refine Wr.inr ?_ ?_); (first | omega | (simp; omega)); conv => whnf) | (exfalso; first | omega | contradiction))
              exact Again.au (k + 1) (by omega) (by omega) (by refine ⟨?_, ?_, rfl⟩ <;> (repeat' (first | exact True.intro | exact rfl | refine ⟨?_, ?_⟩ | (intro h; cases h; done) | (intro h; exact h) | exact map_snoc | (refine own_congr ?_; simp; done) | (refine int_congr ?_; (first | omega | (simp; omega))) | (simp; done))))
        · as_aux_lemma =>
            have hnk2 := hnk2 hkw
            subst hnk2
            conv => whnf
            repeat' (first | ((refine PickE.map c.toNat l1 (by omega) ?_); conv => whnf) | ((refine PickE.map k hs (by omega) ?_); conv => whnf) | ((refine PickE.map a hJ (by omega) ?_); conv => whnf) | ((with_reducible refine Split.of_true ?_); conv => whnf) | ((with_reducible refine Split.of_false ?_); conv => whnf) | ((with_reducible refine Split.neg ?_)) | ((with_reducible refine Split.is_true ?_ ?_); decide; conv => whnf) | ((with_reducible refine Split.is_false ?_ ?_); decide; conv => whnf) | ((with_reducible refine Split.nez (fun _ => ?_) (fun _ => ?_)) <;> conv => whnf) | ((with_reducible refine Split.eqz (fun _ => ?_) (fun _ => ?_)) <;> conv => whnf) | ((with_reducible refine Split.and ?_)) | ((with_reducible refine Split.or ?_)) | ((with_reducible refine Split.dec (fun _ => ?_) (fun _ => ?_)) <;> conv => whnf) | ((with_reducible refine Split.mk (fun _ => ?_) (fun _ => ?_)) <;> conv => whnf) | ((with_reducible refine AltK.l ?_); (conv => whnf); (with_reducible refine Need.mk ?_ ?_); (first | omega | (refine ⟨?_, ?_⟩ <;> simp <;> omega) | (simp; omega)); conv => whnf) | ((with_reducible refine Need.mk ?_ ?_); (first | omega | rfl | decide | (refine ⟨?_, ?_⟩ <;> simp <;> omega) | (simp; omega)); conv => whnf) | ((with_reducible refine Wr.inr ?_ ?_); (first | omega | (simp; omega)); conv => whnf) | ((with_reducible refine AltK.l ?_); (conv => whnf); (first | (refine CallK.mk _ (hL) ?_) | (refine CallK.mk _ (hm) ?_) | (refine CallK.mk _ (hC) ?_)); conv => whnf) | (exfalso; first | omega | contradiction))
            · exfalso; have : c < (List.map iD (levS fr hiV A)).length := by rw [hGl]; omega
              rename_i hge; exact absurd hge (by show ¬ c ≥ ((List.map iD (levS fr hiV A)).length : Int); omega)
            have htr : lo + z - r.dr - r.d + r.e ≤ s.hi := by omega
            have htb : -200000 ≤ lo + z - r.dr - r.d + r.e ∧ lo + z - r.dr - r.d + r.e ≤ 200000 := by omega
            generalize lo + z - r.dr - r.d + r.e = tr at *
            refine LoopK.o2 (fun j : Nat => j ≤ M.length) (fun j => [(22, .d (.bool (fdB (M.take j) tr r.x r.y rad))), (23, .d (.int .i64 j))]) (fun _ => []) (fun j => M.length - j) 0 (by simp) (by refine ⟨?_, ?_, rfl⟩ <;> (repeat' (first | exact True.intro | exact rfl | refine ⟨?_, ?_⟩ | (intro h; cases h; done) | (intro h; exact h) | exact map_snoc | (refine own_congr ?_; simp; done) | (refine int_congr ?_; (first | omega | (simp; omega))) | (simp; done) | ((first | refine own_congr ?_ | refine int_congr ?_ | skip); simp [fdB]; done) | ((first | refine own_congr ?_ | refine int_congr ?_); simp [fdB]; omega) | (show @Eq (List Go.Vm.D) _ []; simp [fdB]; done) | (simp [D.cells, fdB]; done)))) ?_
            rintro j hj
            by_cases hjM : j < M.length
            · obtain ⟨t, ht⟩ := some_of_lt hjM
              have hq := ev_Square t.x t.y r.x r.y (hkp t (List.mem_of_getElem? ht)) (by omega)
              rw [show (t.x - r.x) * (t.x - r.x) + (t.y - r.y) * (t.y - r.y) = sqS t r.x r.y from rfl] at hq
              have s2 := fd_snoc (tr := tr) (x := r.x) (y := r.y) (r := rad) ht
              cases hv : fdB (M.take j) tr r.x r.y rad with
              | true =>
                rw [hv, Bool.true_or] at s2
                have hmp1 : AV.d (D.bool true) = AV.d (D.bool (fdB (M.take (j + 1)) tr r.x r.y rad)) := by rw [s2]
                conv => whnf
                repeat' (first | ((refine PickE.map j ht (by omega) ?_); conv => whnf) | ((with_reducible refine Split.of_true ?_); conv => whnf) | ((with_reducible refine Split.of_false ?_); conv => whnf) | ((with_reducible refine Split.neg ?_)) | ((with_reducible refine Split.is_true ?_ ?_); decide; conv => whnf) | ((with_reducible refine Split.is_false ?_ ?_); decide; conv => whnf) | ((with_reducible refine Split.nez (fun _ => ?_) (fun _ => ?_)) <;> conv => whnf) | ((with_reducible refine Split.eqz (fun _ => ?_) (fun _ => ?_)) <;> conv => whnf) | ((with_reducible refine Split.and ?_)) | ((with_reducible refine Split.or ?_)) | ((with_reducible refine Split.dec (fun _ => ?_) (fun _ => ?_)) <;> conv => whnf) | ((with_reducible refine Split.mk (fun _ => ?_) (fun _ => ?_)) <;> conv => whnf) | ((with_reducible refine AltK.l ?_); (conv => whnf); (with_reducible refine Need.mk ?_ ?_); (first | omega | (refine ⟨?_, ?_⟩ <;> simp <;> omega) | (simp; omega)); conv => whnf) | ((with_reducible refine Need.mk ?_ ?_); (first | omega | rfl | decide | (refine ⟨?_, ?_⟩ <;> simp <;> omega) | (simp; omega)); conv => whnf) | ((with_reducible refine Wr.inr ?_ ?_); (first | omega | (simp; omega)); conv => whnf) | ((with_reducible refine AltK.l ?_); (conv => whnf); (first | (refine CallK.mk _ (hq) ?_)); conv => whnf) | (exfalso; first | omega | contradiction))
                all_goals exact Again.au (j + 1) (by omega) (by omega) (by refine ⟨?_, ?_, rfl⟩ <;> (repeat' (first | exact True.intro | exact rfl | refine ⟨?_, ?_⟩ | (intro h; cases h; done) | (intro h; exact h) | exact map_snoc | (refine own_congr ?_; simp; done) | (refine int_congr ?_; (first | omega | (simp; omega))) | (simp; done) | exact hmp1 | ((first | refine own_congr ?_ | refine int_congr ?_ | skip); simp [D.cells]; done) | ((first | refine own_congr ?_ | refine int_congr ?_); simp [D.cells]; omega) | (show @Eq (List Go.Vm.D) _ []; simp [D.cells]; done) | (simp [D.cells, D.cells]; done))))
              | false =>
                rw [hv, Bool.false_or] at s2
                by_cases htr : t.hi ≥ tr
                · rw [decide_eq_true htr, Bool.true_and] at s2
                  have hmp1 : AV.d (D.bool (decide (sqS t r.x r.y ≤ rad * rad))) = AV.d (D.bool (fdB (M.take (j + 1)) tr r.x r.y rad)) := by rw [s2]
                  conv => whnf
                  repeat' (first | ((refine PickE.map j ht (by omega) ?_); conv => whnf) | ((with_reducible refine Split.of_true ?_); conv => whnf) | ((with_reducible refine Split.of_false ?_); conv => whnf) | ((with_reducible refine Split.neg ?_)) | ((with_reducible refine Split.is_true ?_ ?_); decide; conv => whnf) | ((with_reducible refine Split.is_false ?_ ?_); decide; conv => whnf) | ((with_reducible refine Split.nez (fun _ => ?_) (fun _ => ?_)) <;> conv => whnf) | ((with_reducible refine Split.eqz (fun _ => ?_) (fun _ => ?_)) <;> conv => whnf) | ((with_reducible refine Split.and ?_)) | ((with_reducible refine Split.or ?_)) | ((with_reducible refine Split.dec (fun _ => ?_) (fun _ => ?_)) <;> conv => whnf) | ((with_reducible refine Split.mk (fun _ => ?_) (fun _ => ?_)) <;> conv => whnf) | ((with_reducible refine AltK.l ?_); (conv => whnf); (with_reducible refine Need.mk ?_ ?_); (first | omega | (refine ⟨?_, ?_⟩ <;> simp <;> omega) | (simp; omega)); conv => whnf) | ((with_reducible refine Need.mk ?_ ?_); (first | omega | rfl | decide | (refine ⟨?_, ?_⟩ <;> simp <;> omega) | (simp; omega)); conv => whnf) | ((with_reducible refine Wr.inr ?_ ?_); (first | omega | (simp; omega)); conv => whnf) | ((with_reducible refine AltK.l ?_); (conv => whnf); (first | (refine CallK.mk _ (hq) ?_)); conv => whnf) | (exfalso; first | omega | contradiction))
                  all_goals exact Again.au (j + 1) (by omega) (by omega) (by refine ⟨?_, ?_, rfl⟩ <;> (repeat' (first | exact True.intro | exact rfl | refine ⟨?_, ?_⟩ | (intro h; cases h; done) | (intro h; exact h) | exact map_snoc | (refine own_congr ?_; simp; done) | (refine int_congr ?_; (first | omega | (simp; omega))) | (simp; done) | exact hmp1 | ((first | refine own_congr ?_ | refine int_congr ?_ | skip); simp [D.cells]; done) | ((first | refine own_congr ?_ | refine int_congr ?_); simp [D.cells]; omega) | (show @Eq (List Go.Vm.D) _ []; simp [D.cells]; done) | (simp [D.cells, D.cells]; done))))
                · rw [decide_eq_false htr, Bool.false_and] at s2
                  have hmp1 : AV.d (D.bool false) = AV.d (D.bool (fdB (M.take (j + 1)) tr r.x r.y rad)) := by rw [s2]
                  conv => whnf
                  repeat' (first | ((refine PickE.map j ht (by omega) ?_); conv => whnf) | ((with_reducible refine Split.of_true ?_); conv => whnf) | ((with_reducible refine Split.of_false ?_); conv => whnf) | ((with_reducible refine Split.neg ?_)) | ((with_reducible refine Split.is_true ?_ ?_); decide; conv => whnf) | ((with_reducible refine Split.is_false ?_ ?_); decide; conv => whnf) | ((with_reducible refine Split.nez (fun _ => ?_) (fun _ => ?_)) <;> conv => whnf) | ((with_reducible refine Split.eqz (fun _ => ?_) (fun _ => ?_)) <;> conv => whnf) | ((with_reducible refine Split.and ?_)) | ((with_reducible refine Split.or ?_)) | ((with_reducible refine Split.dec (fun _ => ?_) (fun _ => ?_)) <;> conv => whnf) | ((with_reducible refine Split.mk (fun _ => ?_) (fun _ => ?_)) <;> conv => whnf) | ((with_reducible refine AltK.l ?_); (conv => whnf); (with_reducible refine Need.mk ?_ ?_); (first | omega | (refine ⟨?_, ?_⟩ <;> simp <;> omega) | (simp; omega)); conv => whnf) | ((with_reducible refine Need.mk ?_ ?_); (first | omega | rfl | decide | (refine ⟨?_, ?_⟩ <;> simp <;> omega) | (simp; omega)); conv => whnf) | ((with_reducible refine Wr.inr ?_ ?_); (first | omega | (simp; omega)); conv => whnf) | ((with_reducible refine AltK.l ?_); (conv => whnf); (first | (refine CallK.mk _ (hq) ?_)); conv => whnf) | (exfalso; first | omega | contradiction))
                  all_goals exact Again.au (j + 1) (by omega) (by omega) (by refine ⟨?_, ?_, rfl⟩ <;> (repeat' (first | exact True.intro | exact rfl | refine ⟨?_, ?_⟩ | (intro h; cases h; done) | (intro h; exact h) | exact map_snoc | (refine own_congr ?_; simp; done) | (refine int_congr ?_; (first | omega | (simp; omega))) | (simp; done) | exact hmp1 | ((first | refine own_congr ?_ | refine int_congr ?_ | skip); simp [D.cells]; done) | ((first | refine own_congr ?_ | refine int_congr ?_); simp [D.cells]; omega) | (show @Eq (List Go.Vm.D) _ []; simp [D.cells]; done) | (simp [D.cells, D.cells]; done))))
            · have hfd : fdB M tr r.x r.y rad = true := by
                obtain ⟨t, ht, t1, t2⟩ := hnr
                rw [hsx, hsy] at t2
                exact List.any_eq_true.2 ⟨t, ht, by simp; omega⟩
              have hfd2 : fdB (M.take j) tr r.x r.y rad = true := by rw [List.take_of_length_le (by omega)]; exact hfd
              conv => whnf
              repeat' (first | ((refine Split.is_true hfd2 ?_); conv => whnf) | ((with_reducible refine Split.of_true ?_); conv => whnf) | ((with_reducible refine Split.of_false ?_); conv => whnf) | ((with_reducible refine Split.neg ?_)) | ((with_reducible refine Split.is_true ?_ ?_); decide; conv => whnf) | ((with_reducible refine Split.is_false ?_ ?_); decide; conv => whnf) | ((with_reducible refine Split.nez (fun _ => ?_) (fun _ => ?_)) <;> conv => whnf) | ((with_reducible refine Split.eqz (fun _ => ?_) (fun _ => ?_)) <;> conv => whnf) | ((with_reducible refine Split.and ?_)) | ((with_reducible refine Split.or ?_)) | ((with_reducible refine Split.dec (fun _ => ?_) (fun _ => ?_)) <;> conv => whnf) | ((with_reducible refine Split.mk (fun _ => ?_) (fun _ => ?_)) <;> conv => whnf) | ((with_reducible refine AltK.l ?_); (conv => whnf); (with_reducible refine Need.mk ?_ ?_); (first | omega | (refine ⟨?_, ?_⟩ <;> simp <;> omega) | (simp; omega)); conv => whnf) | ((with_reducible refine Need.mk ?_ ?_); (first | omega | rfl | decide | (refine ⟨?_, ?_⟩ <;> simp <;> omega) | (simp; omega)); conv => whnf) | ((with_reducible refine Wr.inr ?_ ?_); (first | omega | (simp; omega)); conv => whnf) | (exfalso; first | omega | contradiction))
              exact Again.au (k + 1) (by omega) (by omega) (by refine ⟨?_, ?_, rfl⟩ <;> (repeat' (first | exact True.intro | exact rfl | refine ⟨?_, ?_⟩ | (intro h; cases h; done) | (intro h; exact h) | exact map_snoc | (refine own_congr ?_; simp; done) | (refine int_congr ?_; (first | omega | (simp; omega))) | (simp; done))))
      · clear hcl
        by_cases hkw : k < wa.length
        · as_aux_lemma =>
            have hnk1 := hnk1 hkw
            conv => whnf
            repeat' (first | ((refine PickE.map k hnk1 (by omega) ?_); conv => whnf) | ((refine PickE.map k hs (by omega) ?_); conv => whnf) | ((refine PickE.map a hJ (by omega) ?_); conv => whnf) | ((with_reducible refine Split.of_true ?_); conv => whnf) | ((with_reducible refine Split.of_false ?_); conv => whnf) | ((with_reducible refine Split.neg ?_)) | ((with_reducible refine Split.is_true ?_ ?_); decide; conv => whnf) | ((with_reducible refine Split.is_false ?_ ?_); decide; conv => whnf) | ((with_reducible refine Split.nez (fun _ => ?_) (fun _ => ?_)) <;> conv => whnf) | ((with_reducible refine Split.eqz (fun _ => ?_) (fun _ => ?_)) <;> conv => whnf) | ((with_reducible refine Split.and ?_)) | ((with_reducible refine Split.or ?_)) | ((with_reducible refine Split.dec (fun _ => ?_) (fun _ => ?_)) <;> conv => whnf) | ((with_reducible refine Split.mk (fun _ => ?_) (fun _ => ?_)) <;> conv => whnf) | ((with_reducible refine AltK.l ?_); (conv => whnf); (with_reducible refine Need.mk ?_ ?_); (first | omega | (refine ⟨?_, ?_⟩ <;> simp <;> omega) | (simp; omega)); conv => whnf) | ((with_reducible refine Need.mk ?_ ?_); (first | omega | rfl | decide | (refine ⟨?_, ?_⟩ <;> simp <;> omega) | (simp; omega)); conv => whnf) | ((with_reducible refine Wr.inr ?_ ?_); (first | omega | (simp; omega)); conv => whnf) | ((with_reducible refine AltK.l ?_); (conv => whnf); (first | (refine CallK.mk _ (hL) ?_) | (refine CallK.mk _ (hm) ?_) | (refine CallK.mk _ (hC) ?_)); conv => whnf) | (exfalso; first | omega | contradiction))
            have htr : lo + z - r.dr - r.d + r.e ≤ s.hi := by omega
            have htb : -200000 ≤ lo + z - r.dr - r.d + r.e ∧ lo + z - r.dr - r.d + r.e ≤ 200000 := by omega
            generalize lo + z - r.dr - r.d + r.e = tr at *
            refine LoopK.o2 (fun j : Nat => j ≤ M.length) (fun j => [(22, .d (.bool (fdB (M.take j) tr r.x r.y rad))), (23, .d (.int .i64 j))]) (fun _ => []) (fun j => M.length - j) 0 (by simp) (by refine ⟨?_, ?_, rfl⟩ <;> (repeat' (first | exact True.intro | exact rfl | refine ⟨?_, ?_⟩ | (intro h; cases h; done) | (intro h; exact h) | exact map_snoc | (refine own_congr ?_; simp; done) | (refine int_congr ?_; (first | omega | (simp; omega))) | (simp; done) | ((first | refine own_congr ?_ | refine int_congr ?_ | skip); simp [fdB]; done) | ((first | refine own_congr ?_ | refine int_congr ?_); simp [fdB]; omega) | (show @Eq (List Go.Vm.D) _ []; simp [fdB]; done) | (simp [D.cells, fdB]; done)))) ?_
            rintro j hj
            by_cases hjM : j < M.length
            · obtain ⟨t, ht⟩ := some_of_lt hjM
              have hq := ev_Square t.x t.y r.x r.y (hkp t (List.mem_of_getElem? ht)) (by omega)
              rw [show (t.x - r.x) * (t.x - r.x) + (t.y - r.y) * (t.y - r.y) = sqS t r.x r.y from rfl] at hq
              have s2 := fd_snoc (tr := tr) (x := r.x) (y := r.y) (r := rad) ht
              cases hv : fdB (M.take j) tr r.x r.y rad with
              | true =>
                rw [hv, Bool.true_or] at s2
                have hmp1 : AV.d (D.bool true) = AV.d (D.bool (fdB (M.take (j + 1)) tr r.x r.y rad)) := by rw [s2]
                conv => whnf
                repeat' (first | ((refine PickE.map j ht (by omega) ?_); conv => whnf) | ((with_reducible refine Split.of_true ?_); conv => whnf) | ((with_reducible refine Split.of_false ?_); conv => whnf) | ((with_reducible refine Split.neg ?_)) | ((with_reducible refine Split.is_true ?_ ?_); decide; conv => whnf) | ((with_reducible refine Split.is_false ?_ ?_); decide; conv => whnf) | ((with_reducible refine Split.nez (fun _ => ?_) (fun _ => ?_)) <;> conv => whnf) | ((with_reducible refine Split.eqz (fun _ => ?_) (fun _ => ?_)) <;> conv => whnf) | ((with_reducible refine Split.and ?_)) | ((with_reducible refine Split.or ?_)) | ((with_reducible refine Split.dec (fun _ => ?_) (fun _ => ?_)) <;> conv => whnf) | ((with_reducible refine Split.mk (fun _ => ?_) (fun _ => ?_)) <;> conv => whnf) | ((with_reducible refine AltK.l ?_); (conv => whnf); (with_reducible refine Need.mk ?_ ?_); (first | omega | (refine ⟨?_, ?_⟩ <;> simp <;> omega) | (simp; omega)); conv => whnf) | ((with_reducible refine Need.mk ?_ ?_); (first | omega | rfl | decide | (refine ⟨?_, ?_⟩ <;> simp <;> omega) | (simp; omega)); conv => whnf) | ((with_reducible refine Wr.inr ?_ ?_); (first | omega | (simp; omega)); conv => whnf) | ((with_reducible refine AltK.l ?_); (conv => whnf); (first | (refine CallK.mk _ (hq) ?_)); conv => whnf) | (exfalso; first | omega | contradiction))
                all_goals exact Again.au (j + 1) (by omega) (by omega) (by refine ⟨?_, ?_, rfl⟩ <;> (repeat' (first | exact True.intro | exact rfl | refine ⟨?_, ?_⟩ | (intro h; cases h; done) | (intro h; exact h) | exact map_snoc | (refine own_congr ?_; simp; done) | (refine int_congr ?_; (first | omega | (simp; omega))) | (simp; done) | exact hmp1 | ((first | refine own_congr ?_ | refine int_congr ?_ | skip); simp [D.cells]; done) | ((first | refine own_congr ?_ | refine int_congr ?_); simp [D.cells]; omega) | (show @Eq (List Go.Vm.D) _ []; simp [D.cells]; done) | (simp [D.cells, D.cells]; done))))
              | false =>
                rw [hv, Bool.false_or] at s2
                by_cases htr : t.hi ≥ tr
                · rw [decide_eq_true htr, Bool.true_and] at s2
                  have hmp1 : AV.d (D.bool (decide (sqS t r.x r.y ≤ rad * rad))) = AV.d (D.bool (fdB (M.take (j + 1)) tr r.x r.y rad)) := by rw [s2]
                  conv => whnf
                  repeat' (first | ((refine PickE.map j ht (by omega) ?_); conv => whnf) | ((with_reducible refine Split.of_true ?_); conv => whnf) | ((with_reducible refine Split.of_false ?_); conv => whnf) | ((with_reducible refine Split.neg ?_)) | ((with_reducible refine Split.is_true ?_ ?_); decide; conv => whnf) | ((with_reducible refine Split.is_false ?_ ?_); decide; conv => whnf) | ((with_reducible refine Split.nez (fun _ => ?_) (fun _ => ?_)) <;> conv => whnf) | ((with_reducible refine Split.eqz (fun _ => ?_) (fun _ => ?_)) <;> conv => whnf) | ((with_reducible refine Split.and ?_)) | ((with_reducible refine Split.or ?_)) | ((with_reducible refine Split.dec (fun _ => ?_) (fun _ => ?_)) <;> conv => whnf) | ((with_reducible refine Split.mk (fun _ => ?_) (fun _ => ?_)) <;> conv => whnf) | ((with_reducible refine AltK.l ?_); (conv => whnf); (with_reducible refine Need.mk ?_ ?_); (first | omega | (refine ⟨?_, ?_⟩ <;> simp <;> omega) | (simp; omega)); conv => whnf) | ((with_reducible refine Need.mk ?_ ?_); (first | omega | rfl | decide | (refine ⟨?_, ?_⟩ <;> simp <;> omega) | (simp; omega)); conv => whnf) | ((with_reducible refine Wr.inr ?_ ?_); (first | omega | (simp; omega)); conv => whnf) | ((with_reducible refine AltK.l ?_); (conv => whnf); (first | (refine CallK.mk _ (hq) ?_)); conv => whnf) | (exfalso; first | omega | contradiction))
                  all_goals exact Again.au (j + 1) (by omega) (by omega) (by refine ⟨?_, ?_, rfl⟩ <;> (repeat' (first | exact True.intro | exact rfl | refine ⟨?_, ?_⟩ | (intro h; cases h; done) | (intro h; exact h) | exact map_snoc | (refine own_congr ?_; simp; done) | (refine int_congr ?_; (first | omega | (simp; omega))) | (simp; done) | exact hmp1 | ((first | refine own_congr ?_ | refine int_congr ?_ | skip); simp [D.cells]; done) | ((first | refine own_congr ?_ | refine int_congr ?_); simp [D.cells]; omega) | (show @Eq (List Go.Vm.D) _ []; simp [D.cells]; done) | (simp [D.cells, D.cells]; done))))
                · rw [decide_eq_false htr, Bool.false_and] at s2
                  have hmp1 : AV.d (D.bool false) = AV.d (D.bool (fdB (M.take (j + 1)) tr r.x r.y rad)) := by rw [s2]
                  conv => whnf
                  repeat' (first | ((refine PickE.map j ht (by omega) ?_); conv => whnf) | ((with_reducible refine Split.of_true ?_); conv => whnf) | ((with_reducible refine Split.of_false ?_); conv => whnf) | ((with_reducible refine Split.neg ?_)) | ((with_reducible refine Split.is_true ?_ ?_); decide; conv => whnf) | ((with_reducible refine Split.is_false ?_ ?_); decide; conv => whnf) | ((with_reducible refine Split.nez (fun _ => ?_) (fun _ => ?_)) <;> conv => whnf) | ((with_reducible refine Split.eqz (fun _ => ?_) (fun _ => ?_)) <;> conv => whnf) | ((with_reducible refine Split.and ?_)) | ((with_reducible refine Split.or ?_)) | ((with_reducible refine Split.dec (fun _ => ?_) (fun _ => ?_)) <;> conv => whnf) | ((with_reducible refine Split.mk (fun _ => ?_) (fun _ => ?_)) <;> conv => whnf) | ((with_reducible refine AltK.l ?_); (conv => whnf); (with_reducible refine Need.mk ?_ ?_); (first | omega | (refine ⟨?_, ?_⟩ <;> simp <;> omega) | (simp; omega)); conv => whnf) | ((with_reducible refine Need.mk ?_ ?_); (first | omega | rfl | decide | (refine ⟨?_, ?_⟩ <;> simp <;> omega) | (simp; omega)); conv => whnf) | ((with_reducible refine Wr.inr ?_ ?_); (first | omega | (simp; omega)); conv => whnf) | ((with_reducible refine AltK.l ?_); (conv => whnf); (first | (refine CallK.mk _ (hq) ?_)); conv => whnf) | (exfalso; first | omega | contradiction))
                  all_goals exact Again.au (j + 1) (by omega) (by omega) (by refine ⟨?_, ?_, rfl⟩ <;> (repeat' (first | exact True.intro | exact rfl | refine ⟨?_, ?_⟩ | (intro h; cases h; done) | (intro h; exact h) | exact map_snoc | (refine own_congr ?_; simp; done) | (refine int_congr ?_; (first | omega | (simp; omega))) | (simp; done) | exact hmp1 | ((first | refine own_congr ?_ | refine int_congr ?_ | skip); simp [D.cells]; done) | ((first | refine own_congr ?_ | refine int_congr ?_); simp [D.cells]; omega) | (show @Eq (List Go.Vm.D) _ []; simp [D.cells]; done) | (simp [D.cells, D.cells]; done))))
            · have hfd : fdB M tr r.x r.y rad = true := by
                obtain ⟨t, ht, t1, t2⟩ := hnr
                rw [hsx, hsy] at t2
                exact List.any_eq_true.2 ⟨t, ht, by simp; omega⟩
              have hfd2 : fdB (M.take j) tr r.x r.y rad = true := by rw [List.take_of_length_le (by omega)]; exact hfd
              conv => whnf
              repeat' (first | ((refine Split.is_true hfd2 ?_); conv => whnf) | ((with_reducible refine Split.of_true ?_); conv => whnf) | ((with_reducible refine Split.of_false ?_); conv => whnf) | ((with_reducible refine Split.neg ?_)) | ((with_reducible refine Split.is_true ?_ ?_); decide; conv => whnf) | ((with_reducible refine Split.is_false ?_ ?_); decide; conv => whnf) | ((with_reducible refine Split.nez (fun _ => ?_) (fun _ => ?_)) <;> conv => whnf) | ((with_reducible refine Split.eqz (fun _ => ?_) (fun _ => ?_)) <;> conv => whnf) | ((with_reducible refine Split.and ?_)) | ((with_reducible refine Split.or ?_)) | ((with_reducible refine Split.dec (fun _ => ?_) (fun _ => ?_)) <;> conv => whnf) | ((with_reducible refine Split.mk (fun _ => ?_) (fun _ => ?_)) <;> conv => whnf) | ((with_reducible refine AltK.l ?_); (conv => whnf); (with_reducible refine Need.mk ?_ ?_); (first | omega | (refine ⟨?_, ?_⟩ <;> simp <;> omega) | (simp; omega)); conv => whnf) | ((with_reducible refine Need.mk ?_ ?_); (first | omega | rfl | decide | (refine ⟨?_, ?_⟩ <;> simp <;> omega) | (simp; omega)); conv => whnf) | ((with_reducible refine Wr.inr ?_ ?_); (first | omega | (simp; omega)); conv => whnf) | (exfalso; first | omega | contradiction))
              exact Again.au (k + 1) (by omega) (by omega) (by refine ⟨?_, ?_, rfl⟩ <;> (repeat' (first | exact True.intro | exact rfl | refine ⟨?_, ?_⟩ | (intro h; cases h; done) | (intro h; exact h) | exact map_snoc | (refine own_congr ?_; simp; done) | (refine int_congr ?_; (first | omega | (simp; omega))) | (simp; done))))
        · as_aux_lemma =>
            have hnk2 := hnk2 hkw
            subst hnk2
            conv => whnf
            repeat' (first | ((refine PickE.map k hs (by omega) ?_); conv => whnf) | ((refine PickE.map a hJ (by omega) ?_); conv => whnf) | ((with_reducible refine Split.of_true ?_); conv => whnf) | ((with_reducible refine Split.of_false ?_); conv => whnf) | ((with_reducible refine Split.neg ?_)) | ((with_reducible refine Split.is_true ?_ ?_); decide; conv => whnf) | ((with_reducible refine Split.is_false ?_ ?_); decide; conv => whnf) | ((with_reducible refine Split.nez (fun _ => ?_) (fun _ => ?_)) <;> conv => whnf) | ((with_reducible refine Split.eqz (fun _ => ?_) (fun _ => ?_)) <;> conv => whnf) | ((with_reducible refine Split.and ?_)) | ((with_reducible refine Split.or ?_)) | ((with_reducible refine Split.dec (fun _ => ?_) (fun _ => ?_)) <;> conv => whnf) | ((with_reducible refine Split.mk (fun _ => ?_) (fun _ => ?_)) <;> conv => whnf) | ((with_reducible refine AltK.l ?_); (conv => whnf); (with_reducible refine Need.mk ?_ ?_); (first | omega | (refine ⟨?_, ?_⟩ <;> simp <;> omega) | (simp; omega)); conv => whnf) | ((with_reducible refine Need.mk ?_ ?_); (first | omega | rfl | decide | (refine ⟨?_, ?_⟩ <;> simp <;> omega) | (simp; omega)); conv => whnf) | ((with_reducible refine Wr.inr ?_ ?_); (first | omega | (simp; omega)); conv => whnf) | ((with_reducible refine AltK.l ?_); (conv => whnf); (first | (refine CallK.mk _ (hL) ?_) | (refine CallK.mk _ (hm) ?_) | (refine CallK.mk _ (hC) ?_)); conv => whnf) | (exfalso; first | omega | contradiction))
            have htr : lo + z - r.dr - r.d + r.e ≤ s.hi := by omega
            have htb : -200000 ≤ lo + z - r.dr - r.d + r.e ∧ lo + z - r.dr - r.d + r.e ≤ 200000 := by omega
            generalize lo + z - r.dr - r.d + r.e = tr at *
            refine LoopK.o2 (fun j : Nat => j ≤ M.length) (fun j => [(22, .d (.bool (fdB (M.take j) tr r.x r.y rad))), (23, .d (.int .i64 j))]) (fun _ => []) (fun j => M.length - j) 0 (by simp) (by refine ⟨?_, ?_, rfl⟩ <;> (repeat' (first | exact True.intro | exact rfl | refine ⟨?_, ?_⟩ | (intro h; cases h; done) | (intro h; exact h) | exact map_snoc | (refine own_congr ?_; simp; done) | (refine int_congr ?_; (first | omega | (simp; omega))) | (simp; done) | ((first | refine own_congr ?_ | refine int_congr ?_ | skip); simp [fdB]; done) | ((first | refine own_congr ?_ | refine int_congr ?_); simp [fdB]; omega) | (show @Eq (List Go.Vm.D) _ []; simp [fdB]; done) | (simp [D.cells, fdB]; done)))) ?_
            rintro j hj
            by_cases hjM : j < M.length
            · obtain ⟨t, ht⟩ := some_of_lt hjM
              have hq := ev_Square t.x t.y r.x r.y (hkp t (List.mem_of_getElem? ht)) (by omega)
              rw [show (t.x - r.x) * (t.x - r.x) + (t.y - r.y) * (t.y - r.y) = sqS t r.x r.y from rfl] at hq
              have s2 := fd_snoc (tr := tr) (x := r.x) (y := r.y) (r := rad) ht
              cases hv : fdB (M.take j) tr r.x r.y rad with
              | true =>
                rw [hv, Bool.true_or] at s2
                have hmp1 : AV.d (D.bool true) = AV.d (D.bool (fdB (M.take (j + 1)) tr r.x r.y rad)) := by rw [s2]
                conv => whnf
                repeat' (first | ((refine PickE.map j ht (by omega) ?_); conv => whnf) | ((with_reducible refine Split.of_true ?_); conv => whnf) | ((with_reducible refine Split.of_false ?_); conv => whnf) | ((with_reducible refine Split.neg ?_)) | ((with_reducible refine Split.is_true ?_ ?_); decide; conv => whnf) | ((with_reducible refine Split.is_false ?_ ?_); decide; conv => whnf) | ((with_reducible refine Split.nez (fun _ => ?_) (fun _ => ?_)) <;> conv => whnf) | ((with_reducible refine Split.eqz (fun _ => ?_) (fun _ => ?_)) <;> conv => whnf) | ((with_reducible refine Split.and ?_)) | ((with_reducible refine Split.or ?_)) | ((with_reducible refine Split.dec (fun _ => ?_) (fun _ => ?_)) <;> conv => whnf) | ((with_reducible refine Split.mk (fun _ => ?_) (fun _ => ?_)) <;> conv => whnf) | ((with_reducible refine AltK.l ?_); (conv => whnf); (with_reducible refine Need.mk ?_ ?_); (first | omega | (refine ⟨?_, ?_⟩ <;> simp <;> omega) | (simp; omega)); conv => whnf) | ((with_reducible refine Need.mk ?_ ?_); (first | omega | rfl | decide | (refine ⟨?_, ?_⟩ <;> simp <;> omega) | (simp; omega)); conv => whnf) | ((with_reducible refine Wr.inr ?_ ?_); (first | omega | (simp; omega)); conv => whnf) | ((with_reducible refine AltK.l ?_); (conv => whnf); (first | (refine CallK.mk _ (hq) ?_)); conv => whnf) | (exfalso; first | omega | contradiction))
                all_goals exact Again.au (j + 1) (by omega) (by omega) (by refine ⟨?_, ?_, rfl⟩ <;> (repeat' (first | exact True.intro | exact rfl | refine ⟨?_, ?_⟩ | (intro h; cases h; done) | (intro h; exact h) | exact map_snoc | (refine own_congr ?_; simp; done) | (refine int_congr ?_; (first | omega | (simp; omega))) | (simp; done) | exact hmp1 | ((first | refine own_congr ?_ | refine int_congr ?_ | skip); simp [D.cells]; done) | ((first | refine own_congr ?_ | refine int_congr ?_); simp [D.cells]; omega) | (show @Eq (List Go.Vm.D) _ []; simp [D.cells]; done) | (simp [D.cells, D.cells]; done))))
              | false =>
                rw [hv, Bool.false_or] at s2
                by_cases htr : t.hi ≥ tr
                · rw [decide_eq_true htr, Bool.true_and] at s2
                  have hmp1 : AV.d (D.bool (decide (sqS t r.x r.y ≤ rad * rad))) = AV.d (D.bool (fdB (M.take (j + 1)) tr r.x r.y rad)) := by rw [s2]
                  conv => whnf
                  repeat' (first | ((refine PickE.map j ht (by omega) ?_); conv => whnf) | ((with_reducible refine Split.of_true ?_); conv => whnf) | ((with_reducible refine Split.of_false ?_); conv => whnf) | ((with_reducible refine Split.neg ?_)) | ((with_reducible refine Split.is_true ?_ ?_); decide; conv => whnf) | ((with_reducible refine Split.is_false ?_ ?_); decide; conv => whnf) | ((with_reducible refine Split.nez (fun _ => ?_) (fun _ => ?_)) <;> conv => whnf) | ((with_reducible refine Split.eqz (fun _ => ?_) (fun _ => ?_)) <;> conv => whnf) | ((with_reducible refine Split.and ?_)) | ((with_reducible refine Split.or ?_)) | ((with_reducible refine Split.dec (fun _ => ?_) (fun _ => ?_)) <;> conv => whnf) | ((with_reducible refine Split.mk (fun _ => ?_) (fun _ => ?_)) <;> conv => whnf) | ((with_reducible refine AltK.l ?_); (conv => whnf); (with_reducible refine Need.mk ?_ ?_); (first | omega | (refine ⟨?_, ?_⟩ <;> simp <;> omega) | (simp; omega)); conv => whnf) | ((with_reducible refine Need.mk ?_ ?_); (first | omega | rfl | decide | (refine ⟨?_, ?_⟩ <;> simp <;> omega) | (simp; omega)); conv => whnf) | ((with_reducible refine Wr.inr ?_ ?_); (first | omega | (simp; omega)); conv => whnf) | ((with_reducible refine AltK.l ?_); (conv => whnf); (first | (refine CallK.mk _ (hq) ?_)); conv => whnf) | (exfalso; first | omega | contradiction))
                  all_goals exact Again.au (j + 1) (by omega) (by omega) (by refine ⟨?_, ?_, rfl⟩ <;> (repeat' (first | exact True.intro | exact rfl | refine ⟨?_, ?_⟩ | (intro h; cases h; done) | (intro h; exact h) | exact map_snoc | (refine own_congr ?_; simp; done) | (refine int_congr ?_; (first | omega | (simp; omega))) | (simp; done) | exact hmp1 | ((first | refine own_congr ?_ | refine int_congr ?_ | skip); simp [D.cells]; done) | ((first | refine own_congr ?_ | refine int_congr ?_); simp [D.cells]; omega) | (show @Eq (List Go.Vm.D) _ []; simp [D.cells]; done) | (simp [D.cells, D.cells]; done))))
                · rw [decide_eq_false htr, Bool.false_and] at s2
                  have hmp1 : AV.d (D.bool false) = AV.d (D.bool (fdB (M.take (j + 1)) tr r.x r.y rad)) := by rw [s2]
                  conv => whnf
                  repeat' (first | ((refine PickE.map j ht (by omega) ?_); conv => whnf) | ((with_reducible refine Split.of_true ?_); conv => whnf) | ((with_reducible refine Split.of_false ?_); conv => whnf) | ((with_reducible refine Split.neg ?_)) | ((with_reducible refine Split.is_true ?_ ?_); decide; conv => whnf) | ((with_reducible refine Split.is_false ?_ ?_); decide; conv => whnf) | ((with_reducible refine Split.nez (fun _ => ?_) (fun _ => ?_)) <;> conv => whnf) | ((with_reducible refine Split.eqz (fun _ => ?_) (fun _ => ?_)) <;> conv => whnf) | ((with_reducible refine Split.and ?_)) | ((with_reducible refine Split.or ?_)) | ((with_reducible refine Split.dec (fun _ => ?_) (fun _ => ?_)) <;> conv => whnf) | ((with_reducible refine Split.mk (fun _ => ?_) (fun _ => ?_)) <;> conv => whnf) | ((with_reducible refine AltK.l ?_); (conv => whnf); (with_reducible refine Need.mk ?_ ?_); (first | omega | (refine ⟨?_, ?_⟩ <;> simp <;> omega) | (simp; omega)); conv => whnf) | ((with_reducible refine Need.mk ?_ ?_); (first | omega | rfl | decide | (refine ⟨?_, ?_⟩ <;> simp <;> omega) | (simp; omega)); conv => whnf) | ((with_reducible refine Wr.inr ?_ ?_); (first | omega | (simp; omega)); conv => whnf) | ((with_reducible refine AltK.l ?_); (conv => whnf); (first | (refine CallK.mk _ (hq) ?_)); conv => whnf) | (exfalso; first | omega | contradiction))
                  all_goals exact Again.au (j + 1) (by omega) (by omega) (by refine ⟨?_, ?_, rfl⟩ <;> (repeat' (first | exact True.intro | exact rfl | refine ⟨?_, ?_⟩ | (intro h; cases h; done) | (intro h; exact h) | exact map_snoc | (refine own_congr ?_; simp; done) | (refine int_congr ?_; (first | omega | (simp; omega))) | (simp; done) | exact hmp1 | ((first | refine own_congr ?_ | refine int_congr ?_ | skip); simp [D.cells]; done) | ((first | refine own_congr ?_ | refine int_congr ?_); simp [D.cells]; omega) | (show @Eq (List Go.Vm.D) _ []; simp [D.cells]; done) | (simp [D.cells, D.cells]; done))))
            · have hfd : fdB M tr r.x r.y rad = true := by
                obtain ⟨t, ht, t1, t2⟩ := hnr
                rw [hsx, hsy] at t2
                exact List.any_eq_true.2 ⟨t, ht, by simp; omega⟩
              have hfd2 : fdB (M.take j) tr r.x r.y rad = true := by rw [List.take_of_length_le (by omega)]; exact hfd
              conv => whnf
              repeat' (first | ((refine Split.is_true hfd2 ?_); conv => whnf) | ((with_reducible refine Split.of_true ?_); conv => whnf) | ((with_reducible refine Split.of_false ?_); conv => whnf) | ((with_reducible refine Split.neg ?_)) | ((with_reducible refine Split.is_true ?_ ?_); decide; conv => whnf) | ((with_reducible refine Split.is_false ?_ ?_); decide; conv => whnf) | ((with_reducible refine Split.nez (fun _ => ?_) (fun _ => ?_)) <;> conv => whnf) | ((with_reducible refine Split.eqz (fun _ => ?_) (fun _ => ?_)) <;> conv => whnf) | ((with_reducible refine Split.and ?_)) | ((with_reducible refine Split.or ?_)) | ((with_reducible refine Split.dec (fun _ => ?_) (fun _ => ?_)) <;> conv => whnf) | ((with_reducible refine Split.mk (fun _ => ?_) (fun _ => ?_)) <;> conv => whnf) | ((with_reducible refine AltK.l ?_); (conv => whnf); (with_reducible refine Need.mk ?_ ?_); (first | omega | (refine ⟨?_, ?_⟩ <;> simp <;> omega) | (simp; omega)); conv => whnf) | ((with_reducible refine Need.mk ?_ ?_); (first | omega | rfl | decide | (refine ⟨?_, ?_⟩ <;> simp <;> omega) | (simp; omega)); conv => whnf) | ((with_reducible refine Wr.inr ?_ ?_); (first | omega | (simp; omega)); conv => whnf) | (exfalso; first | omega | contradiction))
              exact Again.au (k + 1) (by omega) (by omega) (by refine ⟨?_, ?_, rfl⟩ <;> (repeat' (first | exact True.intro | exact rfl | refine ⟨?_, ?_⟩ | (intro h; cases h; done) | (intro h; exact h) | exact map_snoc | (refine own_congr ?_; simp; done) | (refine int_congr ?_; (first | omega | (simp; omega))) | (simp; done))))
    · obtain ⟨ra, hra⟩ := some_of_lt (show a < rs.length by omega)
      have hne : ra.n ≠ r.n := by
        have := (List.pairwise_iff_getElem.1 hru) a J (by omega) hJl (by omega)
        rw [(List.getElem?_eq_some_iff.1 hra).2, (List.getElem?_eq_some_iff.1 hJ).2] at this
        exact this
      conv => whnf
      repeat' (first | ((refine PickE.map k hs (by omega) ?_); conv => whnf) | ((refine PickE.map a hra (by omega) ?_); conv => whnf) | ((with_reducible refine Split.of_true ?_); conv => whnf) | ((with_reducible refine Split.of_false ?_); conv => whnf) | ((with_reducible refine Split.neg ?_)) | ((with_reducible refine Split.is_true ?_ ?_); decide; conv => whnf) | ((with_reducible refine Split.is_false ?_ ?_); decide; conv => whnf) | ((with_reducible refine Split.nez (fun _ => ?_) (fun _ => ?_)) <;> conv => whnf) | ((with_reducible refine Split.eqz (fun _ => ?_) (fun _ => ?_)) <;> conv => whnf) | ((with_reducible refine Split.and ?_)) | ((with_reducible refine Split.or ?_)) | ((with_reducible refine Split.dec (fun _ => ?_) (fun _ => ?_)) <;> conv => whnf) | ((with_reducible refine Split.mk (fun _ => ?_) (fun _ => ?_)) <;> conv => whnf) | ((with_reducible refine AltK.l ?_); (conv => whnf); (with_reducible refine Need.mk ?_ ?_); (first | omega | (refine ⟨?_, ?_⟩ <;> simp <;> omega) | (simp; omega)); conv => whnf) | ((with_reducible refine Need.mk ?_ ?_); (first | omega | rfl | decide | (refine ⟨?_, ?_⟩ <;> simp <;> omega) | (simp; omega)); conv => whnf) | ((with_reducible refine Wr.inr ?_ ?_); (first | omega | (simp; omega)); conv => whnf) | (exfalso; first | omega | contradiction))
      exact Again.au (a + 1) (by omega) (by omega) (by refine ⟨?_, ?_, rfl⟩ <;> (repeat' (first | exact True.intro | exact rfl | refine ⟨?_, ?_⟩ | (intro h; cases h; done) | (intro h; exact h) | exact map_snoc | (refine own_congr ?_; simp; done) | (refine int_congr ?_; (first | omega | (simp; omega))) | (simp; done))))
  · conv => whnf
    repeat' (first | ((with_reducible refine Split.of_true ?_); conv => whnf) | ((with_reducible refine Split.of_false ?_); conv => whnf) | ((with_reducible refine Split.neg ?_)) | ((with_reducible refine Split.is_true ?_ ?_); decide; conv => whnf) | ((with_reducible refine Split.is_false ?_ ?_); decide; conv => whnf) | ((with_reducible refine Split.nez (fun _ => ?_) (fun _ => ?_)) <;> conv => whnf) | ((with_reducible refine Split.eqz (fun _ => ?_) (fun _ => ?_)) <;> conv => whnf) | ((with_reducible refine Split.and ?_)) | ((with_reducible refine Split.or ?_)) | ((with_reducible refine Split.dec (fun _ => ?_) (fun _ => ?_)) <;> conv => whnf) | ((with_reducible refine Split.mk (fun _ => ?_) (fun _ => ?_)) <;> conv => whnf) | ((with_reducible refine AltK.l ?_); (conv => whnf); (with_reducible refine Need.mk ?_ ?_); (first | omega | (refine ⟨?_, ?_⟩ <;> simp <;> omega) | (simp; omega)); conv => whnf) | ((with_reducible refine Need.mk ?_ ?_); (first | omega | rfl | decide | (refine ⟨?_, ?_⟩ <;> simp <;> omega) | (simp; omega)); conv => whnf) | ((with_reducible refine Wr.inr ?_ ?_); (first | omega | (simp; omega)); conv => whnf) | ((with_reducible refine AltK.l ?_); (conv => whnf); (first | (refine CallK.mk _ (h7) ?_)); conv => whnf) | (exfalso; first | omega | contradiction))
    rfl
theorem ev_TopNeverDeeper (v : Sv) (wa : List Int) : Ev Tryz.prog 4 [svD v, .sl 1 (wa.map iD)] (.bool true) := by
  have h0 := ev_fit v
  have h7 := ev_three
  have hwl : (wa.map iD).length = wa.length := List.length_map _
  cases hf : fitB v with
  | false =>
    rw [hf] at h0
    refine ev_of_awp tysOk mixed (fn := Tryz.f4) Tryz.func4 rfl rfl rfl ?_
    conv => whnf
    repeat' (first | ((with_reducible refine Split.of_true ?_); conv => whnf) | ((with_reducible refine Split.of_false ?_); conv => whnf) | ((with_reducible refine Split.neg ?_)) | ((with_reducible refine Split.is_true ?_ ?_); decide; conv => whnf) | ((with_reducible refine Split.is_false ?_ ?_); decide; conv => whnf) | ((with_reducible refine Split.nez (fun _ => ?_) (fun _ => ?_)) <;> conv => whnf) | ((with_reducible refine Split.eqz (fun _ => ?_) (fun _ => ?_)) <;> conv => whnf) | ((with_reducible refine Split.and ?_)) | ((with_reducible refine Split.or ?_)) | ((with_reducible refine Split.dec (fun _ => ?_) (fun _ => ?_)) <;> conv => whnf) | ((with_reducible refine Split.mk (fun _ => ?_) (fun _ => ?_)) <;> conv => whnf) | ((with_reducible refine AltK.l ?_); (conv => whnf); (with_reducible refine Need.mk ?_ ?_); (first | omega | (refine ⟨?_, ?_⟩ <;> simp <;> omega) | (simp; omega)); conv => whnf) | ((with_reducible refine Need.mk ?_ ?_); (first | omega | rfl | decide | (refine ⟨?_, ?_⟩ <;> simp <;> omega) | (simp; omega)); conv => whnf) | ((with_reducible refine Wr.inr ?_ ?_); (first | omega | (simp; omega)); conv => whnf) | ((with_reducible refine AltK.l ?_); (conv => whnf); (first | (refine CallK.mk _ (h0) ?_) | (refine CallK.mk _ (h7) ?_)); conv => whnf) | (exfalso; first | omega | contradiction))
    rfl
  | true =>
    cases hy : badS v.fr hiV (outS v.gs v.rs) with
    | true => exact nd_out v wa hf hy
    | false => exact nd_in v wa hf hy
end Go.Proofs.Tryz
end
