/- Texts TpG, joined; what is not needed is left out. -/
import Derived.Test.YtpbhikmlcaddmaaMpe
section
namespace Go.Proofs.Try
open Go Go.Vm Go.Sort
set_option maxRecDepth 20000
set_option maxHeartbeats 40000000
/-! TopWorseTide. -/
structure Sv where
  gs : List Ga
  rs : List Rw
  fr : Gr
  rad : Int
def svD (v : Sv) : D := .agg [.sl 4 (v.gs.map gD), .sl 7 (v.rs.map rD), iD v.fr.x, iD v.fr.y, iD v.fr.side, iD v.fr.cols, iD v.fr.rows, .sl 1 (v.fr.lv.map iD), iD v.rad]
def fitA (v : Sv) : Bool := decide (v.gs.length ≤ 4) && decide (v.rs.length ≤ 20) && decide (gsErr v.gs = 0) && decide (chkErr rawB Rw.n v.rs = 0) && decide (frErr v.fr = 0) && decide (v.fr.cols * v.fr.rows ≤ 60) && !outsideB v.rad 0 100000
def fitB (v : Sv) : Bool := fitA v && v.gs.all fun g => decide (g.marks.length ≤ 10)
structure Fit (v : Sv) : Prop where
  few : v.rs.length ≤ 20
  gs : gsErr v.gs = 0
  rs : chkErr rawB Rw.n v.rs = 0
  fr : frErr v.fr = 0
  rad : 0 ≤ v.rad ∧ v.rad ≤ 100000
theorem fit_of {v : Sv} (h : fitB v = true) : Fit v := by
  simp [fitB, fitA, outsideB] at h
  exact ⟨by omega, by omega, by omega, by omega, by omega⟩
theorem ev_fit (v : Sv) : Ev Try.prog 4 [svD v] (.bool (fitB v)) := by
  obtain ⟨gs, rs, fr, rad⟩ := v
  have hg : (gs.map gD).length = gs.length := List.length_map _
  have hr : (rs.map rD).length = rs.length := List.length_map _
  have h1 := ev_CheckGaugesR gs
  have h2 := ev_CheckRR rs
  have h3 := ev_CheckFrame fr
  have h4 := ev_Within rad 0 100000
  show Ev Try.prog 4 [.agg [.sl 4 (gs.map gD), .sl 7 (rs.map rD), iD fr.x, iD fr.y, iD fr.side, iD fr.cols, iD fr.rows, .sl 1 (fr.lv.map iD), iD rad]] (.bool (fitA ⟨gs, rs, fr, rad⟩ && gs.all fun g => decide (g.marks.length ≤ 10)))
  by_cases good : gsErr gs = 0 ∧ chkErr rawB Rw.n rs = 0 ∧ frErr fr = 0
  · obtain ⟨g0, c0, f0⟩ := good
    have hal := (fr_ok f0).all
    rw [g0] at h1
    rw [c0] at h2
    rw [f0] at h3
    have e : fitA ⟨gs, rs, fr, rad⟩ = (decide (gs.length ≤ 4) && decide (rs.length ≤ 20) && decide (fr.cols * fr.rows ≤ 60) && !outsideB rad 0 100000) := by simp [fitA, g0, c0, f0]
    rw [e]
    cases ho : outsideB rad 0 100000 with
    | true =>
      rw [ho] at h4
      simp only [Bool.not_true, Bool.and_false, Bool.false_and]
      refine ev_of_awp tysOk mixed (fn := Try.f4) Try.func4 rfl rfl rfl ?_
      conv => whnf
      repeat' (first
        | ((with_reducible refine Split.of_true ?_); conv => whnf)
        | ((with_reducible refine Split.of_false ?_); conv => whnf)
        | ((with_reducible refine Split.neg ?_))
        | ((with_reducible refine Split.is_true ?_ ?_); decide; conv => whnf)
        | ((with_reducible refine Split.is_false ?_ ?_); decide; conv => whnf)
        | ((with_reducible refine Split.nez (fun _ => ?_) (fun _ => ?_)) <;> conv => whnf)
        | ((with_reducible refine Split.eqz (fun _ => ?_) (fun _ => ?_)) <;> conv => whnf)
        | ((with_reducible refine Split.and ?_))
        | ((with_reducible refine Split.or ?_))
        | ((with_reducible refine Split.streq (fun _ => ?_) (fun _ => ?_)) <;> conv => whnf)
        | ((with_reducible refine Split.dec (fun _ => ?_) (fun _ => ?_)) <;> conv => whnf)
        | ((with_reducible refine Split.mk (fun _ => ?_) (fun _ => ?_)) <;> conv => whnf)
        | ((with_reducible refine NilK.mk (fun _ => ?_) ?_) <;> conv => whnf)
        | ((with_reducible refine AltK.l ?_); (conv => whnf); (with_reducible refine Need.mk ?_ ?_); (first | omega | (refine ⟨?_, ?_⟩ <;> simp <;> omega) | (simp; omega)); conv => whnf)
        | ((with_reducible refine Need.mk ?_ ?_); (first | omega | rfl | decide | (refine ⟨?_, ?_⟩ <;> simp <;> omega) | (simp; omega)); conv => whnf)
        | ((with_reducible refine Wr.quo ?_ ?_ ?_ ?_); omega; omega; omega; conv => whnf)
        | ((with_reducible refine Wr.inr ?_ ?_); (first | omega | (simp; omega)); conv => whnf)
        | ((with_reducible refine Wr.inu ?_ ?_); omega; conv => whnf)
        | ((with_reducible refine AltK.l ?_); (conv => whnf); (first | (refine CallK.mk _ (h1) ?_) | (refine CallK.mk _ (h2) ?_) | (refine CallK.mk _ (h3) ?_) | (refine CallK.mk _ (h4) ?_)); conv => whnf)
        | (exfalso; first | omega | contradiction))
      all_goals rfl
    | false =>
      rw [ho] at h4
      simp only [Bool.not_false, Bool.and_true]
      by_cases hb : gs.length ≤ 4 ∧ rs.length ≤ 20 ∧ fr.cols * fr.rows ≤ 60
      · obtain ⟨b1, b2, b3⟩ := hb
        rw [decide_eq_true b1, decide_eq_true b2, decide_eq_true b3]
        simp only [Bool.and_true, Bool.true_and]
        refine ev_of_awp tysOk mixed (fn := Try.f4) Try.func4 rfl rfl rfl ?_
        conv => whnf
        repeat' (first
          | ((with_reducible refine Split.of_true ?_); conv => whnf)
          | ((with_reducible refine Split.of_false ?_); conv => whnf)
          | ((with_reducible refine Split.neg ?_))
          | ((with_reducible refine Split.is_true ?_ ?_); decide; conv => whnf)
          | ((with_reducible refine Split.is_false ?_ ?_); decide; conv => whnf)
          | ((with_reducible refine Split.nez (fun _ => ?_) (fun _ => ?_)) <;> conv => whnf)
          | ((with_reducible refine Split.eqz (fun _ => ?_) (fun _ => ?_)) <;> conv => whnf)
          | ((with_reducible refine Split.and ?_))
          | ((with_reducible refine Split.or ?_))
          | ((with_reducible refine Split.streq (fun _ => ?_) (fun _ => ?_)) <;> conv => whnf)
          | ((with_reducible refine Split.dec (fun _ => ?_) (fun _ => ?_)) <;> conv => whnf)
          | ((with_reducible refine Split.mk (fun _ => ?_) (fun _ => ?_)) <;> conv => whnf)
          | ((with_reducible refine NilK.mk (fun _ => ?_) ?_) <;> conv => whnf)
          | ((with_reducible refine AltK.l ?_); (conv => whnf); (with_reducible refine Need.mk ?_ ?_); (first | omega | (refine ⟨?_, ?_⟩ <;> simp <;> omega) | (simp; omega)); conv => whnf)
          | ((with_reducible refine Need.mk ?_ ?_); (first | omega | rfl | decide | (refine ⟨?_, ?_⟩ <;> simp <;> omega) | (simp; omega)); conv => whnf)
          | ((with_reducible refine Wr.quo ?_ ?_ ?_ ?_); omega; omega; omega; conv => whnf)
          | ((with_reducible refine Wr.inr ?_ ?_); (first | omega | (simp; omega)); conv => whnf)
          | ((with_reducible refine Wr.inu ?_ ?_); omega; conv => whnf)
          | ((with_reducible refine AltK.l ?_); (conv => whnf); (first | (refine CallK.mk _ (h1) ?_) | (refine CallK.mk _ (h2) ?_) | (refine CallK.mk _ (h3) ?_) | (refine CallK.mk _ (h4) ?_)); conv => whnf)
          | (exfalso; first | omega | contradiction))
        refine LoopK.o2 (fun i : Nat => i ≤ gs.length ∧ ∀ g ∈ gs.take i, decide (g.marks.length ≤ 10) = true) (fun i => [(3, .d (.int .i64 i))]) (fun _ => []) (fun i => gs.length - i) 0 (by simp) (by refine ⟨?_, ?_, rfl⟩ <;> (repeat' (first | exact True.intro | exact rfl | refine ⟨?_, ?_⟩ | (intro h; cases h; done) | (intro h; exact h) | exact map_snoc | (refine own_congr ?_; simp; done) | (refine int_congr ?_; (first | omega | (simp; omega))) | (simp; done)))) ?_
        rintro i ⟨hi, hp⟩
        by_cases hil : i < gs.length
        · obtain ⟨g, hgi⟩ := some_of_lt hil
          have em : (g.marks.map mD).length = g.marks.length := List.length_map _
          conv => whnf
          repeat' (first
            | ((refine PickE.map i hgi (by omega) ?_); conv => whnf)
            | ((with_reducible refine Split.of_true ?_); conv => whnf)
            | ((with_reducible refine Split.of_false ?_); conv => whnf)
            | ((with_reducible refine Split.neg ?_))
            | ((with_reducible refine Split.is_true ?_ ?_); decide; conv => whnf)
            | ((with_reducible refine Split.is_false ?_ ?_); decide; conv => whnf)
            | ((with_reducible refine Split.nez (fun _ => ?_) (fun _ => ?_)) <;> conv => whnf)
            | ((with_reducible refine Split.eqz (fun _ => ?_) (fun _ => ?_)) <;> conv => whnf)
            | ((with_reducible refine Split.and ?_))
            | ((with_reducible refine Split.or ?_))
            | ((with_reducible refine Split.streq (fun _ => ?_) (fun _ => ?_)) <;> conv => whnf)
            | ((with_reducible refine Split.dec (fun _ => ?_) (fun _ => ?_)) <;> conv => whnf)
            | ((with_reducible refine Split.mk (fun _ => ?_) (fun _ => ?_)) <;> conv => whnf)
            | ((with_reducible refine NilK.mk (fun _ => ?_) ?_) <;> conv => whnf)
            | ((with_reducible refine AltK.l ?_); (conv => whnf); (with_reducible refine Need.mk ?_ ?_); (first | omega | (refine ⟨?_, ?_⟩ <;> simp <;> omega) | (simp; omega)); conv => whnf)
            | ((with_reducible refine Need.mk ?_ ?_); (first | omega | rfl | decide | (refine ⟨?_, ?_⟩ <;> simp <;> omega) | (simp; omega)); conv => whnf)
            | ((with_reducible refine Wr.quo ?_ ?_ ?_ ?_); omega; omega; omega; conv => whnf)
            | ((with_reducible refine Wr.inr ?_ ?_); (first | omega | (simp; omega)); conv => whnf)
            | ((with_reducible refine Wr.inu ?_ ?_); omega; conv => whnf)
            | (exfalso; first | omega | contradiction))
          · have : (gs.all fun g => decide (g.marks.length ≤ 10)) = false := by
              rw [List.all_eq_false]
              exact ⟨g, List.mem_of_getElem? hgi, by simp; omega⟩
            rw [this]; rfl
          · refine Again.au (i + 1) ⟨by omega, fun x hx => ?_⟩ (by omega) (by refine ⟨?_, ?_, rfl⟩ <;> (repeat' (first | exact True.intro | exact rfl | refine ⟨?_, ?_⟩ | (intro h; cases h; done) | (intro h; exact h) | exact map_snoc | (refine own_congr ?_; simp; done) | (refine int_congr ?_; (first | omega | (simp; omega))) | (simp; done))))
            rw [take_snoc hgi] at hx
            rcases List.mem_append.1 hx with hx | hx
            · exact hp x hx
            · rw [List.mem_singleton.1 hx]; simp; omega
        · rw [List.take_of_length_le (by omega)] at hp
          rw [List.all_eq_true.2 hp]
          conv => whnf
          repeat' (first
            | ((with_reducible refine Split.of_true ?_); conv => whnf)
            | ((with_reducible refine Split.of_false ?_); conv => whnf)
            | ((with_reducible refine Split.neg ?_))
            | ((with_reducible refine Split.is_true ?_ ?_); decide; conv => whnf)
            | ((with_reducible refine Split.is_false ?_ ?_); decide; conv => whnf)
            | ((with_reducible refine Split.nez (fun _ => ?_) (fun _ => ?_)) <;> conv => whnf)
            | ((with_reducible refine Split.eqz (fun _ => ?_) (fun _ => ?_)) <;> conv => whnf)
            | ((with_reducible refine Split.and ?_))
            | ((with_reducible refine Split.or ?_))
            | ((with_reducible refine Split.streq (fun _ => ?_) (fun _ => ?_)) <;> conv => whnf)
            | ((with_reducible refine Split.dec (fun _ => ?_) (fun _ => ?_)) <;> conv => whnf)
            | ((with_reducible refine Split.mk (fun _ => ?_) (fun _ => ?_)) <;> conv => whnf)
            | ((with_reducible refine NilK.mk (fun _ => ?_) ?_) <;> conv => whnf)
            | ((with_reducible refine AltK.l ?_); (conv => whnf); (with_reducible refine Need.mk ?_ ?_); (first | omega | (refine ⟨?_, ?_⟩ <;> simp <;> omega) | (simp; omega)); conv => whnf)
            | ((with_reducible refine Need.mk ?_ ?_); (first | omega | rfl | decide | (refine ⟨?_, ?_⟩ <;> simp <;> omega) | (simp; omega)); conv => whnf)
            | ((with_reducible refine Wr.quo ?_ ?_ ?_ ?_); omega; omega; omega; conv => whnf)
            | ((with_reducible refine Wr.inr ?_ ?_); (first | omega | (simp; omega)); conv => whnf)
            | ((with_reducible refine Wr.inu ?_ ?_); omega; conv => whnf)
            | (exfalso; first | omega | contradiction))
          rfl
      · have : (decide (gs.length ≤ 4) && decide (rs.length ≤ 20) && decide (fr.cols * fr.rows ≤ 60)) = false := by
          simp only [Bool.and_eq_false_iff, decide_eq_false_iff_not]; omega
        rw [this, Bool.false_and]
        refine ev_of_awp tysOk mixed (fn := Try.f4) Try.func4 rfl rfl rfl ?_
        conv => whnf
        repeat' (first
          | ((with_reducible refine Split.of_true ?_); conv => whnf)
          | ((with_reducible refine Split.of_false ?_); conv => whnf)
          | ((with_reducible refine Split.neg ?_))
          | ((with_reducible refine Split.is_true ?_ ?_); decide; conv => whnf)
          | ((with_reducible refine Split.is_false ?_ ?_); decide; conv => whnf)
          | ((with_reducible refine Split.nez (fun _ => ?_) (fun _ => ?_)) <;> conv => whnf)
          | ((with_reducible refine Split.eqz (fun _ => ?_) (fun _ => ?_)) <;> conv => whnf)
          | ((with_reducible refine Split.and ?_))
          | ((with_reducible refine Split.or ?_))
          | ((with_reducible refine Split.streq (fun _ => ?_) (fun _ => ?_)) <;> conv => whnf)
          | ((with_reducible refine Split.dec (fun _ => ?_) (fun _ => ?_)) <;> conv => whnf)
          | ((with_reducible refine Split.mk (fun _ => ?_) (fun _ => ?_)) <;> conv => whnf)
          | ((with_reducible refine NilK.mk (fun _ => ?_) ?_) <;> conv => whnf)
          | ((with_reducible refine AltK.l ?_); (conv => whnf); (with_reducible refine Need.mk ?_ ?_); (first | omega | (refine ⟨?_, ?_⟩ <;> simp <;> omega) | (simp; omega)); conv => whnf)
          | ((with_reducible refine Need.mk ?_ ?_); (first | omega | rfl | decide | (refine ⟨?_, ?_⟩ <;> simp <;> omega) | (simp; omega)); conv => whnf)
          | ((with_reducible refine Wr.quo ?_ ?_ ?_ ?_); omega; omega; omega; conv => whnf)
          | ((with_reducible refine Wr.inr ?_ ?_); (first | omega | (simp; omega)); conv => whnf)
          | ((with_reducible refine Wr.inu ?_ ?_); omega; conv => whnf)
          | ((with_reducible refine AltK.l ?_); (conv => whnf); (first | (refine CallK.mk _ (h1) ?_) | (refine CallK.mk _ (h2) ?_) | (refine CallK.mk _ (h3) ?_) | (refine CallK.mk _ (h4) ?_)); conv => whnf)
          | (exfalso; first | omega | contradiction))
        all_goals first | rfl | (exfalso; omega)
  · have : fitA ⟨gs, rs, fr, rad⟩ = false := by
      simp only [fitA, Bool.and_eq_false_iff, decide_eq_false_iff_not, Bool.not_eq_false']; omega
    rw [this, Bool.false_and]
    refine ev_of_awp tysOk mixed (fn := Try.f4) Try.func4 rfl rfl rfl ?_
    conv => whnf
    repeat' (first
      | ((with_reducible refine Split.of_true ?_); conv => whnf)
      | ((with_reducible refine Split.of_false ?_); conv => whnf)
      | ((with_reducible refine Split.neg ?_))
      | ((with_reducible refine Split.is_true ?_ ?_); decide; conv => whnf)
      | ((with_reducible refine Split.is_false ?_ ?_); decide; conv => whnf)
      | ((with_reducible refine Split.nez (fun _ => ?_) (fun _ => ?_)) <;> conv => whnf)
      | ((with_reducible refine Split.eqz (fun _ => ?_) (fun _ => ?_)) <;> conv => whnf)
      | ((with_reducible refine Split.and ?_))
      | ((with_reducible refine Split.or ?_))
      | ((with_reducible refine Split.streq (fun _ => ?_) (fun _ => ?_)) <;> conv => whnf)
      | ((with_reducible refine Split.dec (fun _ => ?_) (fun _ => ?_)) <;> conv => whnf)
      | ((with_reducible refine Split.mk (fun _ => ?_) (fun _ => ?_)) <;> conv => whnf)
      | ((with_reducible refine NilK.mk (fun _ => ?_) ?_) <;> conv => whnf)
      | ((with_reducible refine AltK.l ?_); (conv => whnf); (with_reducible refine Need.mk ?_ ?_); (first | omega | (refine ⟨?_, ?_⟩ <;> simp <;> omega) | (simp; omega)); conv => whnf)
      | ((with_reducible refine Need.mk ?_ ?_); (first | omega | rfl | decide | (refine ⟨?_, ?_⟩ <;> simp <;> omega) | (simp; omega)); conv => whnf)
      | ((with_reducible refine Wr.quo ?_ ?_ ?_ ?_); omega; omega; omega; conv => whnf)
      | ((with_reducible refine Wr.inr ?_ ?_); (first | omega | (simp; omega)); conv => whnf)
      | ((with_reducible refine Wr.inu ?_ ?_); omega; conv => whnf)
      | ((with_reducible refine AltK.l ?_); (conv => whnf); (first | (refine CallK.mk _ (h1) ?_) | (refine CallK.mk _ (h2) ?_) | (refine CallK.mk _ (h3) ?_) | (refine CallK.mk _ (h4) ?_)); conv => whnf)
      | (exfalso; first | omega | contradiction))
    all_goals first | rfl | (exfalso; omega)
def cSurvey : List Cs := [.sl true cGauge, .sl true cRaw, .int .i64, .int .i64, .int .i64, .int .i64, .int .i64, .sl false [.int .i64], .int .i64]
theorem sv_of {d : D} (h : TyV (true, cSurvey) d) : ∃ v, d = svD v := by
  obtain ⟨ds, rfl, hl, hc⟩ := agg_of h
  match ds, hl with
  | [a, b, c, e, f, i, j, k, m], _ =>
    obtain ⟨g, rfl⟩ := gauges_of (hc 0 _ a rfl rfl)
    obtain ⟨r, rfl⟩ := raws_of (hc 1 _ b rfl rfl)
    obtain ⟨x0, rfl, -⟩ := int_of (hc 2 _ c rfl rfl)
    obtain ⟨x1, rfl, -⟩ := int_of (hc 3 _ e rfl rfl)
    obtain ⟨x2, rfl, -⟩ := int_of (hc 4 _ f rfl rfl)
    obtain ⟨x3, rfl, -⟩ := int_of (hc 5 _ i rfl rfl)
    obtain ⟨x4, rfl, -⟩ := int_of (hc 6 _ j rfl rfl)
    obtain ⟨l, rfl⟩ := ints_of (hc 7 _ k rfl rfl)
    obtain ⟨x5, rfl, -⟩ := int_of (hc 8 _ m rfl rfl)
    exact ⟨⟨g, r, ⟨x0, x1, x2, x3, x4, l⟩, x5⟩, rfl⟩
theorem lv_of {fr : Gr} {A : List Sg} (h : badS fr hiV A = false) : ∀ n ∈ levS fr hiV A, lvBad n = false := by
  intro n hn
  obtain ⟨i, hi, rfl⟩ := List.mem_map.1 hn
  rw [badS, List.any_eq_false] at h
  have := h i hi
  cases hm : maxO fr hiV A (i : Int) with
  | none => rfl
  | some x =>
    rw [hm] at this
    have hx : outsideB x (-20000) 20000 = false := by simpa [badO] using this
    show lvBad x = false
    rw [lvBad, hx, Bool.and_false]
theorem sh_rel {fr : Gr} {A B : List Sg} (hA : badS fr hiV A = false) (hB : badS fr hiV B = false) (h : ∀ i : Int, mxRel (maxO fr hiV A i) (maxO fr hiV B i)) :
    ∀ (i : Nat) x y, (levS fr hiV A)[i]? = some x → (levS fr hiV B)[i]? = some y → shV x y = y := by
  intro i x y hx hy
  have hi : i < cellsN fr := by have := lt_of_some hx; rwa [lev_len] at this
  rw [lev_get hi] at hx hy
  cases hx
  cases hy
  have hr := h i
  have bA := List.any_eq_false.1 hA i (List.mem_range.2 hi)
  have bB := List.any_eq_false.1 hB i (List.mem_range.2 hi)
  cases h1 : maxO fr hiV A (i : Int) with
  | none =>
    rw [h1] at hr
    cases h2 : maxO fr hiV B (i : Int) with
    | none => rfl
    | some y => rw [h2] at hr; cases hr
  | some x =>
    rw [h1] at hr bA
    cases h2 : maxO fr hiV B (i : Int) with
    | none => rw [h2] at hr; cases hr
    | some y =>
      rw [h2] at hr bB
      have hxy : x ≤ y := hr
      simp [badO, outsideB] at bA bB
      show shV x y = y
      unfold shV maxI
      rw [if_neg (by omega), if_neg (by omega)]
      split <;> omega
theorem ev_TopWorseTide (v : Sv) (d : Int) (hd : 0 ≤ d ∧ d ≤ 255) : Ev Try.prog 3 [svD v, .int .u8 d] (.bool true) := by
  have h0 := ev_fit v
  have h7 := ev_three
  cases hf : fitB v with
  | false =>
    rw [hf] at h0
    refine ev_of_awp tysOk mixed (fn := Try.f3) Try.func3 rfl rfl rfl ?_
    conv => whnf
    repeat' (first
      | ((with_reducible refine Split.of_true ?_); conv => whnf)
      | ((with_reducible refine Split.of_false ?_); conv => whnf)
      | ((with_reducible refine Split.neg ?_))
      | ((with_reducible refine Split.is_true ?_ ?_); decide; conv => whnf)
      | ((with_reducible refine Split.is_false ?_ ?_); decide; conv => whnf)
      | ((with_reducible refine Split.nez (fun _ => ?_) (fun _ => ?_)) <;> conv => whnf)
      | ((with_reducible refine Split.eqz (fun _ => ?_) (fun _ => ?_)) <;> conv => whnf)
      | ((with_reducible refine Split.and ?_))
      | ((with_reducible refine Split.or ?_))
      | ((with_reducible refine Split.streq (fun _ => ?_) (fun _ => ?_)) <;> conv => whnf)
      | ((with_reducible refine Split.dec (fun _ => ?_) (fun _ => ?_)) <;> conv => whnf)
      | ((with_reducible refine Split.mk (fun _ => ?_) (fun _ => ?_)) <;> conv => whnf)
      | ((with_reducible refine NilK.mk (fun _ => ?_) ?_) <;> conv => whnf)
      | ((with_reducible refine AltK.l ?_); (conv => whnf); (with_reducible refine Need.mk ?_ ?_); (first | omega | (refine ⟨?_, ?_⟩ <;> simp <;> omega) | (simp; omega)); conv => whnf)
      | ((with_reducible refine Need.mk ?_ ?_); (first | omega | rfl | decide | (refine ⟨?_, ?_⟩ <;> simp <;> omega) | (simp; omega)); conv => whnf)
      | ((with_reducible refine Wr.quo ?_ ?_ ?_ ?_); omega; omega; omega; conv => whnf)
      | ((with_reducible refine Wr.inr ?_ ?_); (first | omega | (simp; omega)); conv => whnf)
      | ((with_reducible refine Wr.inu ?_ ?_); omega; conv => whnf)
      | ((with_reducible refine AltK.l ?_); (conv => whnf); (first | (refine CallK.mk _ (h0) ?_) | (refine CallK.mk _ (h7) ?_)); conv => whnf)
      | (exfalso; first | omega | contradiction))
    rfl
  | true =>
  rw [hf] at h0
  obtain ⟨few, g0, c0, f0, hrad⟩ := fit_of hf
  clear hf
  obtain ⟨gs, rs, fr, rad⟩ := v
  dsimp only at few g0 c0 f0 hrad
  replace h0 : Ev Try.prog 4 [.agg [.sl 4 (gs.map gD), .sl 7 (rs.map rD), iD fr.x, iD fr.y, iD fr.side, iD fr.cols, iD fr.rows, .sl 1 (fr.lv.map iD), iD rad]] (.bool true) := h0
  show Ev Try.prog 3 [.agg [.sl 4 (gs.map gD), .sl 7 (rs.map rD), iD fr.x, iD fr.y, iD fr.side, iD fr.cols, iD fr.rows, .sl 1 (fr.lv.map iD), iD rad], .int .u8 d] (.bool true)
  have hgl : (gs.map gD).length = gs.length := List.length_map _
  have hF := fr_ok f0
  have hal := hF.all
  have hG := goodAll g0
  have hgn := hG.len
  have g1 := wrs_gsE (d := d) hd.1 g0
  have h1 := ev_ReduceAll gs rs
  rw [raE, if_neg (by simpa using c0), if_neg (by simpa using g0)] at h1
  have h2 := ev_ReduceAll (gs.map (wrs d)) rs
  rw [raE, if_neg (by simpa using c0), if_neg (by simpa using g1)] at h2
  have hA := red_chk c0 g0
  have hB := red_chk c0 g1
  have eB := wrs_out (rs := rs) hd.1 hG
  have hrel : ∀ i : Int, mxRel (maxO fr hiV (outS gs rs) i) (maxO fr hiV (outS (gs.map (wrs d)) rs) i) := fun i => by
    rw [eB]; exact mx_rel (fun r => wrs_red hd.1 hG r) i _
  have hwr : ∀ (i : Nat) a b, (outS gs rs)[i]? = some a → (outS (gs.map (wrs d)) rs)[i]? = some b → Wr a b := fun i a b ha hb => by
    rw [eB, List.getElem?_map] at hb
    rw [outS, List.getElem?_map] at ha
    cases hr : (rs.filter (okL gs))[i]? with
    | none => rw [hr] at ha; cases ha
    | some r =>
      rw [hr] at ha hb
      cases ha
      cases hb
      exact wrs_red hd.1 hG r
  have hlen : (outS (gs.map (wrs d)) rs).length = (outS gs rs).length := by rw [eB, outS, List.length_map, List.length_map]
  have hAl5 := out_len gs rs
  replace h1 : Ev Try.prog 6 [.sl 4 (gs.map gD), .sl 7 (rs.map rD)] (.tup [.sl 5 ((outS gs rs).map sgD), .sl 1 ((dryS gs rs).map iD), iD 0]) := h1
  replace h2 : Ev Try.prog 6 [.sl 4 ((gs.map (wrs d)).map gD), .sl 7 (rs.map rD)] (.tup [.sl 5 ((outS (gs.map (wrs d)) rs).map sgD), .sl 1 ((dryS (gs.map (wrs d)) rs).map iD), iD 0]) := h2
  generalize outS gs rs = A at *
  generalize outS (gs.map (wrs d)) rs = B at *
  generalize dryS gs rs = A2 at *
  generalize dryS (gs.map (wrs d)) rs = B2 at *
  clear eB
  have hAl : (A.map sgD).length = A.length := List.length_map _
  have hBl : (B.map sgD).length = B.length := List.length_map _
  have h3 := ev_BinS A fr
  have h4 := ev_BinS B fr
  rw [bin_ok hA f0] at h3
  rw [bin_ok hB f0] at h4
  have head : ∀ (i : Nat), i ≤ gs.length → ((gs.take i).map (wrs d)).map gD = ((gs.take i).map (wrs d)).map gD := fun _ _ => rfl
  clear head
  cases y1 : badS fr hiV A with
  | true =>
    rw [y1, if_pos rfl] at h3
    replace h3 : Ev Try.prog 7 [.sl 5 (A.map sgD), grD fr] (.tup [grD gr0, iD 2]) := h3
    obtain ⟨G, ef, h4⟩ : ∃ G ef, Ev Try.prog 7 [.sl 5 (B.map sgD), grD fr] (.tup [grD G, iD ef]) := ⟨_, _, h4⟩
    refine ev_of_awp tysOk mixed (fn := Try.f3) Try.func3 rfl rfl rfl ?_
    conv => whnf
    repeat' (first
      | ((with_reducible refine Split.of_true ?_); conv => whnf)
      | ((with_reducible refine Split.of_false ?_); conv => whnf)
      | ((with_reducible refine Split.neg ?_))
      | ((with_reducible refine Split.is_true ?_ ?_); decide; conv => whnf)
      | ((with_reducible refine Split.is_false ?_ ?_); decide; conv => whnf)
      | ((with_reducible refine Split.nez (fun _ => ?_) (fun _ => ?_)) <;> conv => whnf)
      | ((with_reducible refine Split.eqz (fun _ => ?_) (fun _ => ?_)) <;> conv => whnf)
      | ((with_reducible refine Split.and ?_))
      | ((with_reducible refine Split.or ?_))
      | ((with_reducible refine Split.streq (fun _ => ?_) (fun _ => ?_)) <;> conv => whnf)
      | ((with_reducible refine Split.dec (fun _ => ?_) (fun _ => ?_)) <;> conv => whnf)
      | ((with_reducible refine Split.mk (fun _ => ?_) (fun _ => ?_)) <;> conv => whnf)
      | ((with_reducible refine NilK.mk (fun _ => ?_) ?_) <;> conv => whnf)
      | ((with_reducible refine AltK.l ?_); (conv => whnf); (with_reducible refine Need.mk ?_ ?_); (first | omega | (refine ⟨?_, ?_⟩ <;> simp <;> omega) | (simp; omega)); conv => whnf)
      | ((with_reducible refine Need.mk ?_ ?_); (first | omega | rfl | decide | (refine ⟨?_, ?_⟩ <;> simp <;> omega) | (simp; omega)); conv => whnf)
      | ((with_reducible refine Wr.quo ?_ ?_ ?_ ?_); omega; omega; omega; conv => whnf)
      | ((with_reducible refine Wr.inr ?_ ?_); (first | omega | (simp; omega)); conv => whnf)
      | ((with_reducible refine Wr.inu ?_ ?_); omega; conv => whnf)
      | ((with_reducible refine AltK.l ?_); (conv => whnf); (first | (refine CallK.mk _ (h0) ?_) | (refine CallK.mk _ (h7) ?_)); conv => whnf)
      | (exfalso; first | omega | contradiction))
    refine LoopK.o2 (fun i : Nat => i ≤ gs.length) (fun i => [(5, .own 200 4 (((gs.take i).map (wrs d)).map gD).length), (6, .d (.int .i64 i))]) (fun i => [(200, .row 32 4 (((gs.take i).map (wrs d)).map gD) false)]) (fun i => gs.length - i) 0 (by simp) (by refine ⟨?_, ?_, rfl⟩ <;> (repeat' (first | exact True.intro | exact rfl | refine ⟨?_, ?_⟩ | (intro h; cases h; done) | (intro h; exact h) | exact map_snoc | (refine own_congr ?_; simp; done) | (refine int_congr ?_; (first | omega | (simp; omega))) | (simp; done)))) ?_
    rintro i hi
    have hwl : (((gs.take i).map (wrs d)).map gD).length = i := by simp; omega
    by_cases hil : i < gs.length
    · obtain ⟨g, hgi⟩ := some_of_lt hil
      have hge := (ga_good hG hgi).err
      have hmp1 : ((gs.take i).map (wrs d)).map gD ++ gD (wrs d g) :: List.replicate 0 (gD g) = ((gs.take (i + 1)).map (wrs d)).map gD := by rw [take_snoc hgi]; simp
      have hmp2 : ((gs.take i).map (wrs d)).map gD ++ [gD (wrs d g)] = ((gs.take (i + 1)).map (wrs d)).map gD := by rw [take_snoc hgi]; simp
      conv => whnf
      repeat' (first
        | ((refine PickE.map i hgi (by omega) ?_); conv => whnf)
        | ((with_reducible refine Split.of_true ?_); conv => whnf)
        | ((with_reducible refine Split.of_false ?_); conv => whnf)
        | ((with_reducible refine Split.neg ?_))
        | ((with_reducible refine Split.is_true ?_ ?_); decide; conv => whnf)
        | ((with_reducible refine Split.is_false ?_ ?_); decide; conv => whnf)
        | ((with_reducible refine Split.nez (fun _ => ?_) (fun _ => ?_)) <;> conv => whnf)
        | ((with_reducible refine Split.eqz (fun _ => ?_) (fun _ => ?_)) <;> conv => whnf)
        | ((with_reducible refine Split.and ?_))
        | ((with_reducible refine Split.or ?_))
        | ((with_reducible refine Split.streq (fun _ => ?_) (fun _ => ?_)) <;> conv => whnf)
        | ((with_reducible refine Split.dec (fun _ => ?_) (fun _ => ?_)) <;> conv => whnf)
        | ((with_reducible refine Split.mk (fun _ => ?_) (fun _ => ?_)) <;> conv => whnf)
        | ((with_reducible refine NilK.mk (fun _ => ?_) ?_) <;> conv => whnf)
        | ((with_reducible refine AltK.l ?_); (conv => whnf); (with_reducible refine Need.mk ?_ ?_); (first | omega | (refine ⟨?_, ?_⟩ <;> simp <;> omega) | (simp; omega)); conv => whnf)
        | ((with_reducible refine Need.mk ?_ ?_); (first | omega | rfl | decide | (refine ⟨?_, ?_⟩ <;> simp <;> omega) | (simp; omega)); conv => whnf)
        | ((with_reducible refine Wr.quo ?_ ?_ ?_ ?_); omega; omega; omega; conv => whnf)
        | ((with_reducible refine Wr.inr ?_ ?_); (first | omega | (simp; omega)); conv => whnf)
        | ((with_reducible refine Wr.inu ?_ ?_); omega; conv => whnf)
        | (exfalso; first | omega | contradiction))
      refine Again.au (i + 1) (by omega) (by omega) (by refine ⟨?_, ?_, rfl⟩ <;> (repeat' (first | exact True.intro | exact rfl | refine ⟨?_, ?_⟩ | (intro h; cases h; done) | (intro h; exact h) | exact map_snoc | (refine own_congr ?_; simp; done) | (refine int_congr ?_; (first | omega | (simp; omega))) | (simp; done) | exact hmp1 | exact hmp2 | ((first | refine own_congr ?_ | refine int_congr ?_ | skip); simp [List.length_map]; done) | ((first | refine own_congr ?_ | refine int_congr ?_); simp [List.length_map]; omega) | (show @Eq (List Go.Vm.D) _ []; simp [List.length_map]; done) | (simp [D.cells, List.length_map]; done))))
    rw [show gs.take i = gs from List.take_of_length_le (by omega)]
    conv => whnf
    repeat' (first
      | ((with_reducible refine Split.of_true ?_); conv => whnf)
      | ((with_reducible refine Split.of_false ?_); conv => whnf)
      | ((with_reducible refine Split.neg ?_))
      | ((with_reducible refine Split.is_true ?_ ?_); decide; conv => whnf)
      | ((with_reducible refine Split.is_false ?_ ?_); decide; conv => whnf)
      | ((with_reducible refine Split.nez (fun _ => ?_) (fun _ => ?_)) <;> conv => whnf)
      | ((with_reducible refine Split.eqz (fun _ => ?_) (fun _ => ?_)) <;> conv => whnf)
      | ((with_reducible refine Split.and ?_))
      | ((with_reducible refine Split.or ?_))
      | ((with_reducible refine Split.streq (fun _ => ?_) (fun _ => ?_)) <;> conv => whnf)
      | ((with_reducible refine Split.dec (fun _ => ?_) (fun _ => ?_)) <;> conv => whnf)
      | ((with_reducible refine Split.mk (fun _ => ?_) (fun _ => ?_)) <;> conv => whnf)
      | ((with_reducible refine NilK.mk (fun _ => ?_) ?_) <;> conv => whnf)
      | ((with_reducible refine AltK.l ?_); (conv => whnf); (with_reducible refine Need.mk ?_ ?_); (first | omega | (refine ⟨?_, ?_⟩ <;> simp <;> omega) | (simp; omega)); conv => whnf)
      | ((with_reducible refine Need.mk ?_ ?_); (first | omega | rfl | decide | (refine ⟨?_, ?_⟩ <;> simp <;> omega) | (simp; omega)); conv => whnf)
      | ((with_reducible refine Wr.quo ?_ ?_ ?_ ?_); omega; omega; omega; conv => whnf)
      | ((with_reducible refine Wr.inr ?_ ?_); (first | omega | (simp; omega)); conv => whnf)
      | ((with_reducible refine Wr.inu ?_ ?_); omega; conv => whnf)
      | ((with_reducible refine AltK.l ?_); (conv => whnf); (first | (refine CallK.mk _ (h0) ?_) | (refine CallK.mk _ (h1) ?_) | (refine CallK.mk _ (h2) ?_) | (refine CallK.mk _ (h7) ?_)); conv => whnf)
      | (exfalso; first | omega | contradiction))
    refine LoopK.o2 (fun k : Nat => k ≤ A.length) (fun k => [(14, .d (.int .i64 k))]) (fun _ => []) (fun k => A.length - k) 0 (by simp) (by refine ⟨?_, ?_, rfl⟩ <;> (repeat' (first | exact True.intro | exact rfl | refine ⟨?_, ?_⟩ | (intro h; cases h; done) | (intro h; exact h) | exact map_snoc | (refine own_congr ?_; simp; done) | (refine int_congr ?_; (first | omega | (simp; omega))) | (simp; done)))) ?_
    rintro k hk
    by_cases hka : k < A.length
    · obtain ⟨a, ha⟩ := some_of_lt hka
      obtain ⟨b, hb⟩ := some_of_lt (show k < B.length by omega)
      have hw := hwr k a b ha hb
      have w1 := hw.n
      have w2 := hw.lo
      have w3 := hw.hi
      conv => whnf
      repeat' (first
        | ((refine PickE.map k hb (by omega) ?_); conv => whnf)
        | ((refine PickE.map k ha (by omega) ?_); conv => whnf)
        | ((with_reducible refine Split.of_true ?_); conv => whnf)
        | ((with_reducible refine Split.of_false ?_); conv => whnf)
        | ((with_reducible refine Split.neg ?_))
        | ((with_reducible refine Split.is_true ?_ ?_); decide; conv => whnf)
        | ((with_reducible refine Split.is_false ?_ ?_); decide; conv => whnf)
        | ((with_reducible refine Split.nez (fun _ => ?_) (fun _ => ?_)) <;> conv => whnf)
        | ((with_reducible refine Split.eqz (fun _ => ?_) (fun _ => ?_)) <;> conv => whnf)
        | ((with_reducible refine Split.and ?_))
        | ((with_reducible refine Split.or ?_))
        | ((with_reducible refine Split.streq (fun _ => ?_) (fun _ => ?_)) <;> conv => whnf)
        | ((with_reducible refine Split.dec (fun _ => ?_) (fun _ => ?_)) <;> conv => whnf)
        | ((with_reducible refine Split.mk (fun _ => ?_) (fun _ => ?_)) <;> conv => whnf)
        | ((with_reducible refine NilK.mk (fun _ => ?_) ?_) <;> conv => whnf)
        | ((with_reducible refine AltK.l ?_); (conv => whnf); (with_reducible refine Need.mk ?_ ?_); (first | omega | (refine ⟨?_, ?_⟩ <;> simp <;> omega) | (simp; omega)); conv => whnf)
        | ((with_reducible refine Need.mk ?_ ?_); (first | omega | rfl | decide | (refine ⟨?_, ?_⟩ <;> simp <;> omega) | (simp; omega)); conv => whnf)
        | ((with_reducible refine Wr.quo ?_ ?_ ?_ ?_); omega; omega; omega; conv => whnf)
        | ((with_reducible refine Wr.inr ?_ ?_); (first | omega | (simp; omega)); conv => whnf)
        | ((with_reducible refine Wr.inu ?_ ?_); omega; conv => whnf)
        | (exfalso; first | omega | contradiction))
      exact Again.au (k + 1) (by omega) (by omega) (by refine ⟨?_, ?_, rfl⟩ <;> (repeat' (first | exact True.intro | exact rfl | refine ⟨?_, ?_⟩ | (intro h; cases h; done) | (intro h; exact h) | exact map_snoc | (refine own_congr ?_; simp; done) | (refine int_congr ?_; (first | omega | (simp; omega))) | (simp; done))))
    conv => whnf
    repeat' (first
      | ((with_reducible refine Split.of_true ?_); conv => whnf)
      | ((with_reducible refine Split.of_false ?_); conv => whnf)
      | ((with_reducible refine Split.neg ?_))
      | ((with_reducible refine Split.is_true ?_ ?_); decide; conv => whnf)
      | ((with_reducible refine Split.is_false ?_ ?_); decide; conv => whnf)
      | ((with_reducible refine Split.nez (fun _ => ?_) (fun _ => ?_)) <;> conv => whnf)
      | ((with_reducible refine Split.eqz (fun _ => ?_) (fun _ => ?_)) <;> conv => whnf)
      | ((with_reducible refine Split.and ?_))
      | ((with_reducible refine Split.or ?_))
      | ((with_reducible refine Split.streq (fun _ => ?_) (fun _ => ?_)) <;> conv => whnf)
      | ((with_reducible refine Split.dec (fun _ => ?_) (fun _ => ?_)) <;> conv => whnf)
      | ((with_reducible refine Split.mk (fun _ => ?_) (fun _ => ?_)) <;> conv => whnf)
      | ((with_reducible refine NilK.mk (fun _ => ?_) ?_) <;> conv => whnf)
      | ((with_reducible refine AltK.l ?_); (conv => whnf); (with_reducible refine Need.mk ?_ ?_); (first | omega | (refine ⟨?_, ?_⟩ <;> simp <;> omega) | (simp; omega)); conv => whnf)
      | ((with_reducible refine Need.mk ?_ ?_); (first | omega | rfl | decide | (refine ⟨?_, ?_⟩ <;> simp <;> omega) | (simp; omega)); conv => whnf)
      | ((with_reducible refine Wr.quo ?_ ?_ ?_ ?_); omega; omega; omega; conv => whnf)
      | ((with_reducible refine Wr.inr ?_ ?_); (first | omega | (simp; omega)); conv => whnf)
      | ((with_reducible refine Wr.inu ?_ ?_); omega; conv => whnf)
      | ((with_reducible refine AltK.l ?_); (conv => whnf); (first | (refine CallK.mk _ (h7) ?_) | (refine CallK.mk _ (h3) ?_) | (refine CallK.mk _ (h4) ?_)); conv => whnf)
      | (exfalso; first | omega | contradiction))
    rfl
  | false =>
  rw [y1, if_neg (by decide)] at h3
  replace h3 : Ev Try.prog 7 [.sl 5 (A.map sgD), grD fr] (.tup [grD { fr with lv := levS fr hiV A }, iD 0]) := h3
  cases y2 : badS fr hiV B with
  | true =>
    rw [y2, if_pos rfl] at h4
    replace h4 : Ev Try.prog 7 [.sl 5 (B.map sgD), grD fr] (.tup [grD gr0, iD 2]) := h4
    refine ev_of_awp tysOk mixed (fn := Try.f3) Try.func3 rfl rfl rfl ?_
    conv => whnf
    repeat' (first
      | ((with_reducible refine Split.of_true ?_); conv => whnf)
      | ((with_reducible refine Split.of_false ?_); conv => whnf)
      | ((with_reducible refine Split.neg ?_))
      | ((with_reducible refine Split.is_true ?_ ?_); decide; conv => whnf)
      | ((with_reducible refine Split.is_false ?_ ?_); decide; conv => whnf)
      | ((with_reducible refine Split.nez (fun _ => ?_) (fun _ => ?_)) <;> conv => whnf)
      | ((with_reducible refine Split.eqz (fun _ => ?_) (fun _ => ?_)) <;> conv => whnf)
      | ((with_reducible refine Split.and ?_))
      | ((with_reducible refine Split.or ?_))
      | ((with_reducible refine Split.streq (fun _ => ?_) (fun _ => ?_)) <;> conv => whnf)
      | ((with_reducible refine Split.dec (fun _ => ?_) (fun _ => ?_)) <;> conv => whnf)
      | ((with_reducible refine Split.mk (fun _ => ?_) (fun _ => ?_)) <;> conv => whnf)
      | ((with_reducible refine NilK.mk (fun _ => ?_) ?_) <;> conv => whnf)
      | ((with_reducible refine AltK.l ?_); (conv => whnf); (with_reducible refine Need.mk ?_ ?_); (first | omega | (refine ⟨?_, ?_⟩ <;> simp <;> omega) | (simp; omega)); conv => whnf)
      | ((with_reducible refine Need.mk ?_ ?_); (first | omega | rfl | decide | (refine ⟨?_, ?_⟩ <;> simp <;> omega) | (simp; omega)); conv => whnf)
      | ((with_reducible refine Wr.quo ?_ ?_ ?_ ?_); omega; omega; omega; conv => whnf)
      | ((with_reducible refine Wr.inr ?_ ?_); (first | omega | (simp; omega)); conv => whnf)
      | ((with_reducible refine Wr.inu ?_ ?_); omega; conv => whnf)
      | ((with_reducible refine AltK.l ?_); (conv => whnf); (first | (refine CallK.mk _ (h0) ?_) | (refine CallK.mk _ (h7) ?_)); conv => whnf)
      | (exfalso; first | omega | contradiction))
    refine LoopK.o2 (fun i : Nat => i ≤ gs.length) (fun i => [(5, .own 200 4 (((gs.take i).map (wrs d)).map gD).length), (6, .d (.int .i64 i))]) (fun i => [(200, .row 32 4 (((gs.take i).map (wrs d)).map gD) false)]) (fun i => gs.length - i) 0 (by simp) (by refine ⟨?_, ?_, rfl⟩ <;> (repeat' (first | exact True.intro | exact rfl | refine ⟨?_, ?_⟩ | (intro h; cases h; done) | (intro h; exact h) | exact map_snoc | (refine own_congr ?_; simp; done) | (refine int_congr ?_; (first | omega | (simp; omega))) | (simp; done)))) ?_
    rintro i hi
    have hwl : (((gs.take i).map (wrs d)).map gD).length = i := by simp; omega
    by_cases hil : i < gs.length
    · obtain ⟨g, hgi⟩ := some_of_lt hil
      have hge := (ga_good hG hgi).err
      have hmp1 : ((gs.take i).map (wrs d)).map gD ++ gD (wrs d g) :: List.replicate 0 (gD g) = ((gs.take (i + 1)).map (wrs d)).map gD := by rw [take_snoc hgi]; simp
      have hmp2 : ((gs.take i).map (wrs d)).map gD ++ [gD (wrs d g)] = ((gs.take (i + 1)).map (wrs d)).map gD := by rw [take_snoc hgi]; simp
      conv => whnf
      repeat' (first
        | ((refine PickE.map i hgi (by omega) ?_); conv => whnf)
        | ((with_reducible refine Split.of_true ?_); conv => whnf)
        | ((with_reducible refine Split.of_false ?_); conv => whnf)
        | ((with_reducible refine Split.neg ?_))
        | ((with_reducible refine Split.is_true ?_ ?_); decide; conv => whnf)
        | ((with_reducible refine Split.is_false ?_ ?_); decide; conv => whnf)
        | ((with_reducible refine Split.nez (fun _ => ?_) (fun _ => ?_)) <;> conv => whnf)
        | ((with_reducible refine Split.eqz (fun _ => ?_) (fun _ => ?_)) <;> conv => whnf)
        | ((with_reducible refine Split.and ?_))
        | ((with_reducible refine Split.or ?_))
        | ((with_reducible refine Split.streq (fun _ => ?_) (fun _ => ?_)) <;> conv => whnf)
        | ((with_reducible refine Split.dec (fun _ => ?_) (fun _ => ?_)) <;> conv => whnf)
        | ((with_reducible refine Split.mk (fun _ => ?_) (fun _ => ?_)) <;> conv => whnf)
        | ((with_reducible refine NilK.mk (fun _ => ?_) ?_) <;> conv => whnf)
        | ((with_reducible refine AltK.l ?_); (conv => whnf); (with_reducible refine Need.mk ?_ ?_); (first | omega | (refine ⟨?_, ?_⟩ <;> simp <;> omega) | (simp; omega)); conv => whnf)
        | ((with_reducible refine Need.mk ?_ ?_); (first | omega | rfl | decide | (refine ⟨?_, ?_⟩ <;> simp <;> omega) | (simp; omega)); conv => whnf)
        | ((with_reducible refine Wr.quo ?_ ?_ ?_ ?_); omega; omega; omega; conv => whnf)
        | ((with_reducible refine Wr.inr ?_ ?_); (first | omega | (simp; omega)); conv => whnf)
        | ((with_reducible refine Wr.inu ?_ ?_); omega; conv => whnf)
        | (exfalso; first | omega | contradiction))
      refine Again.au (i + 1) (by omega) (by omega) (by refine ⟨?_, ?_, rfl⟩ <;> (repeat' (first | exact True.intro | exact rfl | refine ⟨?_, ?_⟩ | (intro h; cases h; done) | (intro h; exact h) | exact map_snoc | (refine own_congr ?_; simp; done) | (refine int_congr ?_; (first | omega | (simp; omega))) | (simp; done) | exact hmp1 | exact hmp2 | ((first | refine own_congr ?_ | refine int_congr ?_ | skip); simp [List.length_map]; done) | ((first | refine own_congr ?_ | refine int_congr ?_); simp [List.length_map]; omega) | (show @Eq (List Go.Vm.D) _ []; simp [List.length_map]; done) | (simp [D.cells, List.length_map]; done))))
    rw [show gs.take i = gs from List.take_of_length_le (by omega)]
    conv => whnf
    repeat' (first
      | ((with_reducible refine Split.of_true ?_); conv => whnf)
      | ((with_reducible refine Split.of_false ?_); conv => whnf)
      | ((with_reducible refine Split.neg ?_))
      | ((with_reducible refine Split.is_true ?_ ?_); decide; conv => whnf)
      | ((with_reducible refine Split.is_false ?_ ?_); decide; conv => whnf)
      | ((with_reducible refine Split.nez (fun _ => ?_) (fun _ => ?_)) <;> conv => whnf)
      | ((with_reducible refine Split.eqz (fun _ => ?_) (fun _ => ?_)) <;> conv => whnf)
      | ((with_reducible refine Split.and ?_))
      | ((with_reducible refine Split.or ?_))
      | ((with_reducible refine Split.streq (fun _ => ?_) (fun _ => ?_)) <;> conv => whnf)
      | ((with_reducible refine Split.dec (fun _ => ?_) (fun _ => ?_)) <;> conv => whnf)
      | ((with_reducible refine Split.mk (fun _ => ?_) (fun _ => ?_)) <;> conv => whnf)
      | ((with_reducible refine NilK.mk (fun _ => ?_) ?_) <;> conv => whnf)
      | ((with_reducible refine AltK.l ?_); (conv => whnf); (with_reducible refine Need.mk ?_ ?_); (first | omega | (refine ⟨?_, ?_⟩ <;> simp <;> omega) | (simp; omega)); conv => whnf)
      | ((with_reducible refine Need.mk ?_ ?_); (first | omega | rfl | decide | (refine ⟨?_, ?_⟩ <;> simp <;> omega) | (simp; omega)); conv => whnf)
      | ((with_reducible refine Wr.quo ?_ ?_ ?_ ?_); omega; omega; omega; conv => whnf)
      | ((with_reducible refine Wr.inr ?_ ?_); (first | omega | (simp; omega)); conv => whnf)
      | ((with_reducible refine Wr.inu ?_ ?_); omega; conv => whnf)
      | ((with_reducible refine AltK.l ?_); (conv => whnf); (first | (refine CallK.mk _ (h0) ?_) | (refine CallK.mk _ (h1) ?_) | (refine CallK.mk _ (h2) ?_) | (refine CallK.mk _ (h7) ?_)); conv => whnf)
      | (exfalso; first | omega | contradiction))
    refine LoopK.o2 (fun k : Nat => k ≤ A.length) (fun k => [(14, .d (.int .i64 k))]) (fun _ => []) (fun k => A.length - k) 0 (by simp) (by refine ⟨?_, ?_, rfl⟩ <;> (repeat' (first | exact True.intro | exact rfl | refine ⟨?_, ?_⟩ | (intro h; cases h; done) | (intro h; exact h) | exact map_snoc | (refine own_congr ?_; simp; done) | (refine int_congr ?_; (first | omega | (simp; omega))) | (simp; done)))) ?_
    rintro k hk
    by_cases hka : k < A.length
    · obtain ⟨a, ha⟩ := some_of_lt hka
      obtain ⟨b, hb⟩ := some_of_lt (show k < B.length by omega)
      have hw := hwr k a b ha hb
      have w1 := hw.n
      have w2 := hw.lo
      have w3 := hw.hi
      conv => whnf
      repeat' (first
        | ((refine PickE.map k hb (by omega) ?_); conv => whnf)
        | ((refine PickE.map k ha (by omega) ?_); conv => whnf)
        | ((with_reducible refine Split.of_true ?_); conv => whnf)
        | ((with_reducible refine Split.of_false ?_); conv => whnf)
        | ((with_reducible refine Split.neg ?_))
        | ((with_reducible refine Split.is_true ?_ ?_); decide; conv => whnf)
        | ((with_reducible refine Split.is_false ?_ ?_); decide; conv => whnf)
        | ((with_reducible refine Split.nez (fun _ => ?_) (fun _ => ?_)) <;> conv => whnf)
        | ((with_reducible refine Split.eqz (fun _ => ?_) (fun _ => ?_)) <;> conv => whnf)
        | ((with_reducible refine Split.and ?_))
        | ((with_reducible refine Split.or ?_))
        | ((with_reducible refine Split.streq (fun _ => ?_) (fun _ => ?_)) <;> conv => whnf)
        | ((with_reducible refine Split.dec (fun _ => ?_) (fun _ => ?_)) <;> conv => whnf)
        | ((with_reducible refine Split.mk (fun _ => ?_) (fun _ => ?_)) <;> conv => whnf)
        | ((with_reducible refine NilK.mk (fun _ => ?_) ?_) <;> conv => whnf)
        | ((with_reducible refine AltK.l ?_); (conv => whnf); (with_reducible refine Need.mk ?_ ?_); (first | omega | (refine ⟨?_, ?_⟩ <;> simp <;> omega) | (simp; omega)); conv => whnf)
        | ((with_reducible refine Need.mk ?_ ?_); (first | omega | rfl | decide | (refine ⟨?_, ?_⟩ <;> simp <;> omega) | (simp; omega)); conv => whnf)
        | ((with_reducible refine Wr.quo ?_ ?_ ?_ ?_); omega; omega; omega; conv => whnf)
        | ((with_reducible refine Wr.inr ?_ ?_); (first | omega | (simp; omega)); conv => whnf)
        | ((with_reducible refine Wr.inu ?_ ?_); omega; conv => whnf)
        | (exfalso; first | omega | contradiction))
      exact Again.au (k + 1) (by omega) (by omega) (by refine ⟨?_, ?_, rfl⟩ <;> (repeat' (first | exact True.intro | exact rfl | refine ⟨?_, ?_⟩ | (intro h; cases h; done) | (intro h; exact h) | exact map_snoc | (refine own_congr ?_; simp; done) | (refine int_congr ?_; (first | omega | (simp; omega))) | (simp; done))))
    conv => whnf
    repeat' (first
      | ((with_reducible refine Split.of_true ?_); conv => whnf)
      | ((with_reducible refine Split.of_false ?_); conv => whnf)
      | ((with_reducible refine Split.neg ?_))
      | ((with_reducible refine Split.is_true ?_ ?_); decide; conv => whnf)
      | ((with_reducible refine Split.is_false ?_ ?_); decide; conv => whnf)
      | ((with_reducible refine Split.nez (fun _ => ?_) (fun _ => ?_)) <;> conv => whnf)
      | ((with_reducible refine Split.eqz (fun _ => ?_) (fun _ => ?_)) <;> conv => whnf)
      | ((with_reducible refine Split.and ?_))
      | ((with_reducible refine Split.or ?_))
      | ((with_reducible refine Split.streq (fun _ => ?_) (fun _ => ?_)) <;> conv => whnf)
      | ((with_reducible refine Split.dec (fun _ => ?_) (fun _ => ?_)) <;> conv => whnf)
      | ((with_reducible refine Split.mk (fun _ => ?_) (fun _ => ?_)) <;> conv => whnf)
      | ((with_reducible refine NilK.mk (fun _ => ?_) ?_) <;> conv => whnf)
      | ((with_reducible refine AltK.l ?_); (conv => whnf); (with_reducible refine Need.mk ?_ ?_); (first | omega | (refine ⟨?_, ?_⟩ <;> simp <;> omega) | (simp; omega)); conv => whnf)
      | ((with_reducible refine Need.mk ?_ ?_); (first | omega | rfl | decide | (refine ⟨?_, ?_⟩ <;> simp <;> omega) | (simp; omega)); conv => whnf)
      | ((with_reducible refine Wr.quo ?_ ?_ ?_ ?_); omega; omega; omega; conv => whnf)
      | ((with_reducible refine Wr.inr ?_ ?_); (first | omega | (simp; omega)); conv => whnf)
      | ((with_reducible refine Wr.inu ?_ ?_); omega; conv => whnf)
      | ((with_reducible refine AltK.l ?_); (conv => whnf); (first | (refine CallK.mk _ (h7) ?_) | (refine CallK.mk _ (h3) ?_) | (refine CallK.mk _ (h4) ?_)); conv => whnf)
      | (exfalso; first | omega | contradiction))
    rfl
  | false =>
    rw [y2, if_neg (by decide)] at h4
    replace h4 : Ev Try.prog 7 [.sl 5 (B.map sgD), grD fr] (.tup [grD { fr with lv := levS fr hiV B }, iD 0]) := h4
    have eL : ((levS fr hiV A).length : Int) = fr.cols * fr.rows := by rw [lev_len]; unfold cellsN; omega
    have eM : ((levS fr hiV B).length : Int) = fr.cols * fr.rows := by rw [lev_len]; unfold cellsN; omega
    have h5 := ev_BCheck (g := { fr with lv := levS fr hiV A }) ⟨hF.x, hF.y, hF.side, hF.cols, hF.rows, hF.all⟩ eL (lv_of y1)
    have h8 := ev_SameGrid { fr with lv := levS fr hiV B } (by show (levS fr hiV B).length ≤ _; omega)
    cases ho : offB fr with
    | true =>
      have ho' : offB { fr with lv := levS fr hiV A } = true := ho
      rw [ho', if_pos rfl] at h5
      refine ev_of_awp tysOk mixed (fn := Try.f3) Try.func3 rfl rfl rfl ?_
      conv => whnf
      repeat' (first
        | ((with_reducible refine Split.of_true ?_); conv => whnf)
        | ((with_reducible refine Split.of_false ?_); conv => whnf)
        | ((with_reducible refine Split.neg ?_))
        | ((with_reducible refine Split.is_true ?_ ?_); decide; conv => whnf)
        | ((with_reducible refine Split.is_false ?_ ?_); decide; conv => whnf)
        | ((with_reducible refine Split.nez (fun _ => ?_) (fun _ => ?_)) <;> conv => whnf)
        | ((with_reducible refine Split.eqz (fun _ => ?_) (fun _ => ?_)) <;> conv => whnf)
        | ((with_reducible refine Split.and ?_))
        | ((with_reducible refine Split.or ?_))
        | ((with_reducible refine Split.streq (fun _ => ?_) (fun _ => ?_)) <;> conv => whnf)
        | ((with_reducible refine Split.dec (fun _ => ?_) (fun _ => ?_)) <;> conv => whnf)
        | ((with_reducible refine Split.mk (fun _ => ?_) (fun _ => ?_)) <;> conv => whnf)
        | ((with_reducible refine NilK.mk (fun _ => ?_) ?_) <;> conv => whnf)
        | ((with_reducible refine AltK.l ?_); (conv => whnf); (with_reducible refine Need.mk ?_ ?_); (first | omega | (refine ⟨?_, ?_⟩ <;> simp <;> omega) | (simp; omega)); conv => whnf)
        | ((with_reducible refine Need.mk ?_ ?_); (first | omega | rfl | decide | (refine ⟨?_, ?_⟩ <;> simp <;> omega) | (simp; omega)); conv => whnf)
        | ((with_reducible refine Wr.quo ?_ ?_ ?_ ?_); omega; omega; omega; conv => whnf)
        | ((with_reducible refine Wr.inr ?_ ?_); (first | omega | (simp; omega)); conv => whnf)
        | ((with_reducible refine Wr.inu ?_ ?_); omega; conv => whnf)
        | ((with_reducible refine AltK.l ?_); (conv => whnf); (first | (refine CallK.mk _ (h0) ?_) | (refine CallK.mk _ (h7) ?_)); conv => whnf)
        | (exfalso; first | omega | contradiction))
      refine LoopK.o2 (fun i : Nat => i ≤ gs.length) (fun i => [(5, .own 200 4 (((gs.take i).map (wrs d)).map gD).length), (6, .d (.int .i64 i))]) (fun i => [(200, .row 32 4 (((gs.take i).map (wrs d)).map gD) false)]) (fun i => gs.length - i) 0 (by simp) (by refine ⟨?_, ?_, rfl⟩ <;> (repeat' (first | exact True.intro | exact rfl | refine ⟨?_, ?_⟩ | (intro h; cases h; done) | (intro h; exact h) | exact map_snoc | (refine own_congr ?_; simp; done) | (refine int_congr ?_; (first | omega | (simp; omega))) | (simp; done)))) ?_
      rintro i hi
      have hwl : (((gs.take i).map (wrs d)).map gD).length = i := by simp; omega
      by_cases hil : i < gs.length
      · obtain ⟨g, hgi⟩ := some_of_lt hil
        have hge := (ga_good hG hgi).err
        have hmp1 : ((gs.take i).map (wrs d)).map gD ++ gD (wrs d g) :: List.replicate 0 (gD g) = ((gs.take (i + 1)).map (wrs d)).map gD := by rw [take_snoc hgi]; simp
        have hmp2 : ((gs.take i).map (wrs d)).map gD ++ [gD (wrs d g)] = ((gs.take (i + 1)).map (wrs d)).map gD := by rw [take_snoc hgi]; simp
        conv => whnf
        repeat' (first
          | ((refine PickE.map i hgi (by omega) ?_); conv => whnf)
          | ((with_reducible refine Split.of_true ?_); conv => whnf)
          | ((with_reducible refine Split.of_false ?_); conv => whnf)
          | ((with_reducible refine Split.neg ?_))
          | ((with_reducible refine Split.is_true ?_ ?_); decide; conv => whnf)
          | ((with_reducible refine Split.is_false ?_ ?_); decide; conv => whnf)
          | ((with_reducible refine Split.nez (fun _ => ?_) (fun _ => ?_)) <;> conv => whnf)
          | ((with_reducible refine Split.eqz (fun _ => ?_) (fun _ => ?_)) <;> conv => whnf)
          | ((with_reducible refine Split.and ?_))
          | ((with_reducible refine Split.or ?_))
          | ((with_reducible refine Split.streq (fun _ => ?_) (fun _ => ?_)) <;> conv => whnf)
          | ((with_reducible refine Split.dec (fun _ => ?_) (fun _ => ?_)) <;> conv => whnf)
          | ((with_reducible refine Split.mk (fun _ => ?_) (fun _ => ?_)) <;> conv => whnf)
          | ((with_reducible refine NilK.mk (fun _ => ?_) ?_) <;> conv => whnf)
          | ((with_reducible refine AltK.l ?_); (conv => whnf); (with_reducible refine Need.mk ?_ ?_); (first | omega | (refine ⟨?_, ?_⟩ <;> simp <;> omega) | (simp; omega)); conv => whnf)
          | ((with_reducible refine Need.mk ?_ ?_); (first | omega | rfl | decide | (refine ⟨?_, ?_⟩ <;> simp <;> omega) | (simp; omega)); conv => whnf)
          | ((with_reducible refine Wr.quo ?_ ?_ ?_ ?_); omega; omega; omega; conv => whnf)
          | ((with_reducible refine Wr.inr ?_ ?_); (first | omega | (simp; omega)); conv => whnf)
          | ((with_reducible refine Wr.inu ?_ ?_); omega; conv => whnf)
          | (exfalso; first | omega | contradiction))
        refine Again.au (i + 1) (by omega) (by omega) (by refine ⟨?_, ?_, rfl⟩ <;> (repeat' (first | exact True.intro | exact rfl | refine ⟨?_, ?_⟩ | (intro h; cases h; done) | (intro h; exact h) | exact map_snoc | (refine own_congr ?_; simp; done) | (refine int_congr ?_; (first | omega | (simp; omega))) | (simp; done) | exact hmp1 | exact hmp2 | ((first | refine own_congr ?_ | refine int_congr ?_ | skip); simp [List.length_map]; done) | ((first | refine own_congr ?_ | refine int_congr ?_); simp [List.length_map]; omega) | (show @Eq (List Go.Vm.D) _ []; simp [List.length_map]; done) | (simp [D.cells, List.length_map]; done))))
      rw [show gs.take i = gs from List.take_of_length_le (by omega)]
      conv => whnf
      repeat' (first
        | ((with_reducible refine Split.of_true ?_); conv => whnf)
        | ((with_reducible refine Split.of_false ?_); conv => whnf)
        | ((with_reducible refine Split.neg ?_))
        | ((with_reducible refine Split.is_true ?_ ?_); decide; conv => whnf)
        | ((with_reducible refine Split.is_false ?_ ?_); decide; conv => whnf)
        | ((with_reducible refine Split.nez (fun _ => ?_) (fun _ => ?_)) <;> conv => whnf)
        | ((with_reducible refine Split.eqz (fun _ => ?_) (fun _ => ?_)) <;> conv => whnf)
        | ((with_reducible refine Split.and ?_))
        | ((with_reducible refine Split.or ?_))
        | ((with_reducible refine Split.streq (fun _ => ?_) (fun _ => ?_)) <;> conv => whnf)
        | ((with_reducible refine Split.dec (fun _ => ?_) (fun _ => ?_)) <;> conv => whnf)
        | ((with_reducible refine Split.mk (fun _ => ?_) (fun _ => ?_)) <;> conv => whnf)
        | ((with_reducible refine NilK.mk (fun _ => ?_) ?_) <;> conv => whnf)
        | ((with_reducible refine AltK.l ?_); (conv => whnf); (with_reducible refine Need.mk ?_ ?_); (first | omega | (refine ⟨?_, ?_⟩ <;> simp <;> omega) | (simp; omega)); conv => whnf)
        | ((with_reducible refine Need.mk ?_ ?_); (first | omega | rfl | decide | (refine ⟨?_, ?_⟩ <;> simp <;> omega) | (simp; omega)); conv => whnf)
        | ((with_reducible refine Wr.quo ?_ ?_ ?_ ?_); omega; omega; omega; conv => whnf)
        | ((with_reducible refine Wr.inr ?_ ?_); (first | omega | (simp; omega)); conv => whnf)
        | ((with_reducible refine Wr.inu ?_ ?_); omega; conv => whnf)
        | ((with_reducible refine AltK.l ?_); (conv => whnf); (first | (refine CallK.mk _ (h0) ?_) | (refine CallK.mk _ (h1) ?_) | (refine CallK.mk _ (h2) ?_) | (refine CallK.mk _ (h7) ?_)); conv => whnf)
        | (exfalso; first | omega | contradiction))
      refine LoopK.o2 (fun k : Nat => k ≤ A.length) (fun k => [(14, .d (.int .i64 k))]) (fun _ => []) (fun k => A.length - k) 0 (by simp) (by refine ⟨?_, ?_, rfl⟩ <;> (repeat' (first | exact True.intro | exact rfl | refine ⟨?_, ?_⟩ | (intro h; cases h; done) | (intro h; exact h) | exact map_snoc | (refine own_congr ?_; simp; done) | (refine int_congr ?_; (first | omega | (simp; omega))) | (simp; done)))) ?_
      rintro k hk
      by_cases hka : k < A.length
      · obtain ⟨a, ha⟩ := some_of_lt hka
        obtain ⟨b, hb⟩ := some_of_lt (show k < B.length by omega)
        have hw := hwr k a b ha hb
        have w1 := hw.n
        have w2 := hw.lo
        have w3 := hw.hi
        conv => whnf
        repeat' (first
          | ((refine PickE.map k hb (by omega) ?_); conv => whnf)
          | ((refine PickE.map k ha (by omega) ?_); conv => whnf)
          | ((with_reducible refine Split.of_true ?_); conv => whnf)
          | ((with_reducible refine Split.of_false ?_); conv => whnf)
          | ((with_reducible refine Split.neg ?_))
          | ((with_reducible refine Split.is_true ?_ ?_); decide; conv => whnf)
          | ((with_reducible refine Split.is_false ?_ ?_); decide; conv => whnf)
          | ((with_reducible refine Split.nez (fun _ => ?_) (fun _ => ?_)) <;> conv => whnf)
          | ((with_reducible refine Split.eqz (fun _ => ?_) (fun _ => ?_)) <;> conv => whnf)
          | ((with_reducible refine Split.and ?_))
          | ((with_reducible refine Split.or ?_))
          | ((with_reducible refine Split.streq (fun _ => ?_) (fun _ => ?_)) <;> conv => whnf)
          | ((with_reducible refine Split.dec (fun _ => ?_) (fun _ => ?_)) <;> conv => whnf)
          | ((with_reducible refine Split.mk (fun _ => ?_) (fun _ => ?_)) <;> conv => whnf)
          | ((with_reducible refine NilK.mk (fun _ => ?_) ?_) <;> conv => whnf)
          | ((with_reducible refine AltK.l ?_); (conv => whnf); (with_reducible refine Need.mk ?_ ?_); (first | omega | (refine ⟨?_, ?_⟩ <;> simp <;> omega) | (simp; omega)); conv => whnf)
          | ((with_reducible refine Need.mk ?_ ?_); (first | omega | rfl | decide | (refine ⟨?_, ?_⟩ <;> simp <;> omega) | (simp; omega)); conv => whnf)
          | ((with_reducible refine Wr.quo ?_ ?_ ?_ ?_); omega; omega; omega; conv => whnf)
          | ((with_reducible refine Wr.inr ?_ ?_); (first | omega | (simp; omega)); conv => whnf)
          | ((with_reducible refine Wr.inu ?_ ?_); omega; conv => whnf)
          | (exfalso; first | omega | contradiction))
        exact Again.au (k + 1) (by omega) (by omega) (by refine ⟨?_, ?_, rfl⟩ <;> (repeat' (first | exact True.intro | exact rfl | refine ⟨?_, ?_⟩ | (intro h; cases h; done) | (intro h; exact h) | exact map_snoc | (refine own_congr ?_; simp; done) | (refine int_congr ?_; (first | omega | (simp; omega))) | (simp; done))))
      conv => whnf
      repeat' (first
        | ((with_reducible refine Split.of_true ?_); conv => whnf)
        | ((with_reducible refine Split.of_false ?_); conv => whnf)
        | ((with_reducible refine Split.neg ?_))
        | ((with_reducible refine Split.is_true ?_ ?_); decide; conv => whnf)
        | ((with_reducible refine Split.is_false ?_ ?_); decide; conv => whnf)
        | ((with_reducible refine Split.nez (fun _ => ?_) (fun _ => ?_)) <;> conv => whnf)
        | ((with_reducible refine Split.eqz (fun _ => ?_) (fun _ => ?_)) <;> conv => whnf)
        | ((with_reducible refine Split.and ?_))
        | ((with_reducible refine Split.or ?_))
        | ((with_reducible refine Split.streq (fun _ => ?_) (fun _ => ?_)) <;> conv => whnf)
        | ((with_reducible refine Split.dec (fun _ => ?_) (fun _ => ?_)) <;> conv => whnf)
        | ((with_reducible refine Split.mk (fun _ => ?_) (fun _ => ?_)) <;> conv => whnf)
        | ((with_reducible refine NilK.mk (fun _ => ?_) ?_) <;> conv => whnf)
        | ((with_reducible refine AltK.l ?_); (conv => whnf); (with_reducible refine Need.mk ?_ ?_); (first | omega | (refine ⟨?_, ?_⟩ <;> simp <;> omega) | (simp; omega)); conv => whnf)
        | ((with_reducible refine Need.mk ?_ ?_); (first | omega | rfl | decide | (refine ⟨?_, ?_⟩ <;> simp <;> omega) | (simp; omega)); conv => whnf)
        | ((with_reducible refine Wr.quo ?_ ?_ ?_ ?_); omega; omega; omega; conv => whnf)
        | ((with_reducible refine Wr.inr ?_ ?_); (first | omega | (simp; omega)); conv => whnf)
        | ((with_reducible refine Wr.inu ?_ ?_); omega; conv => whnf)
        | ((with_reducible refine AltK.l ?_); (conv => whnf); (first | (refine CallK.mk _ (h7) ?_) | (refine CallK.mk _ (h3) ?_) | (refine CallK.mk _ (h4) ?_) | (refine CallK.mk _ (h5) ?_)); conv => whnf)
        | (exfalso; first | omega | contradiction))
      rfl
    | false =>
      have ho' : offB { fr with lv := levS fr hiV A } = false := ho
      rw [ho', if_neg (by decide)] at h5
      have h6 := ev_Shoalest hF eL eM (lv_of y1) (lv_of y2) ho (sh_rel y1 y2 hrel)
      refine ev_of_awp tysOk mixed (fn := Try.f3) Try.func3 rfl rfl rfl ?_
      conv => whnf
      repeat' (first
        | ((with_reducible refine Split.of_true ?_); conv => whnf)
        | ((with_reducible refine Split.of_false ?_); conv => whnf)
        | ((with_reducible refine Split.neg ?_))
        | ((with_reducible refine Split.is_true ?_ ?_); decide; conv => whnf)
        | ((with_reducible refine Split.is_false ?_ ?_); decide; conv => whnf)
        | ((with_reducible refine Split.nez (fun _ => ?_) (fun _ => ?_)) <;> conv => whnf)
        | ((with_reducible refine Split.eqz (fun _ => ?_) (fun _ => ?_)) <;> conv => whnf)
        | ((with_reducible refine Split.and ?_))
        | ((with_reducible refine Split.or ?_))
        | ((with_reducible refine Split.streq (fun _ => ?_) (fun _ => ?_)) <;> conv => whnf)
        | ((with_reducible refine Split.dec (fun _ => ?_) (fun _ => ?_)) <;> conv => whnf)
        | ((with_reducible refine Split.mk (fun _ => ?_) (fun _ => ?_)) <;> conv => whnf)
        | ((with_reducible refine NilK.mk (fun _ => ?_) ?_) <;> conv => whnf)
        | ((with_reducible refine AltK.l ?_); (conv => whnf); (with_reducible refine Need.mk ?_ ?_); (first | omega | (refine ⟨?_, ?_⟩ <;> simp <;> omega) | (simp; omega)); conv => whnf)
        | ((with_reducible refine Need.mk ?_ ?_); (first | omega | rfl | decide | (refine ⟨?_, ?_⟩ <;> simp <;> omega) | (simp; omega)); conv => whnf)
        | ((with_reducible refine Wr.quo ?_ ?_ ?_ ?_); omega; omega; omega; conv => whnf)
        | ((with_reducible refine Wr.inr ?_ ?_); (first | omega | (simp; omega)); conv => whnf)
        | ((with_reducible refine Wr.inu ?_ ?_); omega; conv => whnf)
        | ((with_reducible refine AltK.l ?_); (conv => whnf); (first | (refine CallK.mk _ (h0) ?_) | (refine CallK.mk _ (h7) ?_)); conv => whnf)
        | (exfalso; first | omega | contradiction))
      refine LoopK.o2 (fun i : Nat => i ≤ gs.length) (fun i => [(5, .own 200 4 (((gs.take i).map (wrs d)).map gD).length), (6, .d (.int .i64 i))]) (fun i => [(200, .row 32 4 (((gs.take i).map (wrs d)).map gD) false)]) (fun i => gs.length - i) 0 (by simp) (by refine ⟨?_, ?_, rfl⟩ <;> (repeat' (first | exact True.intro | exact rfl | refine ⟨?_, ?_⟩ | (intro h; cases h; done) | (intro h; exact h) | exact map_snoc | (refine own_congr ?_; simp; done) | (refine int_congr ?_; (first | omega | (simp; omega))) | (simp; done)))) ?_
      rintro i hi
      have hwl : (((gs.take i).map (wrs d)).map gD).length = i := by simp; omega
      by_cases hil : i < gs.length
      · obtain ⟨g, hgi⟩ := some_of_lt hil
        have hge := (ga_good hG hgi).err
        have hmp1 : ((gs.take i).map (wrs d)).map gD ++ gD (wrs d g) :: List.replicate 0 (gD g) = ((gs.take (i + 1)).map (wrs d)).map gD := by rw [take_snoc hgi]; simp
        have hmp2 : ((gs.take i).map (wrs d)).map gD ++ [gD (wrs d g)] = ((gs.take (i + 1)).map (wrs d)).map gD := by rw [take_snoc hgi]; simp
        conv => whnf
        repeat' (first
          | ((refine PickE.map i hgi (by omega) ?_); conv => whnf)
          | ((with_reducible refine Split.of_true ?_); conv => whnf)
          | ((with_reducible refine Split.of_false ?_); conv => whnf)
          | ((with_reducible refine Split.neg ?_))
          | ((with_reducible refine Split.is_true ?_ ?_); decide; conv => whnf)
          | ((with_reducible refine Split.is_false ?_ ?_); decide; conv => whnf)
          | ((with_reducible refine Split.nez (fun _ => ?_) (fun _ => ?_)) <;> conv => whnf)
          | ((with_reducible refine Split.eqz (fun _ => ?_) (fun _ => ?_)) <;> conv => whnf)
          | ((with_reducible refine Split.and ?_))
          | ((with_reducible refine Split.or ?_))
          | ((with_reducible refine Split.streq (fun _ => ?_) (fun _ => ?_)) <;> conv => whnf)
          | ((with_reducible refine Split.dec (fun _ => ?_) (fun _ => ?_)) <;> conv => whnf)
          | ((with_reducible refine Split.mk (fun _ => ?_) (fun _ => ?_)) <;> conv => whnf)
          | ((with_reducible refine NilK.mk (fun _ => ?_) ?_) <;> conv => whnf)
          | ((with_reducible refine AltK.l ?_); (conv => whnf); (with_reducible refine Need.mk ?_ ?_); (first | omega | (refine ⟨?_, ?_⟩ <;> simp <;> omega) | (simp; omega)); conv => whnf)
          | ((with_reducible refine Need.mk ?_ ?_); (first | omega | rfl | decide | (refine ⟨?_, ?_⟩ <;> simp <;> omega) | (simp; omega)); conv => whnf)
          | ((with_reducible refine Wr.quo ?_ ?_ ?_ ?_); omega; omega; omega; conv => whnf)
          | ((with_reducible refine Wr.inr ?_ ?_); (first | omega | (simp; omega)); conv => whnf)
          | ((with_reducible refine Wr.inu ?_ ?_); omega; conv => whnf)
          | (exfalso; first | omega | contradiction))
        refine Again.au (i + 1) (by omega) (by omega) (by refine ⟨?_, ?_, rfl⟩ <;> (repeat' (first | exact True.intro | exact rfl | refine ⟨?_, ?_⟩ | (intro h; cases h; done) | (intro h; exact h) | exact map_snoc | (refine own_congr ?_; simp; done) | (refine int_congr ?_; (first | omega | (simp; omega))) | (simp; done) | exact hmp1 | exact hmp2 | ((first | refine own_congr ?_ | refine int_congr ?_ | skip); simp [List.length_map]; done) | ((first | refine own_congr ?_ | refine int_congr ?_); simp [List.length_map]; omega) | (show @Eq (List Go.Vm.D) _ []; simp [List.length_map]; done) | (simp [D.cells, List.length_map]; done))))
      rw [show gs.take i = gs from List.take_of_length_le (by omega)]
      conv => whnf
      repeat' (first
        | ((with_reducible refine Split.of_true ?_); conv => whnf)
        | ((with_reducible refine Split.of_false ?_); conv => whnf)
        | ((with_reducible refine Split.neg ?_))
        | ((with_reducible refine Split.is_true ?_ ?_); decide; conv => whnf)
        | ((with_reducible refine Split.is_false ?_ ?_); decide; conv => whnf)
        | ((with_reducible refine Split.nez (fun _ => ?_) (fun _ => ?_)) <;> conv => whnf)
        | ((with_reducible refine Split.eqz (fun _ => ?_) (fun _ => ?_)) <;> conv => whnf)
        | ((with_reducible refine Split.and ?_))
        | ((with_reducible refine Split.or ?_))
        | ((with_reducible refine Split.streq (fun _ => ?_) (fun _ => ?_)) <;> conv => whnf)
        | ((with_reducible refine Split.dec (fun _ => ?_) (fun _ => ?_)) <;> conv => whnf)
        | ((with_reducible refine Split.mk (fun _ => ?_) (fun _ => ?_)) <;> conv => whnf)
        | ((with_reducible refine NilK.mk (fun _ => ?_) ?_) <;> conv => whnf)
        | ((with_reducible refine AltK.l ?_); (conv => whnf); (with_reducible refine Need.mk ?_ ?_); (first | omega | (refine ⟨?_, ?_⟩ <;> simp <;> omega) | (simp; omega)); conv => whnf)
        | ((with_reducible refine Need.mk ?_ ?_); (first | omega | rfl | decide | (refine ⟨?_, ?_⟩ <;> simp <;> omega) | (simp; omega)); conv => whnf)
        | ((with_reducible refine Wr.quo ?_ ?_ ?_ ?_); omega; omega; omega; conv => whnf)
        | ((with_reducible refine Wr.inr ?_ ?_); (first | omega | (simp; omega)); conv => whnf)
        | ((with_reducible refine Wr.inu ?_ ?_); omega; conv => whnf)
        | ((with_reducible refine AltK.l ?_); (conv => whnf); (first | (refine CallK.mk _ (h0) ?_) | (refine CallK.mk _ (h1) ?_) | (refine CallK.mk _ (h2) ?_) | (refine CallK.mk _ (h7) ?_)); conv => whnf)
        | (exfalso; first | omega | contradiction))
      refine LoopK.o2 (fun k : Nat => k ≤ A.length) (fun k => [(14, .d (.int .i64 k))]) (fun _ => []) (fun k => A.length - k) 0 (by simp) (by refine ⟨?_, ?_, rfl⟩ <;> (repeat' (first | exact True.intro | exact rfl | refine ⟨?_, ?_⟩ | (intro h; cases h; done) | (intro h; exact h) | exact map_snoc | (refine own_congr ?_; simp; done) | (refine int_congr ?_; (first | omega | (simp; omega))) | (simp; done)))) ?_
      rintro k hk
      by_cases hka : k < A.length
      · obtain ⟨a, ha⟩ := some_of_lt hka
        obtain ⟨b, hb⟩ := some_of_lt (show k < B.length by omega)
        have hw := hwr k a b ha hb
        have w1 := hw.n
        have w2 := hw.lo
        have w3 := hw.hi
        conv => whnf
        repeat' (first
          | ((refine PickE.map k hb (by omega) ?_); conv => whnf)
          | ((refine PickE.map k ha (by omega) ?_); conv => whnf)
          | ((with_reducible refine Split.of_true ?_); conv => whnf)
          | ((with_reducible refine Split.of_false ?_); conv => whnf)
          | ((with_reducible refine Split.neg ?_))
          | ((with_reducible refine Split.is_true ?_ ?_); decide; conv => whnf)
          | ((with_reducible refine Split.is_false ?_ ?_); decide; conv => whnf)
          | ((with_reducible refine Split.nez (fun _ => ?_) (fun _ => ?_)) <;> conv => whnf)
          | ((with_reducible refine Split.eqz (fun _ => ?_) (fun _ => ?_)) <;> conv => whnf)
          | ((with_reducible refine Split.and ?_))
          | ((with_reducible refine Split.or ?_))
          | ((with_reducible refine Split.streq (fun _ => ?_) (fun _ => ?_)) <;> conv => whnf)
          | ((with_reducible refine Split.dec (fun _ => ?_) (fun _ => ?_)) <;> conv => whnf)
          | ((with_reducible refine Split.mk (fun _ => ?_) (fun _ => ?_)) <;> conv => whnf)
          | ((with_reducible refine NilK.mk (fun _ => ?_) ?_) <;> conv => whnf)
          | ((with_reducible refine AltK.l ?_); (conv => whnf); (with_reducible refine Need.mk ?_ ?_); (first | omega | (refine ⟨?_, ?_⟩ <;> simp <;> omega) | (simp; omega)); conv => whnf)
          | ((with_reducible refine Need.mk ?_ ?_); (first | omega | rfl | decide | (refine ⟨?_, ?_⟩ <;> simp <;> omega) | (simp; omega)); conv => whnf)
          | ((with_reducible refine Wr.quo ?_ ?_ ?_ ?_); omega; omega; omega; conv => whnf)
          | ((with_reducible refine Wr.inr ?_ ?_); (first | omega | (simp; omega)); conv => whnf)
          | ((with_reducible refine Wr.inu ?_ ?_); omega; conv => whnf)
          | (exfalso; first | omega | contradiction))
        exact Again.au (k + 1) (by omega) (by omega) (by refine ⟨?_, ?_, rfl⟩ <;> (repeat' (first | exact True.intro | exact rfl | refine ⟨?_, ?_⟩ | (intro h; cases h; done) | (intro h; exact h) | exact map_snoc | (refine own_congr ?_; simp; done) | (refine int_congr ?_; (first | omega | (simp; omega))) | (simp; done))))
      conv => whnf
      repeat' (first
        | ((with_reducible refine Split.of_true ?_); conv => whnf)
        | ((with_reducible refine Split.of_false ?_); conv => whnf)
        | ((with_reducible refine Split.neg ?_))
        | ((with_reducible refine Split.is_true ?_ ?_); decide; conv => whnf)
        | ((with_reducible refine Split.is_false ?_ ?_); decide; conv => whnf)
        | ((with_reducible refine Split.nez (fun _ => ?_) (fun _ => ?_)) <;> conv => whnf)
        | ((with_reducible refine Split.eqz (fun _ => ?_) (fun _ => ?_)) <;> conv => whnf)
        | ((with_reducible refine Split.and ?_))
        | ((with_reducible refine Split.or ?_))
        | ((with_reducible refine Split.streq (fun _ => ?_) (fun _ => ?_)) <;> conv => whnf)
        | ((with_reducible refine Split.dec (fun _ => ?_) (fun _ => ?_)) <;> conv => whnf)
        | ((with_reducible refine Split.mk (fun _ => ?_) (fun _ => ?_)) <;> conv => whnf)
        | ((with_reducible refine NilK.mk (fun _ => ?_) ?_) <;> conv => whnf)
        | ((with_reducible refine AltK.l ?_); (conv => whnf); (with_reducible refine Need.mk ?_ ?_); (first | omega | (refine ⟨?_, ?_⟩ <;> simp <;> omega) | (simp; omega)); conv => whnf)
        | ((with_reducible refine Need.mk ?_ ?_); (first | omega | rfl | decide | (refine ⟨?_, ?_⟩ <;> simp <;> omega) | (simp; omega)); conv => whnf)
        | ((with_reducible refine Wr.quo ?_ ?_ ?_ ?_); omega; omega; omega; conv => whnf)
        | ((with_reducible refine Wr.inr ?_ ?_); (first | omega | (simp; omega)); conv => whnf)
        | ((with_reducible refine Wr.inu ?_ ?_); omega; conv => whnf)
        | ((with_reducible refine AltK.l ?_); (conv => whnf); (first | (refine CallK.mk _ (h7) ?_) | (refine CallK.mk _ (h3) ?_) | (refine CallK.mk _ (h4) ?_) | (refine CallK.mk _ (h5) ?_) | (refine CallK.mk _ (h6) ?_) | (refine CallK.mk _ (h8) ?_)); conv => whnf)
        | (exfalso; first | omega | contradiction))
      rfl
end Go.Proofs.Try
end
