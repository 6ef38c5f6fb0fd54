import Derived.Test.YtcgfcbmlmfbknaaTwR
namespace Go.Proofs.Try
open Go Go.Vm
set_option maxRecDepth 20000
set_option maxHeartbeats 2000000
def rlx (d : Int) (g : Ga) : Ga := { g with err := maxI 0 (g.err - d) }
theorem rlx_rec {d : Int} {g : Ga} (hd : 0 ≤ d) (h : recErr g = 0) : recErr (rlx d g) = 0 := by
  have hG := good_of_rec h
  have he := hG.err
  have hx := hG.x
  have hl := hG.len
  have : 0 ≤ maxI 0 (g.err - d) ∧ maxI 0 (g.err - d) ≤ 1000 := by unfold maxI; split <;> omega
  unfold recErr
  have e1 : (rlx d g).err = maxI 0 (g.err - d) := rfl
  have e2 : (rlx d g).x = g.x := rfl
  have e3 : (rlx d g).marks = g.marks := rfl
  rw [if_neg (by simp only [outsideB, Bool.or_eq_true, decide_eq_true_eq, e1, e2]; omega), if_neg (by rw [e3]; omega)]
  exact markErr_of hG.ok hG.asc (fun q h => (by cases h))
theorem rlx_gs {d : Int} (hd : 0 ≤ d) : ∀ (r o : List Ga), gsGo o r = 0 → gsGo (o.map (rlx d)) (r.map (rlx d)) = 0
  | [], o, _ => rfl
  | g :: r, o, h => by
    have ih := rlx_gs hd r (o ++ [g])
    rw [List.map_append] at ih
    rw [gsGo] at h
    split at h
    · cases h
    · rename_i h1
      split at h
      · cases h
      · rename_i h2
        split at h
        · contradiction
        · rename_i h3
          have h3 : recErr g = 0 := by simpa using h3
          have e2 : (o.map (rlx d)).any (sameN (rlx d g)) = o.any (sameN g) := by rw [List.any_map]; rfl
          simp only [List.map_cons]
          rw [gsGo, if_neg (show ¬ nameB (rlx d g).name = false from h1), e2, if_neg h2, if_neg (by rw [rlx_rec hd h3]; simp), List.getLast?_map]
          cases hz : o.getLast? with
          | none =>
            rw [hz] at h
            exact ih h
          | some z =>
            rw [hz] at h
            simp only at h
            split at h
            · cases h
            · rename_i h4
              simp only [Option.map_some]
              rw [if_neg (by exact h4)]
              exact ih h
theorem rlx_at {d : Int} {g : Ga} (hd : 0 ≤ d) (h : Good g) (t : Int) : (atS (rlx d g) t).2.2 = (atS g t).2.2 ∧ (atS g t).1 ≤ (atS (rlx d g) t).1 := by
  have he := h.err
  have e : meanS (rlx d g) t = meanS g t := rfl
  unfold atS
  rw [e]
  split
  · refine ⟨rfl, ?_⟩
    simp only [rlx, maxI]
    split <;> omega
  · exact ⟨rfl, by dsimp only; omega⟩
theorem rlx_pos (d : Int) (l : List Ga) (x : Int) : posX (l.map (rlx d)) x = posX l x := by
  unfold posX
  rw [List.takeWhile_map, List.length_map]
  rfl
theorem rlx_lv {d : Int} {l : List Ga} {x t : Int} (hd : 0 ≤ d) (hG : GoodAll l) : (lvS (l.map (rlx d)) x t).2.2 = (lvS l x t).2.2 ∧ (lvS l x t).1 ≤ (lvS (l.map (rlx d)) x t).1 := by
  have hp := posX_spec (x := x) hG.asc
  unfold lvS
  rw [rlx_pos]
  generalize posX l x = p at *
  unfold lvF
  rw [List.getElem?_map]
  cases hb : l[p]? with
  | none =>
    simp only [Option.map_none]
    cases p with
    | zero => exact ⟨rfl, by dsimp only; omega⟩
    | succ q =>
      simp only [List.getElem?_map]
      cases ha : l[q]? with
      | none => exact ⟨rfl, by dsimp only [Option.map_none]; omega⟩
      | some a => exact rlx_at hd (ga_good hG ha) t
  | some b =>
    simp only [Option.map_some]
    have ex : (rlx d b).x = b.x := rfl
    rw [ex]
    split
    · exact rlx_at hd (ga_good hG hb) t
    · cases p with
      | zero => exact rlx_at hd (ga_good hG hb) t
      | succ q =>
        simp only [List.getElem?_map]
        cases ha : l[q]? with
        | none => exact ⟨rfl, by dsimp only [Option.map_none]; omega⟩
        | some a =>
          simp only [Option.map_some]
          obtain ⟨a1, a2⟩ := rlx_at hd (ga_good hG ha) t
          obtain ⟨b1, b2⟩ := rlx_at hd (ga_good hG hb) t
          have hax := (hp q a ha).1 (by omega)
          have hbx := (hp (q + 1) b hb).2 (by omega)
          unfold mixS
          rw [a1, b1]
          have ea : (rlx d a).x = a.x := rfl
          rw [ea, ex]
          split
          · refine ⟨rfl, ?_⟩
            dsimp only
            refine Int.ediv_le_ediv (by omega) ?_
            have m1 : (atS a t).1 * (b.x - x) ≤ (atS (rlx d a) t).1 * (b.x - x) := Int.mul_le_mul_of_nonneg_right a2 (by omega)
            have m2 : (atS b t).1 * (x - a.x) ≤ (atS (rlx d b) t).1 * (x - a.x) := Int.mul_le_mul_of_nonneg_right b2 (by omega)
            omega
          · exact ⟨rfl, by dsimp only; omega⟩
theorem lv_le {l : List Ga} {x t : Int} (hG : GoodAll l) : (lvS l x t).1 ≤ (lvS l x t).2.1 := by
  have hp := posX_spec (x := x) hG.asc
  unfold lvS
  generalize posX l x = p at *
  unfold lvF
  cases hb : l[p]? with
  | none =>
    cases p with
    | zero => simp
    | succ q =>
      cases ha : l[q]? with
      | none => simp only [ha]; omega
      | some a => simp only [ha]; exact at_le (ga_good hG ha)
  | some b =>
    by_cases hbx : b.x = x
    · simp only [hbx, if_true]; exact at_le (ga_good hG hb)
    · cases p with
      | zero => simp only [hbx, if_false]; exact at_le (ga_good hG hb)
      | succ q =>
        cases ha : l[q]? with
        | none => simp only [hbx, if_false, ha]; omega
        | some a =>
          simp only [hbx, if_false, ha]
          have hax := (hp q a ha).1 (by omega)
          have hbx' := (hp (q + 1) b hb).2 (by omega)
          unfold mixS
          split
          · have := (mix_facts (p := b.x - x) (q := x - a.x) (by omega) (by omega) (by omega) (at_le (t := t) (ga_good hG ha)) (at_le (t := t) (ga_good hG hb))).2.2
            rw [show b.x - x + (x - a.x) = b.x - a.x by omega] at this
            exact this
          · dsimp only; omega
/-- The three coverings, and the mean at every minute of a sure window. -/
theorem nest_pos {l : List Ga} {x lv : Int} {w : Int × Int} (h : viewErr l x w = 0) : coversB (psS l x lv w) (srS l x lv w) = true := by
  obtain ⟨hG, -⟩ := view_ok h
  rw [psS, if_pos h, srS, if_pos h]
  refine win_covers fun t _ _ ht => ?_
  have := lv_le (x := x) (t := t) hG
  simp only [gdB, sureP, possP, Bool.and_eq_true, decide_eq_true_eq] at ht ⊢
  exact ⟨ht.1, by omega⟩
theorem nest_low {l : List Ga} {x lv d : Int} {w : Int × Int} (hd : 0 ≤ d) (h : viewErr l x w = 0) : coversB (srS l x (lv - d) w) (srS l x lv w) = true := by
  rw [srS, if_pos h, srS, if_pos h]
  refine win_covers fun t _ _ ht => ?_
  simp only [gdB, sureP, Bool.and_eq_true, decide_eq_true_eq] at ht ⊢
  exact ⟨ht.1, by omega⟩
theorem rlx_gsE {l : List Ga} {d : Int} (hd : 0 ≤ d) (h : gsErr l = 0) : gsErr (l.map (rlx d)) = 0 := by
  have hl := (goodAll h).len
  unfold gsErr at h ⊢
  rw [if_neg (by omega)] at h
  rw [if_neg (by rw [List.length_map]; omega)]
  exact rlx_gs hd l [] h
theorem rlx_view {l : List Ga} {x d : Int} {w : Int × Int} (hd : 0 ≤ d) (h0 : gsErr l = 0) : viewErr (l.map (rlx d)) x w = viewErr l x w := by
  unfold viewErr
  rw [h0, rlx_gsE hd h0]
theorem nest_err {l : List Ga} {x lv d : Int} {w : Int × Int} (hd : 0 ≤ d) (h0 : gsErr l = 0) (h : viewErr l x w = 0) : coversB (srS (l.map (rlx d)) x lv w) (srS l x lv w) = true := by
  have h' := h
  rw [← rlx_view hd h0] at h'
  rw [srS, if_pos h', srS, if_pos h]
  refine win_covers fun t _ _ ht => ?_
  obtain ⟨e1, e2⟩ := rlx_lv (x := x) (t := t) hd (goodAll h0)
  simp only [gdB, sureP, Bool.and_eq_true, decide_eq_true_eq] at ht ⊢
  exact ⟨by rw [e1]; exact ht.1, by omega⟩
theorem nest_mean {g : Ga} {x lv : Int} {w : Int × Int} (h : viewErr [g] x w = 0) {z : Int × Int} (hz : z ∈ srS [g] x lv w) {t : Int} (h1 : z.1 ≤ t) (h2 : t ≤ z.2) : (meanS g t).2.2 = true ∧ lv * (meanS g t).2.1 ≤ (meanS g t).1 := by
  obtain ⟨hG, -⟩ := view_ok h
  rw [srS, if_pos h] at hz
  have hg := win_good _ _ _ _ _ z hz t h1 h2
  have hGg := ga_good hG (i := 0) (g := g) rfl
  have e : lvS [g] x t = atS g t := by
    have hp := posX_spec (x := x) hG.asc
    unfold lvS
    have hpl := posX_le [g] x
    have : posX [g] x = 0 ∨ posX [g] x = 1 := by simp at hpl; omega
    rcases this with e | e <;> rw [e] <;> simp [lvF]
  simp only [gdB, sureP, Bool.and_eq_true, decide_eq_true_eq, e] at hg
  have hb := mean_bd (t := t) hGg
  have he := hGg.err
  unfold atS at hg
  split at hg
  · rename_i hm
    refine ⟨hm, ?_⟩
    have h3 := Int.ediv_mul_le (meanS g t).1 (Int.ne_of_gt hb.1)
    have h4 : lv * (meanS g t).2.1 ≤ (meanS g t).1 / (meanS g t).2.1 * (meanS g t).2.1 := Int.mul_le_mul_of_nonneg_right (by have := hg.2; dsimp only at this; omega) (by omega)
    omega
  · exact absurd hg.1 (by decide)
def mixL (d : Int) (l : List Ga) (i : Nat) : List Ga := (l.take i).map (rlx d) ++ l.drop i
theorem mix_get {d : Int} {l : List Ga} {i : Nat} {g : Ga} (h : l[i]? = some g) : (mixL d l i)[i]? = some g := by
  have := lt_of_some h
  unfold mixL
  rw [List.getElem?_append_right (by simp; omega)]
  simp [List.getElem?_drop, show i - min i l.length = 0 by omega, h]
theorem mix_set {d : Int} {l : List Ga} {i : Nat} {g : Ga} (h : l[i]? = some g) : ((mixL d l i).map gD).set i (gD (rlx d g)) = (mixL d l (i + 1)).map gD := by
  have := lt_of_some h
  unfold mixL
  rw [take_snoc h, drop_of h]
  simp only [List.map_append, List.map_cons, List.map_nil]
  rw [List.set_append_right _ _ (by simp; omega)]
  simp [show i - min i l.length = 0 by omega]
theorem ev_TideNested (v : Vw) (lv d : Int) (hd : 0 ≤ d ∧ d ≤ 255) : Ev Try.prog 11 [vD v, .int .i64 lv, .int .u8 d] (.bool true) := by
  have hL := ev_Light v
  have hC := ev_CheckGauges v.gs
  have hlen : (v.gs.map gD).length = v.gs.length := List.length_map _
  by_cases hin : gsErr v.gs = 0 ∧ outsideB lv (-100000) 100000 = false
  · obtain ⟨h0, hlv⟩ := hin
    have hlvb : -100000 ≤ lv ∧ lv ≤ 100000 := by simp [outsideB] at hlv; omega
    have hG := goodAll h0
    have hl := hG.len
    have hW := ev_Within lv (-100000) 100000
    rw [hlv] at hW
    rw [h0] at hC
    have hS := ev_Sure v.gs v.x lv v.w
    have hP := ev_Possible v.gs v.x lv v.w
    have hS2 := ev_Sure v.gs v.x (lv - d) v.w
    have hS3 := ev_Sure (v.gs.map (rlx d)) v.x lv v.w
    rw [rlx_view hd.1 h0] at hS3
    have hz : ([] : List D) ++ v.gs.map gD = (mixL d v.gs 0).map gD := by simp [mixL]
    refine ev_of_awp tysOk mixed (fn := Try.f11) Try.func11 rfl rfl rfl ?_
    conv => whnf
    repeat' (first
      | ((with_reducible refine Split.of_true ?_); conv => whnf)
      | ((with_reducible refine Split.of_false ?_); conv => whnf)
      | ((with_reducible refine Split.neg ?_))
      | ((with_reducible refine Split.is_true ?_ ?_); decide; conv => whnf)
      | ((with_reducible refine Split.is_false ?_ ?_); decide; conv => whnf)
      | ((with_reducible refine Split.nez (fun _ => ?_) (fun _ => ?_)) <;> conv => whnf)
      | ((with_reducible refine Split.eqz (fun _ => ?_) (fun _ => ?_)) <;> conv => whnf)
      | ((with_reducible refine Split.and ?_))
      | ((with_reducible refine Split.or ?_))
      | ((with_reducible refine Split.streq (fun _ => ?_) (fun _ => ?_)) <;> conv => whnf)
      | ((with_reducible refine Split.dec (fun _ => ?_) (fun _ => ?_)) <;> conv => whnf)
      | ((with_reducible refine Split.mk (fun _ => ?_) (fun _ => ?_)) <;> conv => whnf)
      | ((with_reducible refine Need.mk ?_ ?_); (first | omega | rfl | decide | (refine ⟨?_, ?_⟩ <;> simp <;> omega) | (simp; omega)); conv => whnf)
      | ((with_reducible refine Wr.quo ?_ ?_ ?_ ?_); omega; omega; omega; conv => whnf)
      | ((with_reducible refine Wr.inr ?_ ?_); (first | omega | (simp; omega)); conv => whnf)
      | ((with_reducible refine Wr.inu ?_ ?_); omega; conv => whnf)
      | (refine CallK.mk _ (ev_awake) ?_; conv => whnf)
      | (refine CallK.mk _ (hL) ?_; conv => whnf)
      | (refine CallK.mk _ (hC) ?_; conv => whnf)
      | (refine CallK.mk _ (hW) ?_; conv => whnf)
      | (exfalso; first | omega | contradiction))
    · refine LoopK.o2 (fun i : Nat => i ≤ v.gs.length) (fun i => [(7, .own 200 4 ((mixL d v.gs i).map gD).length), (8, .d (.int .i64 i))]) (fun i => [(200, .row 24 4 ((mixL d v.gs i).map gD) false)]) (fun i => v.gs.length - i) 0 (by simp) ⟨by (repeat' (first | exact True.intro | exact rfl | refine ⟨?_, ?_⟩ | (intro h; cases h; done) | (intro h; exact h) | exact map_snoc | (refine own_congr ?_; simp; done) | (refine int_congr ?_; (first | omega | (simp; omega))) | (simp; done) | (refine own_congr ?_; simp [mixL]; done) | (refine int_congr ?_; simp [mixL]; done) | (simp [mixL]; done) | (simp [D.cells, mixL]; done))), by (repeat' (first | exact True.intro | exact rfl | refine ⟨?_, ?_⟩ | (intro h; cases h; done) | (intro h; exact h) | exact map_snoc | (refine own_congr ?_; simp; done) | (refine int_congr ?_; (first | omega | (simp; omega))) | (simp; done) | (refine own_congr ?_; simp [mixL]; done) | (refine int_congr ?_; simp [mixL]; done) | (simp [mixL]; done) | (simp [D.cells, mixL]; done))), rfl⟩ ?_
      intro i hi
      have hml : ((mixL d v.gs i).map gD).length = v.gs.length := by simp [mixL]; omega
      have hn : (i : Int) < v.gs.length → ∃ m, v.gs[i]? = some m := fun h => some_of_lt (by omega)
      conv => whnf
      repeat' (first
        | ((with_reducible refine Split.of_true ?_); conv => whnf)
        | ((with_reducible refine Split.of_false ?_); conv => whnf)
        | ((with_reducible refine Split.neg ?_))
        | ((with_reducible refine Split.is_true ?_ ?_); decide; conv => whnf)
        | ((with_reducible refine Split.is_false ?_ ?_); decide; conv => whnf)
        | ((with_reducible refine Split.nez (fun _ => ?_) (fun _ => ?_)) <;> conv => whnf)
        | ((with_reducible refine Split.eqz (fun _ => ?_) (fun _ => ?_)) <;> conv => whnf)
        | ((with_reducible refine Split.and ?_))
        | ((with_reducible refine Split.or ?_))
        | ((with_reducible refine Split.streq (fun _ => ?_) (fun _ => ?_)) <;> conv => whnf)
        | ((with_reducible refine Split.dec (fun _ => ?_) (fun _ => ?_)) <;> conv => whnf)
        | ((with_reducible refine Split.mk (fun _ => ?_) (fun _ => ?_)) <;> conv => whnf)
        | ((with_reducible refine Need.mk ?_ ?_); (first | omega | rfl | decide | (refine ⟨?_, ?_⟩ <;> simp <;> omega) | (simp; omega)); conv => whnf)
        | ((with_reducible refine Wr.quo ?_ ?_ ?_ ?_); omega; omega; omega; conv => whnf)
        | ((with_reducible refine Wr.inr ?_ ?_); (first | omega | (simp; omega)); conv => whnf)
        | ((with_reducible refine Wr.inu ?_ ?_); omega; conv => whnf)
        | (exfalso; first | omega | contradiction))
      · obtain ⟨g, hg⟩ := hn (by omega)
        have hms := mix_set (d := d) hg
        have hge := (ga_good hG hg).err
        have hms' : ((mixL d v.gs i).map gD).set (i : Int).toNat (gD (rlx d g)) = (mixL d v.gs (i + 1)).map gD := hms
        conv => whnf
        repeat' (first
          | ((refine PickE.map i (mix_get hg) (by omega) ?_); conv => whnf)
          | ((with_reducible refine Split.of_true ?_); conv => whnf)
          | ((with_reducible refine Split.of_false ?_); conv => whnf)
          | ((with_reducible refine Split.neg ?_))
          | ((with_reducible refine Split.is_true ?_ ?_); decide; conv => whnf)
          | ((with_reducible refine Split.is_false ?_ ?_); decide; conv => whnf)
          | ((with_reducible refine Split.nez (fun _ => ?_) (fun _ => ?_)) <;> conv => whnf)
          | ((with_reducible refine Split.eqz (fun _ => ?_) (fun _ => ?_)) <;> conv => whnf)
          | ((with_reducible refine Split.and ?_))
          | ((with_reducible refine Split.or ?_))
          | ((with_reducible refine Split.streq (fun _ => ?_) (fun _ => ?_)) <;> conv => whnf)
          | ((with_reducible refine Split.dec (fun _ => ?_) (fun _ => ?_)) <;> conv => whnf)
          | ((with_reducible refine Split.mk (fun _ => ?_) (fun _ => ?_)) <;> conv => whnf)
          | ((with_reducible refine Need.mk ?_ ?_); (first | omega | rfl | decide | (refine ⟨?_, ?_⟩ <;> simp <;> omega) | (simp; omega)); conv => whnf)
          | ((with_reducible refine Wr.quo ?_ ?_ ?_ ?_); omega; omega; omega; conv => whnf)
          | ((with_reducible refine Wr.inr ?_ ?_); (first | omega | (simp; omega)); conv => whnf)
          | ((with_reducible refine Wr.inu ?_ ?_); omega; conv => whnf)
          | (exfalso; first | omega | contradiction))
        refine Again.au (i + 1) (by omega) (by omega) ?_
        rw [← hms']
        exact ⟨by (repeat' (first | exact True.intro | exact rfl | refine ⟨?_, ?_⟩ | (intro h; cases h; done) | (intro h; exact h) | exact map_snoc | (refine own_congr ?_; simp; done) | (refine int_congr ?_; (first | omega | (simp; omega))) | (simp; done))), by (repeat' (first | exact True.intro | exact rfl | refine ⟨?_, ?_⟩ | (intro h; cases h; done) | (intro h; exact h) | exact map_snoc | (refine own_congr ?_; simp; done) | (refine int_congr ?_; (first | omega | (simp; omega))) | (simp; done))), rfl⟩
      · have hm : mixL d v.gs i = v.gs.map (rlx d) := by simp [mixL, List.take_of_length_le (show v.gs.length ≤ i by omega), List.drop_eq_nil_of_le (show v.gs.length ≤ i by omega)]
        rw [hm]
        by_cases hv : viewErr v.gs v.x v.w = 0
        · have l1 := @ps_len v.gs v.x lv v.w
          have l2 := @sr_len v.gs v.x lv v.w
          have l3 := @sr_len v.gs v.x (lv - d) v.w
          have l4 := @sr_len (v.gs.map (rlx d)) v.x lv v.w
          have c1 := ev_covers (psS v.gs v.x lv v.w) (srS v.gs v.x lv v.w) (by omega) (by omega)
          have c2 := ev_covers (srS v.gs v.x (lv - d) v.w) (srS v.gs v.x lv v.w) (by omega) (by omega)
          have c3 := ev_covers (srS (v.gs.map (rlx d)) v.x lv v.w) (srS v.gs v.x lv v.w) (by omega) (by omega)
          rw [nest_pos hv] at c1
          rw [nest_low hd.1 hv] at c2
          rw [nest_err hd.1 h0 hv] at c3
          rw [hv] at hS hP hS2 hS3
          have hin := @sr_in v.gs v.x lv v.w
          have hme : ∀ g, v.gs = [g] → ∀ z ∈ srS v.gs v.x lv v.w, ∀ t, z.1 ≤ t → t ≤ z.2 → (meanS g t).2.2 = true ∧ lv * (meanS g t).2.1 ≤ (meanS g t).1 := fun g e z hz t h1 h2 => by
            rw [e] at hz hv; exact nest_mean hv hz h1 h2
          generalize srS v.gs v.x lv v.w = a at *
          have hal : (a.map wD).length = a.length := List.length_map _
          conv => whnf
          repeat' (first
            | ((with_reducible refine Split.of_true ?_); conv => whnf)
            | ((with_reducible refine Split.of_false ?_); conv => whnf)
            | ((with_reducible refine Split.neg ?_))
            | ((with_reducible refine Split.is_true ?_ ?_); decide; conv => whnf)
            | ((with_reducible refine Split.is_false ?_ ?_); decide; conv => whnf)
            | ((with_reducible refine Split.nez (fun _ => ?_) (fun _ => ?_)) <;> conv => whnf)
            | ((with_reducible refine Split.eqz (fun _ => ?_) (fun _ => ?_)) <;> conv => whnf)
            | ((with_reducible refine Split.and ?_))
            | ((with_reducible refine Split.or ?_))
            | ((with_reducible refine Split.streq (fun _ => ?_) (fun _ => ?_)) <;> conv => whnf)
            | ((with_reducible refine Split.dec (fun _ => ?_) (fun _ => ?_)) <;> conv => whnf)
            | ((with_reducible refine Split.mk (fun _ => ?_) (fun _ => ?_)) <;> conv => whnf)
            | ((with_reducible refine Need.mk ?_ ?_); (first | omega | rfl | decide | (refine ⟨?_, ?_⟩ <;> simp <;> omega) | (simp; omega)); conv => whnf)
            | ((with_reducible refine Wr.quo ?_ ?_ ?_ ?_); omega; omega; omega; conv => whnf)
            | ((with_reducible refine Wr.inr ?_ ?_); (first | omega | (simp; omega)); conv => whnf)
            | ((with_reducible refine Wr.inu ?_ ?_); omega; conv => whnf)
            | (refine CallK.mk _ (hS) ?_; conv => whnf)
            | (refine CallK.mk _ (hP) ?_; conv => whnf)
            | (refine CallK.mk _ (hS2) ?_; conv => whnf)
            | (refine CallK.mk _ (hS3) ?_; conv => whnf)
            | (refine CallK.mk _ (c1) ?_; conv => whnf)
            | (refine CallK.mk _ (c2) ?_; conv => whnf)
            | (refine CallK.mk _ (c3) ?_; conv => whnf)
            | (exfalso; first | omega | contradiction))
          refine LoopK.o2 (fun j : Nat => j ≤ a.length) (fun j => [(17, .d (.int .i64 j))]) (fun _ => []) (fun j => a.length - j) 0 (by simp) ⟨by (repeat' (first | exact True.intro | exact rfl | refine ⟨?_, ?_⟩ | (intro h; cases h; done) | (intro h; exact h) | exact map_snoc | (refine own_congr ?_; simp; done) | (refine int_congr ?_; (first | omega | (simp; omega))) | (simp; done))), by (repeat' (first | exact True.intro | exact rfl | refine ⟨?_, ?_⟩ | (intro h; cases h; done) | (intro h; exact h) | exact map_snoc | (refine own_congr ?_; simp; done) | (refine int_congr ?_; (first | omega | (simp; omega))) | (simp; done))), rfl⟩ ?_
          intro j hj
          have hn : (j : Int) < a.length → ∃ m, a[j]? = some m := fun h => some_of_lt (by omega)
          conv => whnf
          repeat' (first
            | ((with_reducible refine Split.of_true ?_); conv => whnf)
            | ((with_reducible refine Split.of_false ?_); conv => whnf)
            | ((with_reducible refine Split.neg ?_))
            | ((with_reducible refine Split.is_true ?_ ?_); decide; conv => whnf)
            | ((with_reducible refine Split.is_false ?_ ?_); decide; conv => whnf)
            | ((with_reducible refine Split.nez (fun _ => ?_) (fun _ => ?_)) <;> conv => whnf)
            | ((with_reducible refine Split.eqz (fun _ => ?_) (fun _ => ?_)) <;> conv => whnf)
            | ((with_reducible refine Split.and ?_))
            | ((with_reducible refine Split.or ?_))
            | ((with_reducible refine Split.streq (fun _ => ?_) (fun _ => ?_)) <;> conv => whnf)
            | ((with_reducible refine Split.dec (fun _ => ?_) (fun _ => ?_)) <;> conv => whnf)
            | ((with_reducible refine Split.mk (fun _ => ?_) (fun _ => ?_)) <;> conv => whnf)
            | ((with_reducible refine Need.mk ?_ ?_); (first | omega | rfl | decide | (refine ⟨?_, ?_⟩ <;> simp <;> omega) | (simp; omega)); conv => whnf)
            | ((with_reducible refine Wr.quo ?_ ?_ ?_ ?_); omega; omega; omega; conv => whnf)
            | ((with_reducible refine Wr.inr ?_ ?_); (first | omega | (simp; omega)); conv => whnf)
            | ((with_reducible refine Wr.inu ?_ ?_); omega; conv => whnf)
            | (exfalso; first | omega | contradiction))
          · obtain ⟨g, hg⟩ := List.length_eq_one_iff.1 (show v.gs.length = 1 by omega)
            obtain ⟨z, hz⟩ := hn (by omega)
            have hza := List.mem_of_getElem? hz
            have hzi := hin z hza
            have hg0 : v.gs[0]? = some g := by rw [hg]; rfl
            have hGg := ga_good hG hg0
            refine PickE.map j hz (by omega) ?_
            conv => whnf
            repeat' (first
              | ((with_reducible refine Split.of_true ?_); conv => whnf)
              | ((with_reducible refine Split.of_false ?_); conv => whnf)
              | ((with_reducible refine Split.neg ?_))
              | ((with_reducible refine Split.is_true ?_ ?_); decide; conv => whnf)
              | ((with_reducible refine Split.is_false ?_ ?_); decide; conv => whnf)
              | ((with_reducible refine Split.nez (fun _ => ?_) (fun _ => ?_)) <;> conv => whnf)
              | ((with_reducible refine Split.eqz (fun _ => ?_) (fun _ => ?_)) <;> conv => whnf)
              | ((with_reducible refine Split.and ?_))
              | ((with_reducible refine Split.or ?_))
              | ((with_reducible refine Split.streq (fun _ => ?_) (fun _ => ?_)) <;> conv => whnf)
              | ((with_reducible refine Split.dec (fun _ => ?_) (fun _ => ?_)) <;> conv => whnf)
              | ((with_reducible refine Split.mk (fun _ => ?_) (fun _ => ?_)) <;> conv => whnf)
              | ((with_reducible refine Need.mk ?_ ?_); (first | omega | rfl | decide | (refine ⟨?_, ?_⟩ <;> simp <;> omega) | (simp; omega)); conv => whnf)
              | ((with_reducible refine Wr.quo ?_ ?_ ?_ ?_); omega; omega; omega; conv => whnf)
              | ((with_reducible refine Wr.inr ?_ ?_); (first | omega | (simp; omega)); conv => whnf)
              | ((with_reducible refine Wr.inu ?_ ?_); omega; conv => whnf)
              | (exfalso; first | omega | contradiction))
            refine LoopK.o2 (fun k : Nat => (k : Int) ≤ z.2 - z.1 + 1) (fun k => [(18, .d (.int .i64 (z.1 + k)))]) (fun _ => []) (fun k => (z.2 - z.1 + 1).toNat - k) 0 (by omega) ⟨by (repeat' (first | exact True.intro | exact rfl | refine ⟨?_, ?_⟩ | (intro h; cases h; done) | (intro h; exact h) | exact map_snoc | (refine own_congr ?_; simp; done) | (refine int_congr ?_; (first | omega | (simp; omega))) | (simp; done))), by (repeat' (first | exact True.intro | exact rfl | refine ⟨?_, ?_⟩ | (intro h; cases h; done) | (intro h; exact h) | exact map_snoc | (refine own_congr ?_; simp; done) | (refine int_congr ?_; (first | omega | (simp; omega))) | (simp; done))), rfl⟩ ?_
            intro k hk
            have hM : z.1 + (k : Int) ≤ z.2 → _ := fun hle => ev_Mean hGg (t := z.1 + k) (by omega)
            have hms := fun hle : z.1 + (k : Int) ≤ z.2 => hme g hg z hza (z.1 + k) (by omega) hle
            have hmb := mean_bd (t := z.1 + k) hGg
            conv => whnf
            repeat' (first
              | ((refine PickE.map j hz (by omega) ?_); conv => whnf)
              | ((with_reducible refine Split.of_true ?_); conv => whnf)
              | ((with_reducible refine Split.of_false ?_); conv => whnf)
              | ((with_reducible refine Split.neg ?_))
              | ((with_reducible refine Split.is_true ?_ ?_); decide; conv => whnf)
              | ((with_reducible refine Split.is_false ?_ ?_); decide; conv => whnf)
              | ((with_reducible refine Split.nez (fun _ => ?_) (fun _ => ?_)) <;> conv => whnf)
              | ((with_reducible refine Split.eqz (fun _ => ?_) (fun _ => ?_)) <;> conv => whnf)
              | ((with_reducible refine Split.and ?_))
              | ((with_reducible refine Split.or ?_))
              | ((with_reducible refine Split.streq (fun _ => ?_) (fun _ => ?_)) <;> conv => whnf)
              | ((with_reducible refine Split.dec (fun _ => ?_) (fun _ => ?_)) <;> conv => whnf)
              | ((with_reducible refine Split.mk (fun _ => ?_) (fun _ => ?_)) <;> conv => whnf)
              | ((with_reducible refine Need.mk ?_ ?_); (first | omega | rfl | decide | (refine ⟨?_, ?_⟩ <;> simp <;> omega) | (simp; omega)); conv => whnf)
              | ((with_reducible refine Wr.quo ?_ ?_ ?_ ?_); omega; omega; omega; conv => whnf)
              | ((with_reducible refine Wr.inr ?_ ?_); (first | omega | (simp; omega)); conv => whnf)
              | ((with_reducible refine Wr.inu ?_ ?_); omega; conv => whnf)
              | (exfalso; first | omega | contradiction))
            · have hM := hM (by omega)
              obtain ⟨m1, m2⟩ := hms (by omega)
              have mb := mul_bd (x := lv) (y := (meanS g (z.1 + k)).2.1) (X := 100000) (Y := 1000000) (by omega) (by omega)
              have e : m3D (meanS g (z.1 + k)) = .tup [.int .i64 (meanS g (z.1 + k)).1, .int .i64 (meanS g (z.1 + k)).2.1, .bool true] := by rw [m3D, m1]
              rw [e] at hM
              conv => whnf
              repeat' (first
                | ((refine PickE.map 0 hg0 (by omega) ?_); conv => whnf)
                | ((with_reducible refine Split.of_true ?_); conv => whnf)
                | ((with_reducible refine Split.of_false ?_); conv => whnf)
                | ((with_reducible refine Split.neg ?_))
                | ((with_reducible refine Split.is_true ?_ ?_); decide; conv => whnf)
                | ((with_reducible refine Split.is_false ?_ ?_); decide; conv => whnf)
                | ((with_reducible refine Split.nez (fun _ => ?_) (fun _ => ?_)) <;> conv => whnf)
                | ((with_reducible refine Split.eqz (fun _ => ?_) (fun _ => ?_)) <;> conv => whnf)
                | ((with_reducible refine Split.and ?_))
                | ((with_reducible refine Split.or ?_))
                | ((with_reducible refine Split.streq (fun _ => ?_) (fun _ => ?_)) <;> conv => whnf)
                | ((with_reducible refine Split.dec (fun _ => ?_) (fun _ => ?_)) <;> conv => whnf)
                | ((with_reducible refine Split.mk (fun _ => ?_) (fun _ => ?_)) <;> conv => whnf)
                | ((with_reducible refine Need.mk ?_ ?_); (first | omega | rfl | decide | (refine ⟨?_, ?_⟩ <;> simp <;> omega) | (simp; omega)); conv => whnf)
                | ((with_reducible refine Wr.quo ?_ ?_ ?_ ?_); omega; omega; omega; conv => whnf)
                | ((with_reducible refine Wr.inr ?_ ?_); (first | omega | (simp; omega)); conv => whnf)
                | ((with_reducible refine Wr.inu ?_ ?_); omega; conv => whnf)
                | (refine CallK.mk _ (hM) ?_; conv => whnf)
                | (exfalso; first | omega | contradiction))
              exact Again.au (k + 1) (by omega) (by omega) ⟨by (repeat' (first | exact True.intro | exact rfl | refine ⟨?_, ?_⟩ | (intro h; cases h; done) | (intro h; exact h) | exact map_snoc | (refine own_congr ?_; simp; done) | (refine int_congr ?_; (first | omega | (simp; omega))) | (simp; done))), by (repeat' (first | exact True.intro | exact rfl | refine ⟨?_, ?_⟩ | (intro h; cases h; done) | (intro h; exact h) | exact map_snoc | (refine own_congr ?_; simp; done) | (refine int_congr ?_; (first | omega | (simp; omega))) | (simp; done))), rfl⟩
            · exact Again.au (j + 1) (by omega) (by omega) ⟨by (repeat' (first | exact True.intro | exact rfl | refine ⟨?_, ?_⟩ | (intro h; cases h; done) | (intro h; exact h) | exact map_snoc | (refine own_congr ?_; simp; done) | (refine int_congr ?_; (first | omega | (simp; omega))) | (simp; done))), by (repeat' (first | exact True.intro | exact rfl | refine ⟨?_, ?_⟩ | (intro h; cases h; done) | (intro h; exact h) | exact map_snoc | (refine own_congr ?_; simp; done) | (refine int_congr ?_; (first | omega | (simp; omega))) | (simp; done))), rfl⟩
          all_goals rfl
        · have hv2 : viewErr v.gs v.x v.w = 2 := by
            unfold viewErr at hv ⊢
            rw [if_neg (by simp [h0])] at hv ⊢
            split at hv
            · rename_i h; rw [if_pos h]
            · exact absurd rfl hv
          rw [hv2] at hS hP hS2 hS3
          conv => whnf
          repeat' (first
            | ((with_reducible refine Split.of_true ?_); conv => whnf)
            | ((with_reducible refine Split.of_false ?_); conv => whnf)
            | ((with_reducible refine Split.neg ?_))
            | ((with_reducible refine Split.is_true ?_ ?_); decide; conv => whnf)
            | ((with_reducible refine Split.is_false ?_ ?_); decide; conv => whnf)
            | ((with_reducible refine Split.nez (fun _ => ?_) (fun _ => ?_)) <;> conv => whnf)
            | ((with_reducible refine Split.eqz (fun _ => ?_) (fun _ => ?_)) <;> conv => whnf)
            | ((with_reducible refine Split.and ?_))
            | ((with_reducible refine Split.or ?_))
            | ((with_reducible refine Split.streq (fun _ => ?_) (fun _ => ?_)) <;> conv => whnf)
            | ((with_reducible refine Split.dec (fun _ => ?_) (fun _ => ?_)) <;> conv => whnf)
            | ((with_reducible refine Split.mk (fun _ => ?_) (fun _ => ?_)) <;> conv => whnf)
            | ((with_reducible refine Need.mk ?_ ?_); (first | omega | rfl | decide | (refine ⟨?_, ?_⟩ <;> simp <;> omega) | (simp; omega)); conv => whnf)
            | ((with_reducible refine Wr.quo ?_ ?_ ?_ ?_); omega; omega; omega; conv => whnf)
            | ((with_reducible refine Wr.inr ?_ ?_); (first | omega | (simp; omega)); conv => whnf)
            | ((with_reducible refine Wr.inu ?_ ?_); omega; conv => whnf)
            | (refine CallK.mk _ (hS) ?_; conv => whnf)
            | (refine CallK.mk _ (hP) ?_; conv => whnf)
            | (refine CallK.mk _ (hS2) ?_; conv => whnf)
            | (refine CallK.mk _ (hS3) ?_; conv => whnf)
            | (exfalso; first | omega | contradiction))
          rfl
    all_goals rfl
  · refine ev_of_awp tysOk mixed (fn := Try.f11) Try.func11 rfl rfl rfl ?_
    conv => whnf
    repeat' (first
      | ((with_reducible refine Split.of_true ?_); conv => whnf)
      | ((with_reducible refine Split.of_false ?_); conv => whnf)
      | ((with_reducible refine Split.neg ?_))
      | ((with_reducible refine Split.is_true ?_ ?_); decide; conv => whnf)
      | ((with_reducible refine Split.is_false ?_ ?_); decide; conv => whnf)
      | ((with_reducible refine Split.nez (fun _ => ?_) (fun _ => ?_)) <;> conv => whnf)
      | ((with_reducible refine Split.eqz (fun _ => ?_) (fun _ => ?_)) <;> conv => whnf)
      | ((with_reducible refine Split.and ?_))
      | ((with_reducible refine Split.or ?_))
      | ((with_reducible refine Split.streq (fun _ => ?_) (fun _ => ?_)) <;> conv => whnf)
      | ((with_reducible refine Split.dec (fun _ => ?_) (fun _ => ?_)) <;> conv => whnf)
      | ((with_reducible refine Split.mk (fun _ => ?_) (fun _ => ?_)) <;> conv => whnf)
      | ((with_reducible refine Need.mk ?_ ?_); (first | omega | rfl | decide | (refine ⟨?_, ?_⟩ <;> simp <;> omega) | (simp; omega)); conv => whnf)
      | ((with_reducible refine Wr.quo ?_ ?_ ?_ ?_); omega; omega; omega; conv => whnf)
      | ((with_reducible refine Wr.inr ?_ ?_); (first | omega | (simp; omega)); conv => whnf)
      | ((with_reducible refine Wr.inu ?_ ?_); omega; conv => whnf)
      | (refine CallK.mk _ (ev_awake) ?_; conv => whnf)
      | (refine CallK.mk _ (hL) ?_; conv => whnf)
      | (refine CallK.mk _ (hC) ?_; conv => whnf)
      | (refine CallK.mk _ (ev_Within lv _ _) ?_; conv => whnf)
      | (exfalso; first | omega | contradiction))
    all_goals first | rfl | (exfalso; simp_all; done)
end Go.Proofs.Try
