/- Texts DsJ DsK DqH DsH DsN TwZ DqZ DsP, joined; what is not needed is left out. -/
import Derived.Test.YtahnaobdihhppaaGreatMgI
import Derived.Test.YtahnaobdihhppaaGreatProg
import Derived.Test.YtahnaobdihhppaaGreatMgH
import Derived.Shelf.Lays
import Derived.Test.YtahnaobdihhppaaGreatMgJ
import Derived.Test.YtahnaobdihhppaaGreatMpc
section
namespace Go.Proofs.Tryz
open Go Go.Vm
set_option maxRecDepth 20000
set_option maxHeartbeats 8000000
theorem inR_out9 (v : Int) : Ev Tryz.prog 41 [.int .i64 v, .int .i64 0, .int .i64 20000] (.bool (inR v)) := by
 have := ev_Within v 0 20000
 rwa [inR_out] at this
theorem ev_Proved9 {y : Yd} {l : List Bt} (hO : LsOk y l) (hcl : ∀ p ∈ y.pits, p.cls.length ≤ 1000000) (f : Frt) (hn : f.xs.length ≤ 200) :
 Ev Tryz.prog 15 [ydD y, .sl 5 (l.map btD), frD f] (.bool (prvB y l f)) := by
 have hy := yd_ok hO.yd
 have hlen := hO.len
 have hP8 := hy.pits
 have hb20 := hy.bulk
 have hA := ev_Assigned9 hO hcl f.xs hn
 rw [← asg_ra hO] at hA
 have hPr := fun h1 h2 => ev_Cost9 (y := y) (by omega) f.xs (by omega) h1 (pt_price hy) h2
 have hch := fun h => chr_bd hO ((asg_chr9 hO f.xs).1 h)
 have hV := ev_Volumes y l y.carry (by omega) (by omega) hO.wok ⟨hy.carL, hy.car⟩
 have hvl : (volF y l).length = l.length := (volsGo_spec hO.wok ⟨hy.carL, hy.car⟩).1
 rw [show volsGo y y.carry l = volF y l from rfl] at hV
 have hro : ∀ p, (h : p < y.pits.length) → Ev Tryz.prog 43 [ydD y, iD p] (iD ((roomF y).getD p 0)) := fun p h => by
  obtain ⟨q, hq⟩ := some_of_lt h
  have h1 := ev_Room9 y hq (hy.pit q (List.mem_of_getElem? hq)).1 hy.vol (by have := hy.deps; omega)
  have e : (roomF y).getD p 0 = roomS y q := by rw [roomF, List.getD, List.getElem?_map, hq]; rfl
  rw [e]; exact h1
 have hres : prvB y l f = (asgB (accF y l) (atI l) (pitI y) (volF y l) (roomF y) f.xs && decide (costF y f.xs = f.cost) && yldB (accF y l) y.pits.length l.length (priceF y) f.tf.bs f.tf.ps && decide (yieldS y.pits.length l.length (volF y l) (roomF y) f.tf.bs f.tf.ps = f.cost)) := rfl
 have hvb := fun b => And.intro (vol_bd hO b).1 (vol_13 hO b)
 have hrb := room_bd hy
 have hpp := pt_price hy
 generalize prvB y l f = res at *
 obtain ⟨xs, cost, ⟨bs, ps, bb⟩⟩ := f
 dsimp only at *
 unfold frD
 dsimp only
 have hlb : (bs.map iD).length = bs.length := List.length_map _
 have hlq : (ps.map iD).length = ps.length := List.length_map _
 have hlp : (y.pits.map ptD).length = y.pits.length := List.length_map _
 have hll : (l.map btD).length = l.length := List.length_map _
 cases hab : asgB (accF y l) (atI l) (pitI y) (volF y l) (roomF y) xs with
 | false =>
  rw [hab] at hA hres
  rw [hres]
  refine ev_of_awp tysOk mixed (fn := Tryz.f15) Tryz.func15 rfl rfl rfl ?_
  conv => whnf
  repeat' (first|((with_reducible first|refine Split.of_true ?_|refine Split.of_false ?_);conv=>whnf)|(with_reducible refine Split.neg ?_)|((with_reducible refine AltK.l ?_);(conv=>whnf);(first|(refine CallK.mk _ (hA) ?_));conv=>whnf)|fail)
  all_goals first
   | rfl
   |(exfalso; omega)
 | true =>
 obtain ⟨c1, c2⟩ := hch hab
 have hP := hPr c1 c2
 rw [hab, Bool.true_and] at hres
 rw [hab] at hA
 clear hPr hch hab c1 c2
 generalize costF y xs = cst at *
 by_cases hc : cst = cost
 case neg =>
  rw [decide_eq_false hc] at hres
  rw [hres]
  refine ev_of_awp tysOk mixed (fn := Tryz.f15) Tryz.func15 rfl rfl rfl ?_
  conv => whnf
  repeat' (first|((with_reducible refine Split.of_true ?_);conv=>whnf)|(with_reducible refine Split.neg ?_)|((with_reducible refine Split.nez (fun _=>?_) (fun _=>?_))<;>conv=>whnf)|((with_reducible refine AltK.l ?_);(conv=>whnf);(first|(refine CallK.mk _ (hA) ?_)|(refine CallK.mk _ (hP) ?_));conv=>whnf)|(exfalso;first|omega|contradiction)|fail)
  all_goals first
   | rfl
   |(exfalso; omega)
 subst hc
 rw [decide_eq_true rfl, Bool.true_and] at hres
 have hno : ¬ Yld (accF y l) y.pits.length l.length (priceF y) bs ps → res = false := fun h => by rw [hres, yld_no h]; rfl
 have hyes : Yld (accF y l) y.pits.length l.length (priceF y) bs ps → res = decide (yieldS y.pits.length l.length (volF y l) (roomF y) bs ps = cst) := fun h => by rw [hres, yld_iff.2 h]; rfl
 clear hres
 generalize volF y l = vol at *
 generalize roomF y = room at *
 have hlv : (vol.map iD).length = vol.length := List.length_map _
 by_cases hb : bs.length = l.length
 case neg =>
  rw [hno fun h => hb h.bl]
  refine ev_of_awp tysOk mixed (fn := Tryz.f15) Tryz.func15 rfl rfl rfl ?_
  conv => whnf
  repeat' (first|((with_reducible refine Split.of_true ?_);conv=>whnf)|(with_reducible refine Split.neg ?_)|((with_reducible refine Split.nez (fun _=>?_) (fun _=>?_))<;>conv=>whnf)|((with_reducible refine AltK.l ?_);(conv=>whnf);(first|(refine CallK.mk _ (hA) ?_)|(refine CallK.mk _ (hP) ?_));conv=>whnf)|(exfalso;first|omega|contradiction)|fail)
  all_goals first
   | rfl
   |(exfalso; omega)
 by_cases hq : ps.length = y.pits.length
 case neg =>
  rw [hno fun h => hq h.pl]
  refine ev_of_awp tysOk mixed (fn := Tryz.f15) Tryz.func15 rfl rfl rfl ?_
  conv => whnf
  repeat' (first|((with_reducible refine Split.of_true ?_);conv=>whnf)|(with_reducible refine Split.neg ?_)|((with_reducible refine Split.nez (fun _=>?_) (fun _=>?_))<;>conv=>whnf)|((with_reducible refine AltK.l ?_);(conv=>whnf);(first|(refine CallK.mk _ (hA) ?_)|(refine CallK.mk _ (hP) ?_));conv=>whnf)|(exfalso;first|omega|contradiction)|fail)
  all_goals first
   | rfl
   |(exfalso; omega)
 refine ev_of_awp tysOk mixed (fn := Tryz.f15) Tryz.func15 rfl rfl rfl ?_
 conv => whnf
 repeat' (first|((with_reducible refine Split.of_true ?_);conv=>whnf)|(with_reducible refine Split.neg ?_)|((with_reducible refine Split.nez (fun _=>?_) (fun _=>?_))<;>conv=>whnf)|((with_reducible refine AltK.l ?_);(conv=>whnf);(first|(refine CallK.mk _ (hA) ?_)|(refine CallK.mk _ (hP) ?_)|(refine CallK.mk _ (hV) ?_));conv=>whnf)|(exfalso;first|omega|contradiction)|fail)
 all_goals first
  |(exfalso; omega)
  | skip
 refine LoopK.o3 (fun b : Nat => b ≤ l.length ∧ ∀ v ∈ bs.take b, inR v = true) (fun b => [(9, .d (iD b)), (8, .d (iD (yldN vol bs b)))]) (fun _ => []) (fun b => l.length - b) 0 ⟨by omega, by simp⟩ (by refine ⟨?_, ?_, rfl⟩<;>(repeat' (first|exact True.intro|exact rfl|(refine ⟨?_,?_⟩)|(intro h;cases h;done)|fail));done) ?_
 rintro b ⟨hb1, hbr⟩
 dsimp only at hb1 ⊢
 have hbb := yldN_bd hvb hbr
 by_cases hbl : b < l.length
 ·obtain ⟨v, hv⟩ := some_of_lt (show b < bs.length by omega)
  have w1 := inR_out9 v
  cases hin : inR v with
  | false =>
   rw [hin] at w1
   rw [hno fun h => by have := inR_iff.2 (h.bb v (List.mem_of_getElem? hv)); rw [hin] at this; cases this]
   conv => whnf
   repeat' (first|((refine PickE.map b hv (by omega) ?_);conv=>whnf)|((with_reducible refine Split.of_false ?_);conv=>whnf)|(with_reducible refine Split.neg ?_)|((with_reducible refine Split.dec (fun _=>?_) (fun _=>?_))<;>conv=>whnf)|((with_reducible refine Need.mk ?_ ?_);(first|omega|rfl|decide|(refine ⟨?_,?_⟩<;>simp<;>omega)|(simp;omega));conv=>whnf)|((with_reducible refine AltK.l ?_);(conv=>whnf);(first|(refine CallK.mk _ (w1) ?_));conv=>whnf)|(exfalso;first|omega|contradiction)|fail)
   all_goals first
    | rfl
    |(exfalso; omega)
  | true =>
   rw [hin] at w1
   have hvr0 := inR_iff.1 hin
   obtain ⟨r, hr⟩ := some_of_lt (show b < vol.length by omega)
   have hrp := hvb b
   rw [getD_o9 hr] at hrp
   have hvr := prod_bd hvr0 hrp
   have hst : yldN vol bs (b + 1) = yldN vol bs b + v * r := by rw [yldN, sumN, getD_o9 hv, getD_o9 hr]; rfl
   have htk := take_one9 hv hbr hin
   have hb2 := yldN_bd hvb htk
   rw [hst] at hb2
   generalize yldN vol bs b = s at *
   conv => whnf
   repeat' (first|((refine PickE.map b hr (by omega) ?_);conv=>whnf)|((refine PickE.map b hv (by omega) ?_);conv=>whnf)|((with_reducible refine Split.of_true ?_);conv=>whnf)|(with_reducible refine Split.neg ?_)|((with_reducible refine Split.dec (fun _=>?_) (fun _=>?_))<;>conv=>whnf)|((with_reducible refine Need.mk ?_ ?_);(first|omega|rfl|decide|(refine ⟨?_,?_⟩<;>simp<;>omega)|(simp;omega));conv=>whnf)|((with_reducible refine Wr.inr ?_ ?_);(first|omega|(simp;omega));conv=>whnf)|((with_reducible refine AltK.l ?_);(conv=>whnf);(first|(refine CallK.mk _ (w1) ?_));conv=>whnf)|(exfalso;first|omega|contradiction)|fail)
   all_goals first
    |(exfalso; omega)
    | skip
   refine Again.av (b + 1) ⟨by omega, htk⟩ (by omega) ?_
   rw [hst]
   exact (by refine ⟨?_, ?_, rfl⟩<;>(repeat' (first|exact True.intro|exact rfl|(refine ⟨?_,?_⟩)|(intro h;cases h;done)|fail));done)
 ·have hbe : b = l.length := by omega
  subst hbe
  have hallb := take_all9 (by omega) hbr
  have hbb2 := hbb
  clear hbr
  generalize hS1 : yldN vol bs l.length = S1 at *
  conv => whnf
  repeat' (first|((with_reducible refine Split.dec (fun _=>?_) (fun _=>?_))<;>conv=>whnf)|((with_reducible refine Need.mk ?_ ?_);(first|omega|rfl|decide|(refine ⟨?_,?_⟩<;>simp<;>omega)|(simp;omega));conv=>whnf)|(exfalso;first|omega|contradiction)|fail)
  refine LoopK.o3 (fun p : Nat => p ≤ y.pits.length ∧ (∀ v ∈ ps.take p, inR v = true) ∧ ∀ q, q < p → ∀ b, b < l.length → accF y l q b = true → bs.getD b 0 ≤ priceF y q + ps.getD q 0) (fun p => [(10, .d (iD p)), (8, .d (iD (S1 - yldP room ps p)))]) (fun _ => []) (fun p => y.pits.length - p) 0 ⟨by omega, by simp, fun _ h => absurd h (Nat.not_lt_zero _)⟩ (by refine ⟨?_, ?_, rfl⟩<;>(repeat' (first|exact True.intro|exact rfl|(refine ⟨?_,?_⟩)|(intro h;cases h;done)|((first|refine own_congr ?_|refine int_congr ?_|skip);simp [yldP,sumN];done)|fail));done) ?_
  rintro p ⟨hp1, hpr, hpa⟩
  dsimp only at hp1 ⊢
  have hbp := yldP_bd hrb hpr
  by_cases hpl : p < y.pits.length
  ·obtain ⟨u, hu⟩ := some_of_lt (show p < ps.length by omega)
   obtain ⟨q, hqq⟩ := some_of_lt hpl
   have hqp := hpp q (List.mem_of_getElem? hqq)
   have hpq : priceF y p = q.price := by rw [priceF, hqq]
   have w1 := inR_out9 u
   cases hin : inR u with
   | false =>
    rw [hin] at w1
    rw [hno fun h => by have := inR_iff.2 (h.pb u (List.mem_of_getElem? hu)); rw [hin] at this; cases this]
    conv => whnf
    repeat' (first|((refine PickE.map p hu (by omega) ?_);conv=>whnf)|((with_reducible refine Split.of_false ?_);conv=>whnf)|(with_reducible refine Split.neg ?_)|((with_reducible refine Split.dec (fun _=>?_) (fun _=>?_))<;>conv=>whnf)|((with_reducible refine Need.mk ?_ ?_);(first|omega|rfl|decide|(refine ⟨?_,?_⟩<;>simp<;>omega)|(simp;omega));conv=>whnf)|((with_reducible refine AltK.l ?_);(conv=>whnf);(first|(refine CallK.mk _ (w1) ?_));conv=>whnf)|(exfalso;first|omega|contradiction)|fail)
    all_goals first
     | rfl
     |(exfalso; omega)
   | true =>
    rw [hin] at w1
    have hub := inR_iff.1 hin
    conv => whnf
    repeat' (first|((refine PickE.map p hu (by omega) ?_);conv=>whnf)|((with_reducible refine Split.of_true ?_);conv=>whnf)|(with_reducible refine Split.neg ?_)|((with_reducible refine Split.dec (fun _=>?_) (fun _=>?_))<;>conv=>whnf)|((with_reducible refine Need.mk ?_ ?_);(first|omega|rfl|decide|(refine ⟨?_,?_⟩<;>simp<;>omega)|(simp;omega));conv=>whnf)|((with_reducible refine AltK.l ?_);(conv=>whnf);(first|(refine CallK.mk _ (w1) ?_));conv=>whnf)|(exfalso;first|omega|contradiction)|fail)
    all_goals first
     |(exfalso; omega)
     | skip
    refine LoopK.o3 (fun b : Nat => b ≤ l.length ∧ ∀ b', b' < b → accF y l p b' = true → bs.getD b' 0 ≤ q.price + u) (fun b => [(11, .d (iD b))]) (fun _ => []) (fun b => l.length - b) 0 ⟨by omega, fun _ h => absurd h (Nat.not_lt_zero _)⟩ (by refine ⟨?_, ?_, rfl⟩<;>(repeat' (first|exact True.intro|exact rfl|(refine ⟨?_,?_⟩)|(intro h;cases h;done)|fail));done) ?_
    rintro b ⟨hb2, hba⟩
    by_cases hbl : b < l.length
    ·obtain ⟨bt, hbt⟩ := some_of_lt hbl
     obtain ⟨v, hv⟩ := some_of_lt (show b < bs.length by omega)
     have hvr := inR_iff.1 (hallb v (List.mem_of_getElem? hv))
     have w3 := ev_Accepts9 q bt.cls (hcl q (List.mem_of_getElem? hqq))
     have eA : accF y l p b = accB q bt.cls := by rw [accF, hqq, hbt]
     cases hac : accB q bt.cls with
     | false =>
      rw [hac] at w3 eA
      conv => whnf
      repeat' (first|((refine PickE.map b hbt (by omega) ?_);conv=>whnf)|((refine PickE.map p hqq (by omega) ?_);conv=>whnf)|((with_reducible refine Split.of_false ?_);conv=>whnf)|((with_reducible refine Split.dec (fun _=>?_) (fun _=>?_))<;>conv=>whnf)|((with_reducible refine Need.mk ?_ ?_);(first|omega|rfl|decide|(refine ⟨?_,?_⟩<;>simp<;>omega)|(simp;omega));conv=>whnf)|((with_reducible refine Wr.inr ?_ ?_);(first|omega|(simp;omega));conv=>whnf)|((with_reducible refine AltK.l ?_);(conv=>whnf);(first|(refine CallK.mk _ (w3) ?_));conv=>whnf)|(exfalso;first|omega|contradiction)|fail)
      refine Again.av (b + 1) ⟨by omega, fun b' hb' ha => ?_⟩ (by omega) (by refine ⟨?_, ?_, rfl⟩<;>(repeat' (first|exact True.intro|exact rfl|(refine ⟨?_,?_⟩)|(intro h;cases h;done)|fail));done)
      by_cases e : b' = b
      ·subst e; rw [eA] at ha; cases ha
      ·exact hba b' (by omega) ha
     | true =>
      rw [hac] at w3 eA
      by_cases hgt : q.price + u < v
      ·rw [hno fun h => by
        have := h.ac b (by omega) p (by omega) eA
        rw [getD_o9 hv, getD_o9 hu, hpq] at this
        omega]
       conv => whnf
       repeat' (first|((refine PickE.map p hu (by omega) ?_);conv=>whnf)|((refine PickE.map b hv (by omega) ?_);conv=>whnf)|((refine PickE.map b hbt (by omega) ?_);conv=>whnf)|((refine PickE.map p hqq (by omega) ?_);conv=>whnf)|((with_reducible refine Split.of_true ?_);conv=>whnf)|((with_reducible refine Split.dec (fun _=>?_) (fun _=>?_))<;>conv=>whnf)|((with_reducible refine Need.mk ?_ ?_);(first|omega|rfl|decide|(refine ⟨?_,?_⟩<;>simp<;>omega)|(simp;omega));conv=>whnf)|((with_reducible refine Wr.inr ?_ ?_);(first|omega|(simp;omega));conv=>whnf)|((with_reducible refine AltK.l ?_);(conv=>whnf);(first|(refine CallK.mk _ (w3) ?_));conv=>whnf)|(exfalso;first|omega|contradiction)|fail)
       all_goals first
        | rfl
        |(exfalso; omega)
      ·conv => whnf
       repeat' (first|((refine PickE.map p hu (by omega) ?_);conv=>whnf)|((refine PickE.map b hv (by omega) ?_);conv=>whnf)|((refine PickE.map b hbt (by omega) ?_);conv=>whnf)|((refine PickE.map p hqq (by omega) ?_);conv=>whnf)|((with_reducible refine Split.of_true ?_);conv=>whnf)|((with_reducible refine Split.dec (fun _=>?_) (fun _=>?_))<;>conv=>whnf)|((with_reducible refine Need.mk ?_ ?_);(first|omega|rfl|decide|(refine ⟨?_,?_⟩<;>simp<;>omega)|(simp;omega));conv=>whnf)|((with_reducible refine Wr.inr ?_ ?_);(first|omega|(simp;omega));conv=>whnf)|((with_reducible refine AltK.l ?_);(conv=>whnf);(first|(refine CallK.mk _ (w3) ?_));conv=>whnf)|(exfalso;first|omega|contradiction)|fail)
       all_goals first
        |(exfalso; omega)
        | skip
       refine Again.av (b + 1) ⟨by omega, fun b' hb' ha => ?_⟩ (by omega) (by refine ⟨?_, ?_, rfl⟩<;>(repeat' (first|exact True.intro|exact rfl|(refine ⟨?_,?_⟩)|(intro h;cases h;done)|fail));done)
       by_cases e : b' = b
       ·subst e; rw [getD_o9 hv]; omega
       ·exact hba b' (by omega) ha
    ·have hrp := hrb p
     have w5 := hro p hpl
     have hvr := prod_bd hub hrp
     have hst : yldP room ps (p + 1) = yldP room ps p + u * room.getD p 0 := by rw [yldP, sumN, getD_o9 hu]; rfl
     have htk := take_one9 hu hpr hin
     have hb3 := yldP_bd hrb htk
     rw [hst] at hb3
     generalize room.getD p 0 = r at *
     generalize yldP room ps p = s at *
     conv => whnf
     repeat' (first|((refine PickE.map p hu (by omega) ?_);conv=>whnf)|((with_reducible refine Split.dec (fun _=>?_) (fun _=>?_))<;>conv=>whnf)|((with_reducible refine Need.mk ?_ ?_);(first|omega|rfl|decide|(refine ⟨?_,?_⟩<;>simp<;>omega)|(simp;omega));conv=>whnf)|((with_reducible refine Wr.inr ?_ ?_);(first|omega|(simp;omega));conv=>whnf)|((with_reducible refine AltK.l ?_);(conv=>whnf);(first|(refine CallK.mk _ (w5) ?_));conv=>whnf)|(exfalso;first|omega|contradiction)|fail)
     all_goals first
      |(exfalso; omega)
      | skip
     refine Again.av (p + 1) ⟨by omega, htk, fun q' hq' b' hb' ha => ?_⟩ (by omega) ?_
     ·by_cases e : q' = p
      ·subst e; rw [getD_o9 hu, hpq]; exact hba b' (by omega) ha
      ·exact hpa q' (by omega) b' hb' ha
     ·rw [hst, show S1 - (s + u * r) = S1 - s - u * r by omega]
      exact (by refine ⟨?_, ?_, rfl⟩<;>(repeat' (first|exact True.intro|exact rfl|(refine ⟨?_,?_⟩)|(intro h;cases h;done)|fail));done)
  ·have hpe : p = y.pits.length := by omega
   subst hpe
   have hY : Yld (accF y l) y.pits.length l.length (priceF y) bs ps := ⟨hb, hq, fun v hv => inR_iff.1 (take_all9 (by omega) hpr v hv), fun v hv => inR_iff.1 (hallb v hv), fun b' hb' p hp ha => hpa p hp b' hb' ha⟩
   have hys : yieldS y.pits.length l.length vol room bs ps = S1 - yldP room ps y.pits.length := by rw [← hS1, yieldS, yldN, yldP]
   rw [hyes hY, hys]
   generalize yldP room ps y.pits.length = s at *
   conv => whnf
   repeat' (first|((with_reducible refine Split.dec (fun _=>?_) (fun _=>?_))<;>conv=>whnf)|((with_reducible refine Need.mk ?_ ?_);(first|omega|rfl|decide|(refine ⟨?_,?_⟩<;>simp<;>omega)|(simp;omega));conv=>whnf)|(exfalso;first|omega|contradiction)|fail)
   rfl
end Go.Proofs.Tryz
end

section
namespace Go.Proofs.Tryz
open Go Go.Vm
set_option maxRecDepth 20000
set_option maxHeartbeats 8000000
theorem ev_ordered {y : Yd} {l : List Bt} {x : List Al} (hl : l.length ≤ 1000000) (hP : y.pits.length ≤ 1000000) (hn : x.length ≤ 1000000) (h : x.Pairwise fun a c => lexL (prL y l a) (prL y l c)) :
 Ev Tryz.prog 16 [ydD y, .sl 5 (l.map btD), .sl 3 (x.map alD)] (.bool true) := by
 have hlp : (y.pits.map ptD).length = y.pits.length := List.length_map _
 have hll : (l.map btD).length = l.length := List.length_map _
 have hlx : (x.map alD).length = x.length := List.length_map _
 refine ev_of_awp tysOk mixed (fn := Tryz.f16) Tryz.func16 rfl rfl rfl ?_
 conv => whnf
 skip
 refine LoopK.o3 (fun i : Nat => 1 ≤ i ∧ (i = 1 ∨ i ≤ x.length)) (fun i => [(7, .d (iD i))]) (fun _ => []) (fun i => x.length + 1 - i) 1 ⟨Nat.le_refl _, .inl rfl⟩ (by refine ⟨?_, ?_, rfl⟩<;>(repeat' (first|exact True.intro|exact rfl|(refine ⟨?_,?_⟩)|(intro h;cases h;done)|fail));done) ?_
 rintro i hi
 by_cases hil : i < x.length ∧ 1 ≤ i
 ·obtain ⟨a, ha⟩ := some_of_lt hil.1
  obtain ⟨c, hc⟩ := some_of_lt (show i - 1 < x.length by omega)
  have haD : (x.map alD)[(i : Int).toNat]? = some (D.agg [iD a.n, .str a.pit, iD a.vol]) := by rw [Int.toNat_natCast, List.getElem?_map, ha]; rfl
  have hcD : (x.map alD)[((i : Int) - 1).toNat]? = some (D.agg [iD c.n, .str c.pit, iD c.vol]) := by rw [show ((i : Int) - 1).toNat = i - 1 by omega, List.getElem?_map, hc]; rfl
  have w1 := ev_At9 l a.n hl
  have w2 := ev_At9 l c.n hl
  have w3 : Ev Tryz.prog 45 [.sl 6 (y.pits.map ptD), .str a.pit] (iD (pitI y a.pit)) := ev_Find9 y.pits a.pit hP
  have w4 : Ev Tryz.prog 45 [.sl 6 (y.pits.map ptD), .str c.pit] (iD (pitI y c.pit)) := ev_Find9 y.pits c.pit hP
  have hlex : lexL (prL y l c) (prL y l a) := by
   obtain ⟨k1, e1⟩ := List.getElem?_eq_some_iff.1 ha
   obtain ⟨k2, e2⟩ := List.getElem?_eq_some_iff.1 hc
   rw [← e1, ← e2]
   exact List.pairwise_iff_getElem.1 h (i - 1) i k2 k1 (by omega)
  unfold lexL prL at hlex
  dsimp only at hlex
  generalize atI l a.n = a1 at *
  generalize atI l c.n = c1 at *
  generalize pitI y a.pit = a2 at *
  generalize pitI y c.pit = c2 at *
  rcases hlex with hlt | ⟨heq, hlt⟩
  ·conv => whnf
   repeat' (first|((refine PickE.mk _ hcD ?_);conv=>whnf)|((refine PickE.mk _ haD ?_);conv=>whnf)|((with_reducible first|refine Split.of_true ?_|refine Split.of_false ?_);conv=>whnf)|((with_reducible refine Split.eqz (fun _=>?_) (fun _=>?_))<;>conv=>whnf)|((with_reducible refine Split.dec (fun _=>?_) (fun _=>?_))<;>conv=>whnf)|((with_reducible refine Need.mk ?_ ?_);(first|omega|rfl|decide|(refine ⟨?_,?_⟩<;>simp<;>omega)|(simp;omega));conv=>whnf)|((with_reducible refine Wr.inr ?_ ?_);(first|omega|(simp;omega));conv=>whnf)|((with_reducible refine AltK.l ?_);(conv=>whnf);(first|(refine CallK.mk _ (w2) ?_)|(refine CallK.mk _ (w1) ?_)|(refine CallK.mk _ (w4) ?_)|(refine CallK.mk _ (w3) ?_));conv=>whnf)|(exfalso;first|omega|contradiction)|fail)
   all_goals first
    |(exfalso; omega)
    | skip
   all_goals exact Again.av (i + 1) (by omega) (by omega) (by refine ⟨?_, ?_, rfl⟩<;>(repeat' (first|exact True.intro|exact rfl|(refine ⟨?_,?_⟩)|(intro h;cases h;done)|fail));done)
  ·subst heq
   conv => whnf
   repeat' (first|((refine PickE.mk _ hcD ?_);conv=>whnf)|((refine PickE.mk _ haD ?_);conv=>whnf)|((with_reducible first|refine Split.of_true ?_|refine Split.of_false ?_);conv=>whnf)|((with_reducible refine Split.eqz (fun _=>?_) (fun _=>?_))<;>conv=>whnf)|((with_reducible refine Split.dec (fun _=>?_) (fun _=>?_))<;>conv=>whnf)|((with_reducible refine Need.mk ?_ ?_);(first|omega|rfl|decide|(refine ⟨?_,?_⟩<;>simp<;>omega)|(simp;omega));conv=>whnf)|((with_reducible refine Wr.inr ?_ ?_);(first|omega|(simp;omega));conv=>whnf)|((with_reducible refine AltK.l ?_);(conv=>whnf);(first|(refine CallK.mk _ (w2) ?_)|(refine CallK.mk _ (w1) ?_)|(refine CallK.mk _ (w4) ?_)|(refine CallK.mk _ (w3) ?_));conv=>whnf)|(exfalso;first|omega|contradiction)|fail)
   all_goals first
    |(exfalso; omega)
    | skip
   all_goals exact Again.av (i + 1) (by omega) (by omega) (by refine ⟨?_, ?_, rfl⟩<;>(repeat' (first|exact True.intro|exact rfl|(refine ⟨?_,?_⟩)|(intro h;cases h;done)|fail));done)
 ·conv => whnf
  repeat' (first|((with_reducible refine Split.dec (fun _=>?_) (fun _=>?_))<;>conv=>whnf)|((with_reducible refine Need.mk ?_ ?_);(first|omega|rfl|decide|(refine ⟨?_,?_⟩<;>simp<;>omega)|(simp;omega));conv=>whnf)|((with_reducible refine Wr.inr ?_ ?_);(first|omega|(simp;omega));conv=>whnf)|(exfalso;first|omega|contradiction)|fail)
  all_goals first
   | rfl
   |(exfalso; omega)
theorem ev_empty : Ev Tryz.prog 14 [frD fr0] (.bool true) := by
 unfold frD fr0
 refine ev_of_awp tysOk mixed (fn := Tryz.f14) Tryz.func14 rfl rfl rfl ?_
 conv => whnf
 repeat' (first|((with_reducible refine Split.is_true ?_ ?_);decide;conv=>whnf)|fail)
 all_goals first
  | rfl
  |(exfalso; first | omega | contradiction)
section
variable {y : Yd} {l : List Bt} {w : Rs}
end
end Go.Proofs.Tryz
end

section
namespace Go.Proofs.Tryz
open Go Go.Vm
set_option maxRecDepth 20000
set_option maxHeartbeats 8000000
theorem few_len {l : List Bt} {most lim : Nat} (h : fewB l most lim = true) : l.length ≤ lim + 5 := by
 unfold fewB at h
 rw [Bool.and_eq_true, Bool.not_eq_true'] at h
 have := h.1
 rw [Bool.or_eq_false_iff] at this
 simpa using this.2
end Go.Proofs.Tryz
end

section
namespace Go.Proofs.Tryz
open Go Go.Vm
set_option maxRecDepth 20000
set_option maxHeartbeats 8000000
theorem and_one (n : Nat) (h : n < 9223372036854775808) : andZ .i64 (n : Int) 1 = ((n % 2 : Nat) : Int) := by
 have e : (BitVec.ofInt 64 (n : Int) &&& BitVec.ofInt 64 1).toNat = n % 2 := by
  rw [BitVec.toNat_and]
  have e1 : (BitVec.ofInt 64 (n : Int)).toNat = n := by rw [BitVec.toNat_ofInt]; omega
  have e2 : (BitVec.ofInt 64 1).toNat = 1 := rfl
  rw [e1, e2, Nat.and_one_is_mod]
 show IntKind.i64.wrap (((BitVec.ofInt 64 (n : Int) &&& BitVec.ofInt 64 1).toNat : Nat) : Int) = _
 rw [e, wrap_in (by omega)]
theorem bit_z {s i : Nat} (hs : s ≤ 4096) : andZ .i64 (shrZ (s : Int) (i : Int)) 1 = if s.testBit i = true then 1 else 0 := by
 have e : shrZ (s : Int) (i : Int) = ((s / 2 ^ i : Nat) : Int) := by rw [shrZ, Int.toNat_natCast]; simp
 have h := Nat.div_le_self s (2 ^ i)
 rw [e, and_one _ (by omega), Nat.testBit_eq_decide_div_mod_eq]
 by_cases h1 : s / 2 ^ i % 2 = 1
 ·rw [h1, if_pos (by simp)]; rfl
 ·rw [if_neg (by simpa using h1), show s / 2 ^ i % 2 = 0 by omega]; rfl
theorem open_succ {acc : Nat → Nat → Bool} {A : Nat → Bool} {L p : Nat} : openB acc (L + 1) A p = (openB acc L A p || (A L && acc p L)) := by
 simp [openB, List.range_succ]
def rowI (y : Yd) (I : Nat → Bool) : List D := (List.range y.pits.length).map fun p => D.bool (I p)
theorem xv_Flow {y : Yd} {l : List Bt} (hO : LsOk y l) (hcl : ∀ p ∈ y.pits, p.cls.length ≤ 1000000) (I : Nat → Bool) :
 EvX Tryz.prog 37 [.d (ydD y), .d (.sl 5 (l.map btD)), .own 1000 1 (rowI y I).length] [(1000, .row 4 1 (rowI y I) false)] (.d (iD (flowR (accF y l) y.pits.length l.length (volF y l) (roomF y) I))) [(1000, .row 4 1 (rowI y I) false)] := by
 have hy := yd_ok hO.yd
 have hlen := hO.len
 have hP8 := hy.pits
 have hb20 := hy.bulk
 have hlp : (y.pits.map ptD).length = y.pits.length := List.length_map _
 have hll : (l.map btD).length = l.length := List.length_map _
 have hrb := room_bd hy
 have hvb := vol_bd hO
 have hV := ev_Volumes y l y.carry (by omega) (by omega) hO.wok ⟨hy.carL, hy.car⟩
 have hvl : (volF y l).length = l.length := (volsGo_spec hO.wok ⟨hy.carL, hy.car⟩).1
 have hro : ∀ p, (h : p < y.pits.length) → Ev Tryz.prog 43 [ydD y, iD p] (iD ((roomF y).getD p 0)) := fun p h => by
  obtain ⟨q, hq⟩ := some_of_lt h
  have h1 := ev_Room9 y hq (hy.pit q (List.mem_of_getElem? hq)).1 hy.vol (by have := hy.deps; omega)
  have e : (roomF y).getD p 0 = roomS y q := by rw [roomF, List.getD, List.getElem?_map, hq]; rfl
  rw [e]; exact h1
 rw [show volsGo y y.carry l = volF y l from rfl] at hV
 have hrI : (rowI y I).length = y.pits.length := by simp [rowI]
 have hIat : ∀ p, p < y.pits.length → (rowI y I)[p]? = some (D.bool (I p)) := fun p hp => by rw [rowI, List.getElem?_map, List.getElem?_range hp]; rfl
 generalize rowI y I = rI at *
 generalize volF y l = vol at *
 generalize roomF y = room at *
 have hvm : (vol.map iD).length = vol.length := List.length_map _
 have hpw : 2 ^ l.length ≤ 4096 := Nat.le_trans (Nat.pow_le_pow_right (by decide) hlen) (by decide)
 have hsh : shlZ 1 ((l.map btD).length : Int) = ((2 ^ l.length : Nat) : Int) := by rw [hll, shlZ, Int.toNat_natCast]; simp
 have hb64 : ((IntKind.i64.bits : Nat) : Int) = 64 := rfl
 have hFd : ∀ s : Nat, capW (accF y l) y.pits.length l.length vol room I s.testBit = sumN l.length (fun b => if s.testBit b = true then 0 else vol.getD b 0) + sumN y.pits.length fun p => if openB (accF y l) l.length s.testBit p = true ∧ I p = true then room.getD p 0 else 0 := fun s => rfl
 rw [flowR]
 obtain ⟨F, hF⟩ : ∃ F : Nat → Int, F = fun s : Nat => capW (accF y l) y.pits.length l.length vol room I s.testBit := ⟨_, rfl⟩
 rw [← hF]
 have hFd : ∀ s : Nat, F s = sumN l.length (fun b => if s.testBit b = true then 0 else vol.getD b 0) + sumN y.pits.length fun p => if openB (accF y l) l.length s.testBit p = true ∧ I p = true then room.getD p 0 else 0 := fun s => by rw [hF]; rfl
 clear hF
 generalize 2 ^ l.length = N at *
 refine evx_of_awp tysOk mixed (fn := Tryz.f37) Tryz.func37 rfl rfl rfl ?_
 conv => whnf
 repeat' (first|((with_reducible refine AltK.l ?_);(conv=>whnf);(first|(refine CallK.mk _ (hV) ?_));conv=>whnf)|fail)
 refine LoopK.o3 (fun s : Nat => s ≤ N) (fun s => [(9, .d (iD s)), (8, .d (iD (bestZ F s)))]) (fun _ => []) (fun s => N - s) 0 (Nat.zero_le _) (by refine ⟨?_, ?_, rfl⟩<;>(repeat' (first|exact True.intro|exact rfl|(refine ⟨?_,?_⟩)|(intro h;cases h;done)|fail));done) ?_
 rintro s hs
 dsimp only at hs ⊢
 by_cases hsl : s < N
 ·have hFs := hFd s
  conv => whnf
  repeat' (first|((with_reducible refine Split.dec (fun _=>?_) (fun _=>?_))<;>conv=>whnf)|((with_reducible refine Need.mk ?_ ?_);(first|omega|rfl|decide|(refine ⟨?_,?_⟩<;>simp<;>omega)|(simp;omega));conv=>whnf)|((with_reducible refine Wr.inr ?_ ?_);(first|omega|(simp;omega));conv=>whnf)|(exfalso;first|omega|contradiction)|fail)
  all_goals first
   |(exfalso; omega)
   | skip
  refine LoopK.o3 (fun i : Nat => i ≤ l.length) (fun i => [(11, .d (iD i)), (10, .d (iD (sumN i fun b => if s.testBit b = true then 0 else vol.getD b 0)))]) (fun _ => []) (fun i => l.length - i) 0 (by omega) (by refine ⟨?_, ?_, rfl⟩<;>(repeat' (first|exact True.intro|exact rfl|(refine ⟨?_,?_⟩)|(intro h;cases h;done)|fail));done) ?_
  rintro i hi
  dsimp only at hi ⊢
  have hn1 : 0 ≤ sumN i (fun b => if s.testBit b = true then 0 else vol.getD b 0) := sumN_nn fun b _ => by
   have := hvb b
   split <;> omega
  have hn2 := sumN_bd (n := i) (f := fun b => if s.testBit b = true then 0 else vol.getD b 0) (M := 10000000000001000) fun b _ => by
   have := hvb b
   split <;> omega
  have hst : sumN (i + 1) (fun b => if s.testBit b = true then 0 else vol.getD b 0) = sumN i (fun b => if s.testBit b = true then 0 else vol.getD b 0) + if s.testBit i = true then 0 else vol.getD i 0 := rfl
  have hbt := bit_z (s := s) (i := i) (by omega)
  by_cases hil : i < l.length
  ·obtain ⟨v, hv⟩ := some_of_lt (show i < vol.length by omega)
   have hvi := hvb i
   have hvd : vol.getD i 0 = v := by rw [List.getD, hv]; rfl
   rw [hvd] at hst hvi
   cases htb : s.testBit i with
   | true =>
    rw [htb, if_pos rfl, Int.add_zero] at hst
    rw [htb, if_pos rfl] at hbt
    generalize sumN i (fun b => if s.testBit b = true then 0 else vol.getD b 0) = sm at *
    conv => whnf
    repeat' (first|((with_reducible refine Split.eqz (fun _=>?_) (fun _=>?_))<;>conv=>whnf)|((with_reducible refine Split.dec (fun _=>?_) (fun _=>?_))<;>conv=>whnf)|((with_reducible refine Need.mk ?_ ?_);(first|omega|rfl|decide|(refine ⟨?_,?_⟩<;>simp<;>omega)|(simp;omega));conv=>whnf)|((with_reducible refine Wr.inr ?_ ?_);(first|omega|(simp;omega));conv=>whnf)|(exfalso;first|omega|contradiction)|fail)
    all_goals first
     |(exfalso; omega)
     | skip
    refine Again.av (i + 1) (by omega) (by omega) ?_
    rw [hst]
    exact (by refine ⟨?_, ?_, rfl⟩<;>(repeat' (first|exact True.intro|exact rfl|(refine ⟨?_,?_⟩)|(intro h;cases h;done)|fail));done)
   | false =>
    rw [htb, if_neg (by decide)] at hst
    rw [htb, if_neg (by decide)] at hbt
    generalize sumN i (fun b => if s.testBit b = true then 0 else vol.getD b 0) = sm at *
    conv => whnf
    repeat' (first|((refine PickE.map i hv (by omega) ?_);conv=>whnf)|((with_reducible refine Split.eqz (fun _=>?_) (fun _=>?_))<;>conv=>whnf)|((with_reducible refine Split.dec (fun _=>?_) (fun _=>?_))<;>conv=>whnf)|((with_reducible refine Need.mk ?_ ?_);(first|omega|rfl|decide|(refine ⟨?_,?_⟩<;>simp<;>omega)|(simp;omega));conv=>whnf)|((with_reducible refine Wr.inr ?_ ?_);(first|omega|(simp;omega));conv=>whnf)|(exfalso;first|omega|contradiction)|fail)
    all_goals first
     |(exfalso; omega)
     | skip
    refine Again.av (i + 1) (by omega) (by omega) ?_
    rw [hst]
    exact (by refine ⟨?_, ?_, rfl⟩<;>(repeat' (first|exact True.intro|exact rfl|(refine ⟨?_,?_⟩)|(intro h;cases h;done)|fail));done)
  ·have hie : i = l.length := by omega
   subst hie
   clear hst hbt
   generalize sumN l.length (fun b => if s.testBit b = true then 0 else vol.getD b 0) = S1 at *
   conv => whnf
   repeat' (first|((with_reducible refine Split.eqz (fun _=>?_) (fun _=>?_))<;>conv=>whnf)|((with_reducible refine Split.dec (fun _=>?_) (fun _=>?_))<;>conv=>whnf)|((with_reducible refine Need.mk ?_ ?_);(first|omega|rfl|decide|(refine ⟨?_,?_⟩<;>simp<;>omega)|(simp;omega));conv=>whnf)|((with_reducible refine Wr.inr ?_ ?_);(first|omega|(simp;omega));conv=>whnf)|(exfalso;first|omega|contradiction)|fail)
   refine LoopK.o3 (fun p : Nat => p ≤ y.pits.length) (fun p => [(12, .d (iD p)), (10, .d (iD (S1 + sumN p fun p => if openB (accF y l) l.length s.testBit p = true ∧ I p = true then room.getD p 0 else 0)))]) (fun _ => []) (fun p => y.pits.length - p) 0 (by omega) (by refine ⟨?_, ?_, rfl⟩<;>(repeat' (first|exact True.intro|exact rfl|(refine ⟨?_,?_⟩)|(intro h;cases h;done)|((first|refine own_congr ?_|refine int_congr ?_|skip);simp [sumN];done)|fail));done) ?_
   rintro p hp
   dsimp only at hp ⊢
   have hs1 : 0 ≤ sumN p (fun p => if openB (accF y l) l.length s.testBit p = true ∧ I p = true then room.getD p 0 else 0) := sumN_nn fun q _ => by
    have := hrb q
    split <;> omega
   have hs2 := sumN_bd (n := p) (f := fun p => if openB (accF y l) l.length s.testBit p = true ∧ I p = true then room.getD p 0 else 0) (M := 40000000000000) fun q _ => by
    have := hrb q
    split <;> omega
   by_cases hpl : p < y.pits.length
   ·obtain ⟨q, hq⟩ := some_of_lt hpl
    have hst : sumN (p + 1) (fun p => if openB (accF y l) l.length s.testBit p = true ∧ I p = true then room.getD p 0 else 0) = sumN p (fun p => if openB (accF y l) l.length s.testBit p = true ∧ I p = true then room.getD p 0 else 0) + if openB (accF y l) l.length s.testBit p = true ∧ I p = true then room.getD p 0 else 0 := rfl
    generalize sumN p (fun p => if openB (accF y l) l.length s.testBit p = true ∧ I p = true then room.getD p 0 else 0) = sm at *
    have hrp := hrb p
    have w5 := hro p hpl
    have w6 := hIat p hpl
    generalize room.getD p 0 = rp at *
    conv => whnf
    repeat' (first|((with_reducible refine Split.of_true ?_);conv=>whnf)|((with_reducible refine Split.dec (fun _=>?_) (fun _=>?_))<;>conv=>whnf)|((with_reducible refine Wr.inr ?_ ?_);(first|omega|(simp;omega));conv=>whnf)|(exfalso;first|omega|contradiction)|fail)
    refine LoopK.o3 (fun j : Nat => j ≤ l.length) (fun j => [(14, .d (iD j)), (13, .d (.bool (openB (accF y l) j s.testBit p)))]) (fun _ => []) (fun j => l.length - j) 0 (by omega) (by refine ⟨?_, ?_, rfl⟩<;>(repeat' (first|exact True.intro|exact rfl|(refine ⟨?_,?_⟩)|(intro h;cases h;done)|fail));done) ?_
    rintro j hj
    dsimp only at hj ⊢
    by_cases hjl : j < l.length
    ·obtain ⟨b, hb⟩ := some_of_lt hjl
     have w2 := ev_Accepts9 q b.cls (hcl q (List.mem_of_getElem? hq))
     have eA : accF y l p j = accB q b.cls := by rw [accF, hq, hb]
     have hso := open_succ (acc := accF y l) (A := s.testBit) (L := j) (p := p)
     have hbt := bit_z (s := s) (i := j) (by omega)
     rw [eA] at hso
     cases hop : openB (accF y l) j s.testBit p with
     | true =>
      rw [hop, Bool.true_or] at hso
      conv => whnf
      repeat' (first|((with_reducible refine Split.of_true ?_);conv=>whnf)|((with_reducible refine Split.dec (fun _=>?_) (fun _=>?_))<;>conv=>whnf)|((with_reducible refine Need.mk ?_ ?_);(first|omega|rfl|decide|(refine ⟨?_,?_⟩<;>simp<;>omega)|(simp;omega));conv=>whnf)|((with_reducible refine Wr.inr ?_ ?_);(first|omega|(simp;omega));conv=>whnf)|(exfalso;first|omega|contradiction)|fail)
      refine Again.av (j + 1) (by omega) (by omega) ?_
      rw [hso]
      exact (by refine ⟨?_, ?_, rfl⟩<;>(repeat' (first|exact True.intro|exact rfl|(refine ⟨?_,?_⟩)|(intro h;cases h;done)|fail));done)
     | false =>
      rw [hop, Bool.false_or] at hso
      cases htb : s.testBit j with
      | false =>
       rw [htb, Bool.false_and] at hso
       rw [htb, if_neg (by decide)] at hbt
       conv => whnf
       repeat' (first|((refine PickE.map j hb (by omega) ?_);conv=>whnf)|((refine PickE.map p hq (by omega) ?_);conv=>whnf)|((with_reducible refine Split.of_false ?_);conv=>whnf)|((with_reducible refine Split.eqz (fun _=>?_) (fun _=>?_))<;>conv=>whnf)|((with_reducible refine Split.dec (fun _=>?_) (fun _=>?_))<;>conv=>whnf)|((with_reducible refine Need.mk ?_ ?_);(first|omega|rfl|decide|(refine ⟨?_,?_⟩<;>simp<;>omega)|(simp;omega));conv=>whnf)|((with_reducible refine Wr.inr ?_ ?_);(first|omega|(simp;omega));conv=>whnf)|((with_reducible refine AltK.l ?_);(conv=>whnf);(first|(refine CallK.mk _ (w2) ?_));conv=>whnf)|(exfalso;first|omega|contradiction)|fail)
       all_goals first
        |(exfalso; omega)
        | skip
       refine Again.av (j + 1) (by omega) (by omega) ?_
       rw [hso]
       exact (by refine ⟨?_, ?_, rfl⟩<;>(repeat' (first|exact True.intro|exact rfl|(refine ⟨?_,?_⟩)|(intro h;cases h;done)|fail));done)
      | true =>
       rw [htb, Bool.true_and] at hso
       rw [htb, if_pos rfl] at hbt
       conv => whnf
       repeat' (first|((refine PickE.map j hb (by omega) ?_);conv=>whnf)|((refine PickE.map p hq (by omega) ?_);conv=>whnf)|((with_reducible refine Split.of_false ?_);conv=>whnf)|((with_reducible refine Split.eqz (fun _=>?_) (fun _=>?_))<;>conv=>whnf)|((with_reducible refine Split.dec (fun _=>?_) (fun _=>?_))<;>conv=>whnf)|((with_reducible refine Need.mk ?_ ?_);(first|omega|rfl|decide|(refine ⟨?_,?_⟩<;>simp<;>omega)|(simp;omega));conv=>whnf)|((with_reducible refine Wr.inr ?_ ?_);(first|omega|(simp;omega));conv=>whnf)|((with_reducible refine AltK.l ?_);(conv=>whnf);(first|(refine CallK.mk _ (w2) ?_));conv=>whnf)|(exfalso;first|omega|contradiction)|fail)
       all_goals first
        |(exfalso; omega)
        | skip
       refine Again.av (j + 1) (by omega) (by omega) ?_
       rw [hso]
       exact (by refine ⟨?_, ?_, rfl⟩<;>(repeat' (first|exact True.intro|exact rfl|(refine ⟨?_,?_⟩)|(intro h;cases h;done)|fail));done)
    ·have hje : j = l.length := by omega
     subst hje
     cases hop : openB (accF y l) l.length s.testBit p with
     | false =>
      rw [hop, if_neg (fun h => by cases h.1), Int.add_zero] at hst
      conv => whnf
      repeat' (first|((with_reducible refine Split.of_false ?_);conv=>whnf)|((with_reducible refine Split.eqz (fun _=>?_) (fun _=>?_))<;>conv=>whnf)|((with_reducible refine Split.dec (fun _=>?_) (fun _=>?_))<;>conv=>whnf)|((with_reducible refine Need.mk ?_ ?_);(first|omega|rfl|decide|(refine ⟨?_,?_⟩<;>simp<;>omega)|(simp;omega));conv=>whnf)|((with_reducible refine Wr.inr ?_ ?_);(first|omega|(simp;omega));conv=>whnf)|(exfalso;first|omega|contradiction)|fail)
      refine Again.av (p + 1) (by omega) (by omega) ?_
      rw [hst]
      exact (by refine ⟨?_, ?_, rfl⟩<;>(repeat' (first|exact True.intro|exact rfl|(refine ⟨?_,?_⟩)|(intro h;cases h;done)|fail));done)
     | true =>
      cases hIp : I p with
      | false =>
       rw [hIp] at w6
       rw [hIp, if_neg (fun h => by cases h.2), Int.add_zero] at hst
       conv => whnf
       repeat' (first|((refine PickE.mk _ w6 ?_);conv=>whnf)|((with_reducible first|refine Split.of_true ?_|refine Split.of_false ?_);conv=>whnf)|((with_reducible refine Split.dec (fun _=>?_) (fun _=>?_))<;>conv=>whnf)|((with_reducible refine Need.mk ?_ ?_);(first|omega|rfl|decide|(refine ⟨?_,?_⟩<;>simp<;>omega)|(simp;omega));conv=>whnf)|((with_reducible refine Wr.inr ?_ ?_);(first|omega|(simp;omega));conv=>whnf)|(exfalso;first|omega|contradiction)|fail)
       refine Again.av (p + 1) (by omega) (by omega) ?_
       rw [hst]
       exact (by refine ⟨?_, ?_, rfl⟩<;>(repeat' (first|exact True.intro|exact rfl|(refine ⟨?_,?_⟩)|(intro h;cases h;done)|fail));done)
      | true =>
       rw [hIp] at w6
       rw [hop, hIp, if_pos ⟨rfl, rfl⟩] at hst
       conv => whnf
       repeat' (first|((refine PickE.mk _ w6 ?_);conv=>whnf)|((with_reducible refine Split.of_true ?_);conv=>whnf)|((with_reducible refine Split.dec (fun _=>?_) (fun _=>?_))<;>conv=>whnf)|((with_reducible refine Need.mk ?_ ?_);(first|omega|rfl|decide|(refine ⟨?_,?_⟩<;>simp<;>omega)|(simp;omega));conv=>whnf)|((with_reducible refine Wr.inr ?_ ?_);(first|omega|(simp;omega));conv=>whnf)|((with_reducible refine AltK.l ?_);(conv=>whnf);(first|(refine CallK.mk _ (w5) ?_));conv=>whnf)|(exfalso;first|omega|contradiction)|fail)
       refine Again.av (p + 1) (by omega) (by omega) ?_
       rw [hst]
       exact (by refine ⟨?_, ?_, rfl⟩<;>(repeat' (first|exact True.intro|exact rfl|(refine ⟨?_,?_⟩)|(intro h;cases h;done)|(refine int_congr ?_;(first|omega|(simp;omega)))|fail));done)
   ·have hpe : p = y.pits.length := by omega
    subst hpe
    rw [← hFs]
    have hbz : bestZ F (s + 1) = if bestZ F s < 0 ∨ F s < bestZ F s then F s else bestZ F s := rfl
    generalize bestZ F s = bz at *
    generalize F s = fs at *
    by_cases hc : bz < 0 ∨ fs < bz
    ·rw [if_pos hc] at hbz
     conv => whnf
     repeat' (first|((with_reducible refine Split.of_true ?_);conv=>whnf)|((with_reducible refine Split.dec (fun _=>?_) (fun _=>?_))<;>conv=>whnf)|((with_reducible refine Wr.inr ?_ ?_);(first|omega|(simp;omega));conv=>whnf)|(exfalso;first|omega|contradiction)|fail)
     all_goals first
      |(exfalso; omega)
      | skip
     all_goals refine Again.av (s + 1) (by omega) (by omega) ?_
     all_goals rw [hbz]
     all_goals exact (by refine ⟨?_, ?_, rfl⟩<;>(repeat' (first|exact True.intro|exact rfl|(refine ⟨?_,?_⟩)|(intro h;cases h;done)|fail));done)
    ·rw [if_neg hc] at hbz
     conv => whnf
     repeat' (first|((with_reducible refine Split.of_true ?_);conv=>whnf)|((with_reducible refine Split.dec (fun _=>?_) (fun _=>?_))<;>conv=>whnf)|((with_reducible refine Wr.inr ?_ ?_);(first|omega|(simp;omega));conv=>whnf)|(exfalso;first|omega|contradiction)|fail)
     all_goals first
      |(exfalso; omega)
      | skip
     all_goals refine Again.av (s + 1) (by omega) (by omega) ?_
     all_goals rw [hbz]
     all_goals exact (by refine ⟨?_, ?_, rfl⟩<;>(repeat' (first|exact True.intro|exact rfl|(refine ⟨?_,?_⟩)|(intro h;cases h;done)|fail));done)
 ·have hse : s = N := by omega
  subst hse
  conv => whnf
  repeat' (first|((with_reducible refine Split.dec (fun _=>?_) (fun _=>?_))<;>conv=>whnf)|((with_reducible refine Need.mk ?_ ?_);(first|omega|rfl|decide|(refine ⟨?_,?_⟩<;>simp<;>omega)|(simp;omega));conv=>whnf)|((with_reducible refine Wr.inr ?_ ?_);(first|omega|(simp;omega));conv=>whnf)|(exfalso;first|omega|contradiction)|fail)
  all_goals first
   |(exfalso; omega)
   | skip
  exact ⟨⟨[], (by refine ⟨?_, ?_, rfl⟩<;>(repeat' (first|exact True.intro|exact rfl|(refine ⟨?_,?_⟩)|(intro h;cases h;done)|fail));done)⟩, rfl⟩
theorem ev_Total {y : Yd} {l : List Bt} (hO : LsOk y l) : Ev Tryz.prog 38 [ydD y, .sl 5 (l.map btD)] (iD (volF y l).sum) := by
 have hy := yd_ok hO.yd
 have hlen := hO.len
 have hb20 := hy.bulk
 have hll : (l.map btD).length = l.length := List.length_map _
 have hV := ev_Volumes y l y.carry (by omega) (by omega) hO.wok ⟨hy.carL, hy.car⟩
 obtain ⟨hvl, hvb⟩ := volsGo_spec hO.wok ⟨hy.carL, hy.car⟩
 rw [show volsGo y y.carry l = volF y l from rfl] at hV hvl hvb
 generalize volF y l = vol at *
 have hvm : (vol.map iD).length = vol.length := List.length_map _
 refine ev_of_awp tysOk mixed (fn := Tryz.f38) Tryz.func38 rfl rfl rfl ?_
 conv => whnf
 repeat' (first|((with_reducible refine AltK.l ?_);(conv=>whnf);(first|(refine CallK.mk _ (hV) ?_));conv=>whnf)|fail)
 refine LoopK.o2 (fun i : Nat => i ≤ vol.length) (fun i => [(7, .d (iD i)), (5, .d (iD (vol.take i).sum))]) (fun _ => []) (fun i => vol.length - i) 0 (by omega) (by refine ⟨?_, ?_, rfl⟩<;>(repeat' (first|exact True.intro|exact rfl|(refine ⟨?_,?_⟩)|(intro h;cases h;done)|fail));done) ?_
 rintro i hi
 dsimp only at hi ⊢
 have hsb := sum_bd (r := vol.take i) fun x hx => hvb x (List.mem_of_mem_take hx)
 rw [show (vol.take i).length = i by rw [List.length_take]; omega] at hsb
 by_cases hil : i < vol.length
 ·obtain ⟨x, hx⟩ := some_of_lt hil
  have hxb := hvb x (List.mem_of_getElem? hx)
  have hs : (vol.take (i + 1)).sum = (vol.take i).sum + x := by rw [List.take_add_one, hx]; simp
  generalize (vol.take i).sum = sm at *
  conv => whnf
  repeat' (first|((refine PickE.map i hx (by omega) ?_);conv=>whnf)|((with_reducible refine Split.dec (fun _=>?_) (fun _=>?_))<;>conv=>whnf)|((with_reducible refine Need.mk ?_ ?_);(first|omega|rfl|decide|(refine ⟨?_,?_⟩<;>simp<;>omega)|(simp;omega));conv=>whnf)|((with_reducible refine Wr.inr ?_ ?_);(first|omega|(simp;omega));conv=>whnf)|(exfalso;first|omega|contradiction)|fail)
  refine Again.au (i + 1) (by omega) (by omega) ?_
  rw [hs]
  exact (by refine ⟨?_, ?_, rfl⟩<;>(repeat' (first|exact True.intro|exact rfl|(refine ⟨?_,?_⟩)|(intro h;cases h;done)|fail));done)
 ·have hie : i = vol.length := by omega
  subst hie
  rw [List.take_length]
  conv => whnf
  repeat' (first|((with_reducible refine Split.dec (fun _=>?_) (fun _=>?_))<;>conv=>whnf)|((with_reducible refine Need.mk ?_ ?_);(first|omega|rfl|decide|(refine ⟨?_,?_⟩<;>simp<;>omega)|(simp;omega));conv=>whnf)|(exfalso;first|omega|contradiction)|fail)
  rfl
theorem ev_Least {y : Yd} {l : List Bt} (hO : LsOk y l) (hcl : ∀ p ∈ y.pits, p.cls.length ≤ 1000000) {fl : List (List Int)} {k : Nat} (hk : fillsF (accF y l) y.pits.length l.length 20 k (volF y l) (roomF y) (ordF y) (flow0 y l) = some fl)
 (hf : FlOk (accF y l) y.pits.length l.length (volF y l) (roomF y) fl) :
 Ev Tryz.prog 13 [ydD y, .sl 5 (l.map btD)] (.tup [iD (costF y (allF y l fl l.length)), .bool (doneF l.length (volF y l) fl)]) := by
 have hy := yd_ok hO.yd
 have hP8 := hy.pits
 have hlp : (y.pits.map ptD).length = y.pits.length := List.length_map _
 have hll : (l.map btD).length = l.length := List.length_map _
 have hvl : (volF y l).length = l.length := (volsGo_spec hO.wok ⟨hy.carL, hy.car⟩).1
 have hT := ev_Total hO
 have hdn := lst_done hf hvl
 have hct := lst_cost hO.yd hf
 have hfz : ∀ p, p < y.pits.length → 0 ≤ fillZ y fl p ∧ fillZ y fl p ≤ 40000000000000 := fun p hp => by
  have h1 := hf.fr p hp
  have h2 := room_bd hy p
  have h3 : fillZ y fl p = sumN l.length fun b => cellZ fl b p := by rw [fillZ, free_sum hf.dim]; omega
  have h4 := sumN_nn (f := fun b => cellZ fl b p) (n := l.length) fun b _ => hf.nn b p
  rw [fillZ] at h3 ⊢
  omega
 have hrow : ∀ n o, (ordF y)[n]? = some o → o < y.pits.length → (rowI y (inI y n)).set o (.bool true) = rowI y (inI y (n + 1)) := fun n o ho hol => by
  apply List.ext_getElem?
  intro i
  rw [List.getElem?_set]
  by_cases h1 : i < y.pits.length
  ·have h2 : ∀ I : Nat → Bool, (rowI y I)[i]? = some (.bool (I i)) := fun I => by rw [rowI, List.getElem?_map, List.getElem?_range h1]; rfl
   rw [h2, h2, inI_succ ho]
   by_cases h3 : o = i
   ·subst h3; simp [rowI, hol]
   ·have : (i == o) = false := by simp; omega
    rw [if_neg h3, this, Bool.or_false]
  ·have h2 : ∀ I : Nat → Bool, (rowI y I)[i]? = none := fun I => by rw [List.getElem?_eq_none_iff]; simp [rowI]; omega
   rw [h2, h2, if_neg (by omega)]
 have hrl : ∀ n, (rowI y (inI y n)).length = y.pits.length := fun n => by simp [rowI]
 have hFl := fun n => (xv_Flow hO hcl (inI y n)).rn [(1000, 16)] rfl
 have hmp0 : List.replicate ((y.pits.map ptD).length : Int).toNat (D.bool false) = rowI y (inI y 0) := by
  apply List.ext_getElem
  ·simp [rowI]
  ·intro i h1 h2
   simp [rowI, inI]
 rw [← hct]
 have hdB : doneF l.length (volF y l) fl = decide (flowN y fl y.pits.length = (volF y l).sum) := by
  rw [Bool.eq_iff_iff, decide_eq_true_eq, ← hdn]
  exact ⟨fun h => h.symm, fun h => h.symm⟩
 rw [hdB]
 clear hdB hdn hct
 generalize (volF y l).sum = tot at *
 have hN : ∀ n, n ≤ y.pits.length → 0 ≤ flowN y fl n ∧ flowN y fl n ≤ n * 40000000000000 ∧ 0 ≤ costN y fl n ∧ costN y fl n ≤ n * 400000000000000000 := by
  intro n
  induction n with
  | zero => intro _; exact ⟨Int.le_refl _, Int.le_refl _, Int.le_refl _, Int.le_refl _⟩
  | succ n ih =>
   intro hn
   obtain ⟨h1, h2, h3, h4⟩ := ih (by omega)
   obtain ⟨o, ho, hol, -⟩ := ord_at (y := y) (n := n) (by omega)
   have h5 := hfz o hol
   have h6 := priceF_bd hy o
   have h7 := Int.mul_nonneg h5.1 h6.1
   have h8 := Int.mul_le_mul h5.2 h6.2 h6.1 (by decide)
   rw [flowN_succ ho, costN_succ ho]
   omega
 have f0 : flowN y fl 0 = 0 := rfl
 have c0 : costN y fl 0 = 0 := rfl
 refine ev_of_awp tysOk mixed (fn := Tryz.f13) Tryz.func13 rfl rfl rfl ?_
 conv => whnf
 repeat' (first|((with_reducible refine Need.mk ?_ ?_);(first|omega|rfl|decide|(refine ⟨?_,?_⟩<;>simp<;>omega)|(simp;omega));conv=>whnf)|fail)
 refine LoopK.o3 (fun n : Nat => n ≤ y.pits.length) (fun n => [(9, .d (iD n)), (7, .d (iD (costN y fl n))), (8, .d (iD (flowN y fl n))), (6, .own 16 1 y.pits.length)]) (fun n => [(16, .row 4 1 (rowI y (inI y n)) false)]) (fun n => y.pits.length - n) 0 (by omega) (by refine ⟨?_, ?_, rfl⟩<;>(repeat' (first|exact True.intro|exact rfl|(refine ⟨?_,?_⟩)|(intro h;cases h;done)|(refine own_congr ?_;simp;done)|exact hmp0|fail));done) ?_
 clear hmp0 f0 c0
 rintro n hn
 dsimp only at hn ⊢
 have hrn := hrl n
 by_cases hnl : n < y.pits.length
 ·obtain ⟨o, ho, hol, hnx⟩ := ord_at (y := y) (n := n) hnl
  have hat : ∀ p, p < y.pits.length → (rowI y (inI y n))[p]? = some (.bool (inI y n p)) := fun p hp => by rw [rowI, List.getElem?_map, List.getElem?_range hp]; rfl
  conv => whnf
  repeat' (first|((with_reducible refine Split.dec (fun _=>?_) (fun _=>?_))<;>conv=>whnf)|(exfalso;first|omega|contradiction)|fail)
  refine LoopK.o3 (fun p : Nat => p ≤ y.pits.length) (fun p => [(11, .d (iD p)), (10, .d (iD (nextZ (priceF y) (inI y n) p)))]) (fun _ => []) (fun p => y.pits.length - p) 0 (by omega) (by refine ⟨?_, ?_, rfl⟩<;>(repeat' (first|exact True.intro|exact rfl|(refine ⟨?_,?_⟩)|(intro h;cases h;done)|fail));done) ?_
  rintro p hp
  dsimp only at hp ⊢
  by_cases hpl : p < y.pits.length
  ·obtain ⟨q, hq⟩ := some_of_lt hpl
   have w6 := hat p hpl
   have hpr : priceF y p = q.price := by rw [priceF, hq]
   have hst : nextZ (priceF y) (inI y n) (p + 1) = if inI y n p = false ∧ (nextZ (priceF y) (inI y n) p < 0 ∨ priceF y p < priceF y (nextZ (priceF y) (inI y n) p).toNat) then (p : Int) else nextZ (priceF y) (inI y n) p := rfl
   have hno := nextZ_ok (pr := priceF y) (I := inI y n) p
   generalize nextZ (priceF y) (inI y n) p = z at *
   cases hI : inI y n p with
   | true =>
    rw [hI, if_neg (fun h => by cases h.1)] at hst
    rw [hI] at w6
    conv => whnf
    repeat' (first|((refine PickE.mk _ w6 ?_);conv=>whnf)|((with_reducible first|refine Split.of_true ?_|refine Split.of_false ?_);conv=>whnf)|(with_reducible refine Split.neg ?_)|((with_reducible refine Split.dec (fun _=>?_) (fun _=>?_))<;>conv=>whnf)|((with_reducible refine Need.mk ?_ ?_);(first|omega|rfl|decide|(refine ⟨?_,?_⟩<;>simp<;>omega)|(simp;omega));conv=>whnf)|((with_reducible refine Wr.inr ?_ ?_);(first|omega|(simp;omega));conv=>whnf)|(exfalso;first|omega|contradiction)|fail)
    refine Again.av (p + 1) (by omega) (by omega) ?_
    rw [hst]
    exact (by refine ⟨?_, ?_, rfl⟩<;>(repeat' (first|exact True.intro|exact rfl|(refine ⟨?_,?_⟩)|(intro h;cases h;done)|fail));done)
   | false =>
    rw [hI] at w6 hst
    rcases hno with ⟨hz, -⟩ | ⟨m, hz, hm, -, -⟩
    ·subst hz
     rw [if_pos ⟨rfl, .inl (by decide)⟩] at hst
     conv => whnf
     repeat' (first|((refine PickE.mk _ w6 ?_);conv=>whnf)|((with_reducible first|refine Split.of_true ?_|refine Split.of_false ?_);conv=>whnf)|(with_reducible refine Split.neg ?_)|((with_reducible refine Split.is_true ?_ ?_);decide;conv=>whnf)|((with_reducible refine Split.dec (fun _=>?_) (fun _=>?_))<;>conv=>whnf)|((with_reducible refine Need.mk ?_ ?_);(first|omega|rfl|decide|(refine ⟨?_,?_⟩<;>simp<;>omega)|(simp;omega));conv=>whnf)|((with_reducible refine Wr.inr ?_ ?_);(first|omega|(simp;omega));conv=>whnf)|(exfalso;first|omega|contradiction)|fail)
     refine Again.av (p + 1) (by omega) (by omega) ?_
     rw [hst]
     exact (by refine ⟨?_, ?_, rfl⟩<;>(repeat' (first|exact True.intro|exact rfl|(refine ⟨?_,?_⟩)|(intro h;cases h;done)|fail));done)
    ·subst hz
     obtain ⟨r, hr⟩ := some_of_lt (show m < y.pits.length by omega)
     have hpm : priceF y m = r.price := by rw [priceF, hr]
     rw [Int.toNat_natCast, hpm, hpr] at hst
     by_cases hlt : q.price < r.price
     ·rw [if_pos ⟨rfl, .inr hlt⟩] at hst
      conv => whnf
      repeat' (first|((refine PickE.map m hr (by omega) ?_);conv=>whnf)|((refine PickE.map p hq (by omega) ?_);conv=>whnf)|((refine PickE.mk _ w6 ?_);conv=>whnf)|((with_reducible first|refine Split.of_true ?_|refine Split.of_false ?_);conv=>whnf)|(with_reducible refine Split.neg ?_)|((with_reducible refine Split.dec (fun _=>?_) (fun _=>?_))<;>conv=>whnf)|((with_reducible refine Need.mk ?_ ?_);(first|omega|rfl|decide|(refine ⟨?_,?_⟩<;>simp<;>omega)|(simp;omega));conv=>whnf)|((with_reducible refine Wr.inr ?_ ?_);(first|omega|(simp;omega));conv=>whnf)|(exfalso;first|omega|contradiction)|fail)
      all_goals first
       |(exfalso; omega)
       | skip
      refine Again.av (p + 1) (by omega) (by omega) ?_
      rw [hst]
      exact (by refine ⟨?_, ?_, rfl⟩<;>(repeat' (first|exact True.intro|exact rfl|(refine ⟨?_,?_⟩)|(intro h;cases h;done)|fail));done)
     ·rw [if_neg (fun h => by have := h.2; omega)] at hst
      conv => whnf
      repeat' (first|((refine PickE.map m hr (by omega) ?_);conv=>whnf)|((refine PickE.map p hq (by omega) ?_);conv=>whnf)|((refine PickE.mk _ w6 ?_);conv=>whnf)|((with_reducible first|refine Split.of_true ?_|refine Split.of_false ?_);conv=>whnf)|(with_reducible refine Split.neg ?_)|((with_reducible refine Split.dec (fun _=>?_) (fun _=>?_))<;>conv=>whnf)|((with_reducible refine Need.mk ?_ ?_);(first|omega|rfl|decide|(refine ⟨?_,?_⟩<;>simp<;>omega)|(simp;omega));conv=>whnf)|((with_reducible refine Wr.inr ?_ ?_);(first|omega|(simp;omega));conv=>whnf)|(exfalso;first|omega|contradiction)|fail)
      all_goals first
       |(exfalso; omega)
       | skip
      refine Again.av (p + 1) (by omega) (by omega) ?_
      rw [hst]
      exact (by refine ⟨?_, ?_, rfl⟩<;>(repeat' (first|exact True.intro|exact rfl|(refine ⟨?_,?_⟩)|(intro h;cases h;done)|fail));done)
  ·have hpe : p = y.pits.length := by omega
   subst hpe
   rw [hnx]
   obtain ⟨q, hq⟩ := some_of_lt hol
   have hpr : priceF y o = q.price := by rw [priceF, hq]
   have w6 := hat o hol
   have hF1 := hFl (n + 1)
   rw [lst_flow hO hk, hrl (n + 1), ← hrow n o ho hol] at hF1
   have hmp1 := hrow n o ho hol
   have hfs := flowN_succ (fl := fl) ho
   have hcs := costN_succ (fl := fl) ho
   have hz := hfz o hol
   have hb1 := hN n hn
   have hb2 := hN (n + 1) (by omega)
   have hpd : (flowN y fl (n + 1) - flowN y fl n) * q.price = costN y fl (n + 1) - costN y fl n := by
    rw [hcs, hfs, hpr, show flowN y fl n + fillZ y fl o - flowN y fl n = fillZ y fl o by omega]; omega
   have hce : costN y fl n + (flowN y fl (n + 1) - flowN y fl n) * q.price = costN y fl (n + 1) := by omega
   clear hfs hcs hnx ho
   generalize hR : rowI y (inI y (n + 1)) = R1 at *
   generalize rowI y (inI y n) = R0 at *
   conv => whnf
   repeat' (first|((refine PickE.map o hq (by omega) ?_);conv=>whnf)|((refine PickE.mk _ w6 ?_);conv=>whnf)|((with_reducible refine Split.dec (fun _=>?_) (fun _=>?_))<;>conv=>whnf)|((with_reducible refine Need.mk ?_ ?_);(first|omega|rfl|decide|(refine ⟨?_,?_⟩<;>simp<;>omega)|(simp;omega));conv=>whnf)|((with_reducible refine Wr.inr ?_ ?_);(first|omega|(simp;omega));conv=>whnf)|((with_reducible refine AltK.r ?_);(conv=>whnf);(first|(refine CallX.mk _ _ (hF1) rfl ?_));conv=>whnf)|(exfalso;first|omega|contradiction)|fail)
   all_goals first
    |(exfalso; omega)
    | skip
   refine Again.av (n + 1) (by omega) (by omega) ?_
   rw [hR]
   exact (by refine ⟨?_, ?_, rfl⟩<;>(repeat' (first|exact True.intro|exact rfl|(refine ⟨?_,?_⟩)|(intro h;cases h;done)|(refine int_congr ?_;(first|omega|(simp;omega)))|exact hmp1|fail));done)
 ·have hne : n = y.pits.length := by omega
  subst hne
  generalize costN y fl y.pits.length = c at *
  generalize flowN y fl y.pits.length = f at *
  conv => whnf
  repeat' (first|((with_reducible refine Split.dec (fun _=>?_) (fun _=>?_))<;>conv=>whnf)|((with_reducible refine AltK.l ?_);(conv=>whnf);(first|(refine CallK.mk _ (hT) ?_));conv=>whnf)|(exfalso;first|omega|contradiction)|fail)
  rfl
end Go.Proofs.Tryz
end

section
namespace Go.Proofs.Tryz
open Go Go.Vm
set_option maxRecDepth 20000
set_option maxHeartbeats 8000000
theorem ev_DisposalCheapest (hA : Ev Tryz.prog 7 [] (.bool true)) (y : Yd) (l : List Bt) : Ev Tryz.prog 3 [ydD y, .sl 5 (l.map btD)] (.bool true) := by
 have h1 := ev_Small y
 have h1' := ev_few l 5 12 (by decide) (by decide)
 cases hs : smallB y with
 | false =>
  rw [hs] at h1
  refine ev_of_awp tysOk mixed (fn := Tryz.f3) Tryz.func3 rfl rfl rfl ?_
  conv => whnf
  repeat' (first|((with_reducible first|refine Split.of_true ?_|refine Split.of_false ?_);conv=>whnf)|(with_reducible refine Split.neg ?_)|((with_reducible refine AltK.l ?_);(conv=>whnf);(first|(refine CallK.mk _ (hA) ?_)|(refine CallK.mk _ (h1) ?_)|(refine CallK.mk _ (h1') ?_));conv=>whnf)|fail)
  rfl
 | true =>
 rw [hs] at h1
 have hB := smB hs
 cases hfw : fewB l 5 12 with
 | false =>
  rw [hfw] at h1'
  refine ev_of_awp tysOk mixed (fn := Tryz.f3) Tryz.func3 rfl rfl rfl ?_
  conv => whnf
  repeat' (first|((with_reducible first|refine Split.of_true ?_|refine Split.of_false ?_);conv=>whnf)|(with_reducible refine Split.neg ?_)|((with_reducible refine AltK.l ?_);(conv=>whnf);(first|(refine CallK.mk _ (hA) ?_)|(refine CallK.mk _ (h1) ?_)|(refine CallK.mk _ (h1') ?_));conv=>whnf)|fail)
  rfl
 | true =>
 rw [hfw] at h1'
 have hfl := few_len hfw
 have h2 := hB.copied
 have b1 := hB.b
 have b3 := hB.d
 have hll : (l.map btD).length = l.length := List.length_map _
 have h4 := ev_listed y l hB.sp (by omega) (by omega) (by omega)
 have hE := ev_empty
 by_cases h0 : lstE y l = 0
 ·have hO := ls_ok h0
  have hy := yd_ok hO.yd
  have hlen := hO.len
  have hP8 := hy.pits
  have hcl := (tk_ok hB.sp hO).cl
  rw [h0] at h4
  obtain ⟨fl, k, t, hk, hS, h5⟩ := ev_CheapestRun hB.sp h0
  have h6 := ev_Least hO hcl hk hS.ok
  cases hd : doneF l.length (volF y l) fl with
  | false =>
   rw [hd, if_neg (by decide), if_neg (by decide)] at h5
   rw [hd] at h6
   generalize costF y (allF y l fl l.length) = cst at *
   unfold frD fr0 at h5 hE
   dsimp only at h5 hE
   refine ev_of_awp tysOk mixed (fn := Tryz.f3) Tryz.func3 rfl rfl rfl ?_
   conv => whnf
   repeat' (first|((with_reducible first|refine Split.of_true ?_|refine Split.of_false ?_);conv=>whnf)|(with_reducible refine Split.neg ?_)|((with_reducible refine Split.is_true ?_ ?_);decide;conv=>whnf)|((with_reducible refine Need.mk ?_ ?_);(first|omega|rfl|decide|(refine ⟨?_,?_⟩<;>simp<;>omega)|(simp;omega));conv=>whnf)|((with_reducible refine AltK.l ?_);(conv=>whnf);(first|(refine CallK.mk _ (hA) ?_)|(refine CallK.mk _ (h1) ?_)|(refine CallK.mk _ (h1') ?_)|(refine CallK.mk _ (h2) ?_)|(refine CallK.mk _ (h4) ?_)|(refine CallK.mk _ (h5) ?_)|(refine CallK.mk _ (h6) ?_)|(refine CallK.mk _ (hE) ?_));conv=>whnf)|fail)
   all_goals first
    | rfl
    |(simp [retOf]; done)
    |(exfalso; omega)
  | true =>
   rw [hd, if_pos rfl, if_pos rfl] at h5
   rw [hd] at h6
   have hpv := prv_own hO hS hd
   have hAl := allF_len (l := l) (fl := fl) hP8 l.length
   have e1 : t.bs.length = l.length := hS.ti.bl
   have e2 : t.ps.length = y.pits.length := hS.ti.pl
   have h7 := ev_ordered (y := y) (l := l) (x := allF y l fl l.length) (by omega) (by omega) (by omega) (all_lex hO l.length (Nat.le_refl _))
   have h8 := ev_CheckCheapest hB.sp h0 ⟨allF y l fl l.length, costF y (allF y l fl l.length), t⟩ (by dsimp only; omega)
   have h9 := ev_Proved9 hO hcl ⟨allF y l fl l.length, costF y (allF y l fl l.length), t⟩ (by dsimp only; omega)
   rw [hpv] at h9
   rw [hpv, if_pos rfl] at h8
   clear hpv
   obtain ⟨bs, ps, bb⟩ := t
   unfold frD at h5 h8 h9
   dsimp only at h5 h8 h9 e1 e2
   generalize costF y (allF y l fl l.length) = cst at *
   generalize allF y l fl l.length = xs at *
   refine ev_of_awp tysOk mixed (fn := Tryz.f3) Tryz.func3 rfl rfl rfl ?_
   conv => whnf
   repeat' (first|((with_reducible first|refine Split.of_true ?_|refine Split.of_false ?_);conv=>whnf)|(with_reducible refine Split.neg ?_)|((with_reducible refine Split.is_true ?_ ?_);decide;conv=>whnf)|((with_reducible refine Split.is_false ?_ ?_);decide;conv=>whnf)|((with_reducible refine Split.eqz (fun _=>?_) (fun _=>?_))<;>conv=>whnf)|((with_reducible refine Need.mk ?_ ?_);(first|omega|rfl|decide|(refine ⟨?_,?_⟩<;>simp<;>omega)|(simp;omega));conv=>whnf)|((with_reducible refine AltK.l ?_);(conv=>whnf);(first|(refine CallK.mk _ (hA) ?_)|(refine CallK.mk _ (h1) ?_)|(refine CallK.mk _ (h1') ?_)|(refine CallK.mk _ (h2) ?_)|(refine CallK.mk _ (h4) ?_)|(refine CallK.mk _ (h5) ?_)|(refine CallK.mk _ (h6) ?_)|(refine CallK.mk _ (h7) ?_)|(refine CallK.mk _ (h8) ?_)|(refine CallK.mk _ (h9) ?_));conv=>whnf)|(exfalso;first|omega|contradiction)|fail)
   all_goals first
    | rfl
    |(simp [retOf]; done)
    |(exfalso; omega)
 ·have h5 := ev_CheapestNo (l := l) hB.sp (by omega) (by omega) h0
  unfold frD fr0 at h5 hE
  dsimp only at h5 hE
  generalize lstE y l = e at *
  refine ev_of_awp tysOk mixed (fn := Tryz.f3) Tryz.func3 rfl rfl rfl ?_
  conv => whnf
  repeat' (first|((with_reducible first|refine Split.of_true ?_|refine Split.of_false ?_);conv=>whnf)|(with_reducible refine Split.neg ?_)|((with_reducible refine Split.is_true ?_ ?_);decide;conv=>whnf)|((with_reducible refine Split.nez (fun _=>?_) (fun _=>?_))<;>conv=>whnf)|((with_reducible refine Split.eqz (fun _=>?_) (fun _=>?_))<;>conv=>whnf)|((with_reducible refine Need.mk ?_ ?_);(first|omega|rfl|decide|(refine ⟨?_,?_⟩<;>simp<;>omega)|(simp;omega));conv=>whnf)|((with_reducible refine AltK.l ?_);(conv=>whnf);(first|(refine CallK.mk _ (hA) ?_)|(refine CallK.mk _ (h1) ?_)|(refine CallK.mk _ (h1') ?_)|(refine CallK.mk _ (h2) ?_)|(refine CallK.mk _ (h4) ?_)|(refine CallK.mk _ (h5) ?_)|(refine CallK.mk _ (hE) ?_));conv=>whnf)|(exfalso;first|omega|contradiction)|fail)
  all_goals first
   | rfl
   |(simp [retOf]; done)
   |(exfalso; omega)
end Go.Proofs.Tryz
end

section
namespace Go.Proofs.Tryz
open Go Go.Vm
theorem int_of {k : IntKind} {d : D} (h : Ty (.int k) d) : ∃ n, d = .int k n ∧ (Lit.int k n).wf = true := by cases h; exact ⟨_, rfl, by assumption⟩
theorem str_of {d : D} (h : Ty .str d) : ∃ s, d = .str s ∧ s.size ≤ 9223372036854775807 := by
 cases h with
 | str s h => exact ⟨_, rfl, h⟩
theorem sl_of {agg : Bool} {cs : List Cs} {d : D} (h : Ty (.sl agg cs) d) : ∃ es, d = .sl cs.length es ∧ (∀ e ∈ es, TyV (agg, cs) e) ∧ es.length ≤ 9223372036854775807 := by
 cases h with
 | sl hk hl h hn => exact ⟨_, rfl, fun e he => ⟨hk e he, hl e he, h e he⟩, hn⟩
theorem agg_of {cs : List Cs} {d : D} (h : TyV (true, cs) d) : ∃ ds, d = .agg ds ∧ ds.length = cs.length ∧ ∀ (j : Nat) c e, cs[j]? = some c → ds[j]? = some e → Ty c e := by
 obtain ⟨ds, rfl⟩ := h.1.1 rfl
 exact ⟨ds, rfl, h.2.1, h.2.2⟩
theorem one_of {c : Cs} {d : D} (h : TyV (false, [c]) d) : Ty c d := by
 have h1 := h.1.2 rfl
 have := h.2.2 0 c d rfl
 rw [(one_cells h1).1] at this
 exact this rfl
theorem map_of {α : Type} {f : α → D} {Q : D → Prop} (hf : ∀ d, Q d → ∃ a, d = f a) : ∀ {es : List D}, (∀ e ∈ es, Q e) → ∃ l : List α, es = l.map f
 | [], _ => ⟨[], rfl⟩
 | e :: es, h => by
  obtain ⟨a, rfl⟩ := hf e (h e (List.mem_cons_self ..))
  obtain ⟨l, rfl⟩ := map_of hf (fun e he => h e (List.mem_cons_of_mem _ he))
  exact ⟨a :: l, rfl⟩
end Go.Proofs.Tryz
end

section
namespace Go.Proofs.Tryz
open Go Go.Vm
def cPit : List Cs := [.str, .int .i64, .int .i64, .int .i64, .sl false [.int .i64], .int .i64]
def cBulk : List Cs := [.str, .int .i64, .int .i64]
def cDep : List Cs := [.int .i64, .str, .int .i64]
def cYard : List Cs := [.sl true cPit, .sl true cBulk, .sl true cDep, .sl false [.int .i64]]
def cBat : List Cs := [.int .i64, .int .i64, .int .i64, .str, .int .i64]
theorem ints_of9 {d : D} (h : Ty (.sl false [.int .i64]) d) : ∃ l : List Int, d = .sl 1 (l.map iD) := by
 obtain ⟨es, rfl, he, -⟩ := sl_of h
 obtain ⟨l, rfl⟩ := map_of (f := iD) (fun d hd => by
  obtain ⟨n, rfl, -⟩ := int_of (one_of hd)
  exact ⟨n, rfl⟩) he
 exact ⟨l, rfl⟩
theorem pit_of {d : D} (h : TyV (true, cPit) d) : ∃ p, d = ptD p := by
 obtain ⟨ds, rfl, hl, hc⟩ := agg_of h
 match ds, hl with
 | [a, b, c, e, f, g], _ =>
  obtain ⟨s, rfl, -⟩ := str_of (hc 0 _ a rfl rfl)
  obtain ⟨x1, rfl, -⟩ := int_of (hc 1 _ b rfl rfl)
  obtain ⟨x2, rfl, -⟩ := int_of (hc 2 _ c rfl rfl)
  obtain ⟨x3, rfl, -⟩ := int_of (hc 3 _ e rfl rfl)
  obtain ⟨l, rfl⟩ := ints_of9 (hc 4 _ f rfl rfl)
  obtain ⟨x5, rfl, -⟩ := int_of (hc 5 _ g rfl rfl)
  exact ⟨⟨s, x1, x2, x3, l, x5⟩, rfl⟩
theorem bulk_of {d : D} (h : TyV (true, cBulk) d) : ∃ p, d = bkD p := by
 obtain ⟨ds, rfl, hl, hc⟩ := agg_of h
 match ds, hl with
 | [a, b, c], _ =>
  obtain ⟨s, rfl, -⟩ := str_of (hc 0 _ a rfl rfl)
  obtain ⟨x1, rfl, -⟩ := int_of (hc 1 _ b rfl rfl)
  obtain ⟨x2, rfl, -⟩ := int_of (hc 2 _ c rfl rfl)
  exact ⟨⟨s, x1, x2⟩, rfl⟩
theorem dep_of {d : D} (h : TyV (true, cDep) d) : ∃ p, d = dpD p := by
 obtain ⟨ds, rfl, hl, hc⟩ := agg_of h
 match ds, hl with
 | [a, b, c], _ =>
  obtain ⟨x1, rfl, -⟩ := int_of (hc 0 _ a rfl rfl)
  obtain ⟨s, rfl, -⟩ := str_of (hc 1 _ b rfl rfl)
  obtain ⟨x2, rfl, -⟩ := int_of (hc 2 _ c rfl rfl)
  exact ⟨⟨x1, s, x2⟩, rfl⟩
theorem bat_of {d : D} (h : TyV (true, cBat) d) : ∃ p, d = btD p := by
 obtain ⟨ds, rfl, hl, hc⟩ := agg_of h
 match ds, hl with
 | [a, b, c, e, f], _ =>
  obtain ⟨x0, rfl, -⟩ := int_of (hc 0 _ a rfl rfl)
  obtain ⟨x1, rfl, -⟩ := int_of (hc 1 _ b rfl rfl)
  obtain ⟨x2, rfl, -⟩ := int_of (hc 2 _ c rfl rfl)
  obtain ⟨s, rfl, -⟩ := str_of (hc 3 _ e rfl rfl)
  obtain ⟨x4, rfl, -⟩ := int_of (hc 4 _ f rfl rfl)
  exact ⟨⟨x0, x1, x2, s, x4⟩, rfl⟩
theorem bats_of {d : D} (h : Ty (.sl true cBat) d) : ∃ l : List Bt, d = .sl 5 (l.map btD) := by
 obtain ⟨es, rfl, he, -⟩ := sl_of h
 obtain ⟨l, rfl⟩ := map_of (fun d hd => bat_of hd) he
 exact ⟨l, rfl⟩
theorem yard_of {d : D} (h : TyV (true, cYard) d) : ∃ y, d = ydD y := by
 obtain ⟨ds, rfl, hl, hc⟩ := agg_of h
 match ds, hl with
 | [a, b, c, e], _ =>
  obtain ⟨es, rfl, he, -⟩ := sl_of (hc 0 _ a rfl rfl)
  obtain ⟨l0, rfl⟩ := map_of (fun d hd => pit_of hd) he
  obtain ⟨es, rfl, he, -⟩ := sl_of (hc 1 _ b rfl rfl)
  obtain ⟨l1, rfl⟩ := map_of (fun d hd => bulk_of hd) he
  obtain ⟨es, rfl, he, -⟩ := sl_of (hc 2 _ c rfl rfl)
  obtain ⟨l2, rfl⟩ := map_of (fun d hd => dep_of hd) he
  obtain ⟨l3, rfl⟩ := ints_of9 (hc 3 _ e rfl rfl)
  exact ⟨⟨l0, l1, l2, l3⟩, rfl⟩
end Go.Proofs.Tryz
end

section
namespace Go.Proofs.Tryz
open Go Go.Vm
theorem ev_DisposalCheapest' (y : Yd) (l : List Bt) : Ev Tryz.prog 3 [ydD y, .sl 5 (l.map btD)] (.bool true) := ev_DisposalCheapest ev_awake9 y l
end Go.Proofs.Tryz
end
