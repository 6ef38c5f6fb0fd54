/- Texts DtH TwZ DqZ DsP DtE DtG, joined; what is not needed is left out. -/
import Derived.Test.YtocplkidmjejbaaMgI
import Derived.Test.YtocplkidmjejbaaProg
import Derived.Shelf.Lays
import Derived.Test.YtocplkidmjejbaaMgH
import Derived.Test.YtocplkidmjejbaaMgJ
import Derived.Test.YtocplkidmjejbaaMpb
section
namespace Go.Proofs.Try
open Go Go.Vm
set_option maxRecDepth 20000
set_option maxHeartbeats 16000000
theorem ev_TopCheapestLoads (y : Yd) (l : List Bt) (xs : List Al) (cut : List Int) (pit part : Int) (hpit : 0 ≤ pit ∧ pit ≤ 255) (hpart : 0 ≤ part ∧ part ≤ 255) (hln : l.length ≤ 9223372036854775807) :
 Ev Try.prog 4 [ydD y, .sl 5 (l.map btD), .agg [.sl 3 (xs.map alD), .sl 1 (cut.map iD), .int .u8 pit, .int .u8 part]] (.bool true) := by
 have g1 := ev_tip
 have g2 := ev_loads
 obtain ⟨dt, xt, ct, bt, pt, g3, b1, t1, t2⟩ := cheap_says tp_small tp_ok
 cases dt with
 | false => exact absurd tp_chr (t2 rfl tpX)
 | true =>
 obtain ⟨-, -, ha, -⟩ := t1 rfl
 have g4 := ev_CheckCheapest tp_small tp_ok ⟨xt, ct, ⟨bt, pt, false⟩⟩ (by dsimp only; omega)
 rw [ha, if_pos rfl] at g4
 unfold frD at g4
 dsimp only at g4
 rw [if_pos rfl] at g3
 clear t1 t2 ha
 have h1 := ev_Small y
 have h2 := ev_tfew l 5 hln
 have hlx : (xs.map alD).length = xs.length := List.length_map _
 have hlp : (y.pits.map ptD).length = y.pits.length := List.length_map _
 have hll : (l.map btD).length = l.length := List.length_map _
 cases hs : smallB y with
 | false =>
  rw [hs] at h1
  refine ev_of_awp tysOk mixed (fn := Try.f4) Try.func4 rfl rfl rfl ?_
  conv => whnf
  repeat' (first|((with_reducible first|refine Split.of_true ?_|refine Split.of_false ?_);conv=>whnf)|(with_reducible refine Split.neg ?_)|((with_reducible refine Split.is_false ?_ ?_);decide;conv=>whnf)|((with_reducible refine Need.mk ?_ ?_);(first|omega|rfl|decide|(refine ⟨?_,?_⟩<;>simp<;>omega)|(simp;omega));conv=>whnf)|((with_reducible refine AltK.l ?_);(conv=>whnf);(first|(refine CallK.mk _ (g1) ?_)|(refine CallK.mk _ (g2) ?_)|(refine CallK.mk _ (g3) ?_)|(refine CallK.mk _ (g4) ?_)|(refine CallK.mk _ (h1) ?_)|(refine CallK.mk _ (h2) ?_));conv=>whnf)|fail)
  all_goals first
   | rfl
   |(exfalso; omega)
 | true =>
 rw [hs] at h1
 have hB := smB hs
 cases hfw : tfewB l 5 with
 | false =>
  rw [hfw] at h2
  refine ev_of_awp tysOk mixed (fn := Try.f4) Try.func4 rfl rfl rfl ?_
  conv => whnf
  repeat' (first|((with_reducible first|refine Split.of_true ?_|refine Split.of_false ?_);conv=>whnf)|(with_reducible refine Split.neg ?_)|((with_reducible refine Split.is_false ?_ ?_);decide;conv=>whnf)|((with_reducible refine Need.mk ?_ ?_);(first|omega|rfl|decide|(refine ⟨?_,?_⟩<;>simp<;>omega)|(simp;omega));conv=>whnf)|((with_reducible refine AltK.l ?_);(conv=>whnf);(first|(refine CallK.mk _ (g1) ?_)|(refine CallK.mk _ (g2) ?_)|(refine CallK.mk _ (g3) ?_)|(refine CallK.mk _ (g4) ?_)|(refine CallK.mk _ (h1) ?_)|(refine CallK.mk _ (h2) ?_));conv=>whnf)|fail)
  all_goals first
   | rfl
   |(exfalso; omega)
 | true =>
 rw [hfw] at h2
 have hl5 : l.length ≤ 5 := by
  simp only [tfewB, Bool.and_eq_true, decide_eq_true_eq] at hfw
  exact hfw.2
 by_cases hbig : 20 < xs.length
 ·refine ev_of_awp tysOk mixed (fn := Try.f4) Try.func4 rfl rfl rfl ?_
  conv => whnf
  repeat' (first|((with_reducible refine Split.of_true ?_);conv=>whnf)|(with_reducible refine Split.neg ?_)|((with_reducible refine Split.is_false ?_ ?_);decide;conv=>whnf)|((with_reducible refine Split.dec (fun _=>?_) (fun _=>?_))<;>conv=>whnf)|((with_reducible refine Need.mk ?_ ?_);(first|omega|rfl|decide|(refine ⟨?_,?_⟩<;>simp<;>omega)|(simp;omega));conv=>whnf)|((with_reducible refine AltK.l ?_);(conv=>whnf);(first|(refine CallK.mk _ (g1) ?_)|(refine CallK.mk _ (g2) ?_)|(refine CallK.mk _ (g3) ?_)|(refine CallK.mk _ (g4) ?_)|(refine CallK.mk _ (h1) ?_)|(refine CallK.mk _ (h2) ?_));conv=>whnf)|(exfalso;first|omega|contradiction)|fail)
  all_goals first
   | rfl
   |(exfalso; omega)
 have b3 := hB.b
 have b4 := hB.d
 have h3 := ev_DCheckR y hB.sp
 by_cases hy0 : ydErr y = 0
 case neg =>
  generalize ydErr y = e at *
  refine ev_of_awp tysOk mixed (fn := Try.f4) Try.func4 rfl rfl rfl ?_
  conv => whnf
  repeat' (first|((with_reducible refine Split.of_true ?_);conv=>whnf)|(with_reducible refine Split.neg ?_)|((with_reducible refine Split.is_false ?_ ?_);decide;conv=>whnf)|((with_reducible refine Split.nez (fun _=>?_) (fun _=>?_))<;>conv=>whnf)|((with_reducible refine Split.dec (fun _=>?_) (fun _=>?_))<;>conv=>whnf)|((with_reducible refine Need.mk ?_ ?_);(first|omega|rfl|decide|(refine ⟨?_,?_⟩<;>simp<;>omega)|(simp;omega));conv=>whnf)|((with_reducible refine AltK.l ?_);(conv=>whnf);(first|(refine CallK.mk _ (g1) ?_)|(refine CallK.mk _ (g2) ?_)|(refine CallK.mk _ (g3) ?_)|(refine CallK.mk _ (g4) ?_)|(refine CallK.mk _ (h1) ?_)|(refine CallK.mk _ (h2) ?_)|(refine CallK.mk _ (h3) ?_));conv=>whnf)|(exfalso;first|omega|contradiction)|fail)
  all_goals first
   | rfl
   |(exfalso; omega)
 rw [hy0] at h3
 have h4 := ev_ListErr y l 12 true (by omega) (by omega) (by omega)
 have hle : lstE y l = (if 12 < l.length then 8 else Try.lsGo y (fun n => true && depB y n) [] l) := by
  simp only [lstE, lsErr, hy0, Bool.true_and]
  rfl
 rw [← hle] at h4
 by_cases h0 : lstE y l = 0
 case neg =>
  generalize lstE y l = e at *
  refine ev_of_awp tysOk mixed (fn := Try.f4) Try.func4 rfl rfl rfl ?_
  conv => whnf
  repeat' (first|((with_reducible refine Split.of_true ?_);conv=>whnf)|(with_reducible refine Split.neg ?_)|((with_reducible refine Split.is_false ?_ ?_);decide;conv=>whnf)|((with_reducible refine Split.nez (fun _=>?_) (fun _=>?_))<;>conv=>whnf)|((with_reducible refine Split.dec (fun _=>?_) (fun _=>?_))<;>conv=>whnf)|((with_reducible refine Need.mk ?_ ?_);(first|omega|rfl|decide|(refine ⟨?_,?_⟩<;>simp<;>omega)|(simp;omega));conv=>whnf)|((with_reducible refine AltK.l ?_);(conv=>whnf);(first|(refine CallK.mk _ (g1) ?_)|(refine CallK.mk _ (g2) ?_)|(refine CallK.mk _ (g3) ?_)|(refine CallK.mk _ (g4) ?_)|(refine CallK.mk _ (h1) ?_)|(refine CallK.mk _ (h2) ?_)|(refine CallK.mk _ (h3) ?_)|(refine CallK.mk _ (h4) ?_));conv=>whnf)|(exfalso;first|omega|contradiction)|fail)
  all_goals first
   | rfl
   |(exfalso; omega)
 clear hle
 rw [h0] at h4
 have hO := ls_ok h0
 have hy := yd_ok hy0
 have hP8 := hy.pits
 obtain ⟨dn, xf, cf, bf, pf, h5, n1, d1, d2⟩ := cheap_says hB.sp h0
 have h6 := ev_CheckShares hB.sp h0 xs (by omega)
 cases dn with
 | false =>
  have e1 : asgB (accF y l) (atI l) (pitI y) (volF y l) (roomF y) xs = false := by
   cases hx : asgB (accF y l) (atI l) (pitI y) (volF y l) (roomF y) xs with
   | false => rfl
   | true => exact absurd ((asg_chr9 hO xs).1 hx) (d2 rfl xs)
  rw [e1, if_neg (by decide)] at h6
  rw [if_neg (by decide)] at h5
  clear d1 d2
  refine ev_of_awp tysOk mixed (fn := Try.f4) Try.func4 rfl rfl rfl ?_
  conv => whnf
  repeat' (first|((with_reducible refine Split.of_true ?_);conv=>whnf)|(with_reducible refine Split.neg ?_)|((with_reducible refine Split.is_true ?_ ?_);decide;conv=>whnf)|((with_reducible refine Split.is_false ?_ ?_);decide;conv=>whnf)|((with_reducible refine Split.dec (fun _=>?_) (fun _=>?_))<;>conv=>whnf)|((with_reducible refine Need.mk ?_ ?_);(first|omega|rfl|decide|(refine ⟨?_,?_⟩<;>simp<;>omega)|(simp;omega));conv=>whnf)|((with_reducible refine AltK.l ?_);(conv=>whnf);(first|(refine CallK.mk _ (g1) ?_)|(refine CallK.mk _ (g2) ?_)|(refine CallK.mk _ (g3) ?_)|(refine CallK.mk _ (g4) ?_)|(refine CallK.mk _ (h1) ?_)|(refine CallK.mk _ (h2) ?_)|(refine CallK.mk _ (h3) ?_)|(refine CallK.mk _ (h4) ?_)|(refine CallK.mk _ (h5) ?_)|(refine CallK.mk _ (h6) ?_));conv=>whnf)|(exfalso;first|omega|contradiction)|fail)
  all_goals first
   | rfl
   |(exfalso; omega)
 | true =>
 obtain ⟨u1, u2, u3, u4⟩ := d1 rfl
 rw [if_pos rfl] at h5
 clear d1 d2
 obtain ⟨c1, c2⟩ := chr_bd hO u1
 have h7 := ev_CheckCheapest hB.sp h0 ⟨xf, cf, ⟨bf, pf, false⟩⟩ (by dsimp only; omega)
 rw [u3, if_pos rfl] at h7
 unfold frD at h7
 dsimp only at h7
 have h8 := ev_Cost9 (y := y) (by omega) xf (by omega) c1 (pt_price hy) c2
 rw [u2] at h8
 have h9 := ev_Total hO
 have hsh : ∃ (r : Int) (cx : Int), Ev Try.prog 20 [ydD y, .sl 5 (l.map btD), .sl 3 (xs.map alD)] (iD r) ∧ (r = 0 → Ev Try.prog 21 [ydD y, .sl 3 (xs.map alD)] (iD cx)) ∧ cf ≤ cx := by
  cases hx : asgB (accF y l) (atI l) (pitI y) (volF y l) (roomF y) xs with
  | false =>
   rw [hx, if_neg (by decide)] at h6
   exact ⟨21, cf, h6, fun h => absurd h (by decide), Int.le_refl _⟩
  | true =>
   rw [hx, if_pos rfl] at h6
   have hc := (asg_chr9 hO xs).1 hx
   obtain ⟨v1, v2⟩ := chr_bd hO hc
   exact ⟨0, costF y xs, h6, fun _ => ev_Cost9 (y := y) (by omega) xs (by omega) v1 (pt_price hy) v2, u4 xs hc⟩
 clear h6
 obtain ⟨r, cx, h6, h6', hcx⟩ := hsh
 have hm : ∃ m : Int, m = pit.tmod ((y.pits.map ptD).length : Int) := ⟨_, rfl⟩
 obtain ⟨m, hm⟩ := hm
 have hby : 1 ≤ 1 + part ∧ 1 + part ≤ 256 := by omega
 have hC1 := (xv_Copied y (by omega) (by omega) (by omega) (by have := hB.c; omega) (fun q hq => Nat.le_trans (hB.cl q hq) (by decide))).rn [(9, 105), (2009, 2105), (4009, 4105)] rfl
 have hC2 := (xv_Copied y (by omega) (by omega) (by omega) (by have := hB.c; omega) (fun q hq => Nat.le_trans (hB.cl q hq) (by decide))).rn [(9, 107), (2009, 2107), (4009, 4107)] rfl
 have hrun : ∀ (k1 : ydErr (dearY y fun _ => 1 + part) = 0), ∃ (xg : List Al) (cg : Int) (bg pg : List Int) (xk : List Al) (ck : Int) (bk pk : List Int),
  Ev Try.prog 13 [ydD (dearY y fun _ => 1 + part), .sl 5 (l.map btD)] (.tup [.agg [.sl 3 (xg.map alD), iD cg, .sl 1 (bg.map iD), .sl 1 (pg.map iD)], iD 0]) ∧
  Ev Try.prog 13 [ydD (dearY y (oneC m (1 + part))), .sl 5 (l.map btD)] (.tup [.agg [.sl 3 (xk.map alD), iD ck, .sl 1 (bk.map iD), .sl 1 (pk.map iD)], iD 0]) ∧
  cg = cf + (1 + part) * (volF y l).sum ∧ cf ≤ ck ∧ ck ≤ cg ∧ cg ≤ 9000000000000000000 := fun k1 => by
  have k2 : ydErr (dearY y (oneC m (1 + part))) = 0 := dear_ok hy0 k1 fun i => by unfold oneC; split <;> omega
  have hsp : ∀ c, smallP (dearY y c) := fun c q hq => by
   obtain ⟨j, hj⟩ := List.getElem?_of_mem hq
   rw [dear_at, Option.map_eq_some_iff] at hj
   obtain ⟨p, hp, rfl⟩ := hj
   exact hB.sp p (List.mem_of_getElem? hp)
  have l1 : lstE (dearY y fun _ => 1 + part) l = 0 := (dear_sim.lst hy0 k1).trans h0
  have l2 : lstE (dearY y (oneC m (1 + part))) l = 0 := (dear_sim.lst hy0 k2).trans h0
  obtain ⟨dg, xg, cg, bg, pg, e1, -, s1, s2⟩ := cheap_says (hsp _) l1
  obtain ⟨dk, xk, ck, bk, pk, f1, -, s3, s4⟩ := cheap_says (hsp _) l2
  cases dg with
  | false => exact absurd ((dear_sim.chr dear_room).2 u1) (s2 rfl xf)
  | true =>
  cases dk with
  | false => exact absurd ((dear_sim.chr dear_room).2 u1) (s4 rfl xf)
  | true =>
  obtain ⟨p1, p2, -, p4⟩ := s1 rfl
  obtain ⟨q1, q2, -, q4⟩ := s3 rfl
  obtain ⟨r1, r2, r3⟩ := dear_costs hO (by omega) u1 u2 u4 p1 p2 p4 q1 q2 q4
  have := (chr_bd (ls_ok l1) p1).2
  exact ⟨xg, cg, bg, pg, xk, ck, bk, pk, e1, f1, r1, r2, r3, by rw [← p2]; exact this⟩
 have hsum : 0 ≤ (volF y l).sum ∧ (volF y l).sum ≤ 120000000000000 := by
  obtain ⟨v1, v2⟩ := volsGo_spec hO.wok ⟨hy.carL, hy.car⟩
  have h := sum_bd (M := 10000000000000) (r := volF y l) fun x hx => ⟨(v2 x hx).1, volsGo_13 (bk_ten hO.yd) hO.wok ⟨hy.carL, hy.car⟩ x hx⟩
  have hl : (volF y l).length = l.length := v1
  rw [hl] at h
  omega
 have hc0 : 0 ≤ cf := by
  rw [← u2]
  have := cost_nn (y := y) (xs := xf) (fun a ha => ⟨(c1 a ha).2.1, (c1 a ha).1⟩) (fun p hp => (pt_price hy p hp).1) xf.length
  rwa [List.take_length] at this
 have hD := ev_DCheckR (dearY y fun _ => 1 + part) fun q hq => by
  obtain ⟨j, hj⟩ := List.getElem?_of_mem hq
  rw [dear_at, Option.map_eq_some_iff] at hj
  obtain ⟨p, hp, rfl⟩ := hj
  exact hB.sp p (List.mem_of_getElem? hp)
 generalize (volF y l).sum = tot at *
 have hpt := fun (j : Nat) q (hq : y.pits[j]? = some q) => (pt_price hy q (List.mem_of_getElem? hq))
 have hm0 : ∀ c : Nat → Int, dearY y (cutC c 0) = y := fun c => (dear_congr fun i _ => by rw [cutC, if_neg (Nat.not_lt_zero _)]).trans dear_none
 have hmp0 : y.pits.map ptD = (dearY y (cutC (fun _ => 1 + part) 0)).pits.map ptD := by rw [hm0]
 have hmp1 : y.pits.map ptD = (dearY y (cutC (oneC m (1 + part)) 0)).pits.map ptD := by rw [hm0]
 have hln1 : ∀ c : Nat → Int, ((dearY y c).pits.map ptD).length = y.pits.length := fun c => by rw [List.length_map]; exact dear_sim.len
 subst hm
 clear hm0
 by_cases k1 : ydErr (dearY y fun _ => 1 + part) = 0
 ·rw [k1] at hD
  obtain ⟨xg, cg, bg, pg, xk, ck, bk, pk, e1, e2, r1, r2, r3, r4⟩ := hrun k1
  have hm1 : 0 ≤ (1 + part) * tot := Int.mul_nonneg (by omega) (by omega)
  have hm2 : (1 + part) * tot ≤ 256 * tot := Int.mul_le_mul_of_nonneg_right (by omega) (by omega)
  clear hrun k1
  refine ev_of_awp tysOk mixed (fn := Try.f4) Try.func4 rfl rfl rfl ?_
  conv => whnf
  repeat' (first|((with_reducible first|refine Split.of_true ?_|refine Split.of_false ?_);conv=>whnf)|(with_reducible refine Split.neg ?_)|((with_reducible refine Split.is_false ?_ ?_);decide;conv=>whnf)|((with_reducible refine Split.nez (fun _=>?_) (fun _=>?_))<;>conv=>whnf)|((with_reducible refine Split.eqz (fun _=>?_) (fun _=>?_))<;>conv=>whnf)|((with_reducible refine Split.dec (fun _=>?_) (fun _=>?_))<;>conv=>whnf)|((with_reducible refine Need.mk ?_ ?_);(first|omega|rfl|decide|(refine ⟨?_,?_⟩<;>simp<;>omega)|(simp;omega));conv=>whnf)|((with_reducible refine Wr.inr ?_ ?_);(first|omega|(simp;omega));conv=>whnf)|((with_reducible refine AltK.r ?_);(conv=>whnf);(first|(refine CallX.mk _ _ (hC1) rfl ?_)|(refine CallX.mk _ _ (hC2) rfl ?_));conv=>whnf)|((with_reducible refine AltK.l ?_);(conv=>whnf);(first|(refine CallK.mk _ (g1) ?_)|(refine CallK.mk _ (g2) ?_)|(refine CallK.mk _ (g3) ?_)|(refine CallK.mk _ (g4) ?_)|(refine CallK.mk _ (h1) ?_)|(refine CallK.mk _ (h2) ?_)|(refine CallK.mk _ (h3) ?_)|(refine CallK.mk _ (h4) ?_)|(refine CallK.mk _ (h5) ?_)|(refine CallK.mk _ (h6) ?_)|(refine CallK.mk _ (h7) ?_)|(refine CallK.mk _ (h8) ?_)|(refine CallK.mk _ ((h6' (by assumption))) ?_));conv=>whnf)|(exfalso;first|omega|contradiction)|fail)
  all_goals (
   refine LoopK.o3 (fun i : Nat => i ≤ y.pits.length) (fun i => [(12, .d (iD i))]) (fun i => [(105, .row 34 6 ((dearY y (cutC (fun _ => 1 + part) i)).pits.map ptD) false), (107, .row 34 6 ((dearY y (cutC (oneC (pit.tmod ((y.pits.map ptD).length : Int)) (1 + part)) i)).pits.map ptD) false)]) (fun i => y.pits.length - i) 0 (by omega) (by refine ⟨?_, ?_, rfl⟩<;>(repeat' (first|exact True.intro|exact rfl|(refine ⟨?_,?_⟩)|(intro h;cases h;done)|exact hmp0|fail));done) ?_
   rintro i hi
   dsimp only at hi ⊢
   have ha := hln1 (cutC (fun _ => 1 + part) i)
   have hk := hln1 (cutC (oneC (pit.tmod ((y.pits.map ptD).length : Int)) (1 + part)) i)
   by_cases hil : i < y.pits.length
   ·obtain ⟨p, hp⟩ := some_of_lt hil
    have hpp := hpt i p hp
    have w1 : ((dearY y (cutC (fun _ => 1 + part) i)).pits.map ptD)[(i : Int).toNat]? = some (.agg [.str p.name, iD p.area, iD p.base, iD p.top, .sl 1 (p.cls.map iD), iD p.price]) := dear_elt hp
    have w2 : ((dearY y (cutC (oneC (pit.tmod ((y.pits.map ptD).length : Int)) (1 + part)) i)).pits.map ptD)[(i : Int).toNat]? = some (.agg [.str p.name, iD p.area, iD p.base, iD p.top, .sl 1 (p.cls.map iD), iD p.price]) := dear_elt hp
    have hmp2 : ((dearY y (cutC (fun _ => 1 + part) i)).pits.map ptD).set (i : Int).toNat (.agg [.str p.name, iD p.area, iD p.base, iD p.top, .sl 1 (p.cls.map iD), iD (p.price + (1 + part))]) = (dearY y (cutC (fun _ => 1 + part) (i + 1))).pits.map ptD := dear_step hp
    by_cases him : (i : Int) = pit.tmod ((y.pits.map ptD).length : Int)
    ·have hmp3 : ((dearY y (cutC (oneC (pit.tmod ((y.pits.map ptD).length : Int)) (1 + part)) i)).pits.map ptD).set (i : Int).toNat (.agg [.str p.name, iD p.area, iD p.base, iD p.top, .sl 1 (p.cls.map iD), iD (p.price + (1 + part))]) = (dearY y (cutC (oneC (pit.tmod ((y.pits.map ptD).length : Int)) (1 + part)) (i + 1))).pits.map ptD := by
      rw [← dear_step hp, oneC, if_pos him]; rfl
     conv => whnf
     repeat' (first|((refine PickE.mk _ w2 ?_);conv=>whnf)|((refine PickE.mk _ w1 ?_);conv=>whnf)|((with_reducible refine Split.eqz (fun _=>?_) (fun _=>?_))<;>conv=>whnf)|((with_reducible refine Split.dec (fun _=>?_) (fun _=>?_))<;>conv=>whnf)|((with_reducible refine Need.mk ?_ ?_);(first|omega|rfl|decide|(refine ⟨?_,?_⟩<;>simp<;>omega)|(simp;omega));conv=>whnf)|((with_reducible refine Wr.inr ?_ ?_);(first|omega|(simp;omega));conv=>whnf)|(exfalso;first|omega|contradiction)|fail)
     all_goals first
      |(exfalso; omega)
      | skip
     all_goals exact Again.av (i + 1) (by omega) (by omega) (by refine ⟨?_, ?_, rfl⟩<;>(repeat' (first|exact True.intro|exact rfl|(refine ⟨?_,?_⟩)|(intro h;cases h;done)|exact hmp2|exact hmp3|fail));done)
    ·have hmp3 : (dearY y (cutC (oneC (pit.tmod ((y.pits.map ptD).length : Int)) (1 + part)) i)).pits.map ptD = (dearY y (cutC (oneC (pit.tmod ((y.pits.map ptD).length : Int)) (1 + part)) (i + 1))).pits.map ptD := by
      rw [dear_same (by rw [oneC, if_neg him])]
     conv => whnf
     repeat' (first|((refine PickE.mk _ w2 ?_);conv=>whnf)|((refine PickE.mk _ w1 ?_);conv=>whnf)|((with_reducible refine Split.eqz (fun _=>?_) (fun _=>?_))<;>conv=>whnf)|((with_reducible refine Split.dec (fun _=>?_) (fun _=>?_))<;>conv=>whnf)|((with_reducible refine Need.mk ?_ ?_);(first|omega|rfl|decide|(refine ⟨?_,?_⟩<;>simp<;>omega)|(simp;omega));conv=>whnf)|((with_reducible refine Wr.inr ?_ ?_);(first|omega|(simp;omega));conv=>whnf)|(exfalso;first|omega|contradiction)|fail)
     all_goals first
      |(exfalso; omega)
      | skip
     all_goals exact Again.av (i + 1) (by omega) (by omega) (by refine ⟨?_, ?_, rfl⟩<;>(repeat' (first|exact True.intro|exact rfl|(refine ⟨?_,?_⟩)|(intro h;cases h;done)|exact hmp2|exact hmp3|fail));done)
   ·have hie : i = y.pits.length := by omega
    subst hie
    rw [dear_end (c := fun _ => 1 + part) rfl, dear_end (c := oneC (pit.tmod ((y.pits.map ptD).length : Int)) (1 + part)) rfl]
    conv => whnf
    repeat' (first|((with_reducible refine Split.of_false ?_);conv=>whnf)|((with_reducible refine Split.is_true ?_ ?_);decide;conv=>whnf)|((with_reducible refine Split.is_false ?_ ?_);decide;conv=>whnf)|((with_reducible refine Split.eqz (fun _=>?_) (fun _=>?_))<;>conv=>whnf)|((with_reducible refine Split.dec (fun _=>?_) (fun _=>?_))<;>conv=>whnf)|((with_reducible refine Need.mk ?_ ?_);(first|omega|rfl|decide|(refine ⟨?_,?_⟩<;>simp<;>omega)|(simp;omega));conv=>whnf)|((with_reducible refine Wr.inr ?_ ?_);(first|omega|(simp;omega));conv=>whnf)|((with_reducible refine AltK.l ?_);(conv=>whnf);(first|(refine CallK.mk _ (hD) ?_)|(refine CallK.mk _ (e1) ?_)|(refine CallK.mk _ (e2) ?_)|(refine CallK.mk _ (h9) ?_));conv=>whnf)|(exfalso;first|omega|contradiction)|fail)
    all_goals first
     | rfl
     |(simp [retOf]; omega)
     |(exfalso; omega))
 ·generalize ydErr (dearY y fun _ => 1 + part) = ez at *
  clear hrun
  refine ev_of_awp tysOk mixed (fn := Try.f4) Try.func4 rfl rfl rfl ?_
  conv => whnf
  repeat' (first|((with_reducible first|refine Split.of_true ?_|refine Split.of_false ?_);conv=>whnf)|(with_reducible refine Split.neg ?_)|((with_reducible refine Split.is_false ?_ ?_);decide;conv=>whnf)|((with_reducible refine Split.nez (fun _=>?_) (fun _=>?_))<;>conv=>whnf)|((with_reducible refine Split.eqz (fun _=>?_) (fun _=>?_))<;>conv=>whnf)|((with_reducible refine Split.dec (fun _=>?_) (fun _=>?_))<;>conv=>whnf)|((with_reducible refine Need.mk ?_ ?_);(first|omega|rfl|decide|(refine ⟨?_,?_⟩<;>simp<;>omega)|(simp;omega));conv=>whnf)|((with_reducible refine Wr.inr ?_ ?_);(first|omega|(simp;omega));conv=>whnf)|((with_reducible refine AltK.r ?_);(conv=>whnf);(first|(refine CallX.mk _ _ (hC1) rfl ?_)|(refine CallX.mk _ _ (hC2) rfl ?_));conv=>whnf)|((with_reducible refine AltK.l ?_);(conv=>whnf);(first|(refine CallK.mk _ (g1) ?_)|(refine CallK.mk _ (g2) ?_)|(refine CallK.mk _ (g3) ?_)|(refine CallK.mk _ (g4) ?_)|(refine CallK.mk _ (h1) ?_)|(refine CallK.mk _ (h2) ?_)|(refine CallK.mk _ (h3) ?_)|(refine CallK.mk _ (h4) ?_)|(refine CallK.mk _ (h5) ?_)|(refine CallK.mk _ (h6) ?_)|(refine CallK.mk _ (h7) ?_)|(refine CallK.mk _ (h8) ?_)|(refine CallK.mk _ ((h6' (by assumption))) ?_));conv=>whnf)|(exfalso;first|omega|contradiction)|fail)
  all_goals (
   refine LoopK.o3 (fun i : Nat => i ≤ y.pits.length) (fun i => [(12, .d (iD i))]) (fun i => [(105, .row 34 6 ((dearY y (cutC (fun _ => 1 + part) i)).pits.map ptD) false), (107, .row 34 6 ((dearY y (cutC (oneC (pit.tmod ((y.pits.map ptD).length : Int)) (1 + part)) i)).pits.map ptD) false)]) (fun i => y.pits.length - i) 0 (by omega) (by refine ⟨?_, ?_, rfl⟩<;>(repeat' (first|exact True.intro|exact rfl|(refine ⟨?_,?_⟩)|(intro h;cases h;done)|exact hmp0|fail));done) ?_
   rintro i hi
   dsimp only at hi ⊢
   have ha := hln1 (cutC (fun _ => 1 + part) i)
   have hk := hln1 (cutC (oneC (pit.tmod ((y.pits.map ptD).length : Int)) (1 + part)) i)
   by_cases hil : i < y.pits.length
   ·obtain ⟨p, hp⟩ := some_of_lt hil
    have hpp := hpt i p hp
    have w1 : ((dearY y (cutC (fun _ => 1 + part) i)).pits.map ptD)[(i : Int).toNat]? = some (.agg [.str p.name, iD p.area, iD p.base, iD p.top, .sl 1 (p.cls.map iD), iD p.price]) := dear_elt hp
    have w2 : ((dearY y (cutC (oneC (pit.tmod ((y.pits.map ptD).length : Int)) (1 + part)) i)).pits.map ptD)[(i : Int).toNat]? = some (.agg [.str p.name, iD p.area, iD p.base, iD p.top, .sl 1 (p.cls.map iD), iD p.price]) := dear_elt hp
    have hmp2 : ((dearY y (cutC (fun _ => 1 + part) i)).pits.map ptD).set (i : Int).toNat (.agg [.str p.name, iD p.area, iD p.base, iD p.top, .sl 1 (p.cls.map iD), iD (p.price + (1 + part))]) = (dearY y (cutC (fun _ => 1 + part) (i + 1))).pits.map ptD := dear_step hp
    by_cases him : (i : Int) = pit.tmod ((y.pits.map ptD).length : Int)
    ·have hmp3 : ((dearY y (cutC (oneC (pit.tmod ((y.pits.map ptD).length : Int)) (1 + part)) i)).pits.map ptD).set (i : Int).toNat (.agg [.str p.name, iD p.area, iD p.base, iD p.top, .sl 1 (p.cls.map iD), iD (p.price + (1 + part))]) = (dearY y (cutC (oneC (pit.tmod ((y.pits.map ptD).length : Int)) (1 + part)) (i + 1))).pits.map ptD := by
      rw [← dear_step hp, oneC, if_pos him]; rfl
     conv => whnf
     repeat' (first|((refine PickE.mk _ w2 ?_);conv=>whnf)|((refine PickE.mk _ w1 ?_);conv=>whnf)|((with_reducible refine Split.eqz (fun _=>?_) (fun _=>?_))<;>conv=>whnf)|((with_reducible refine Split.dec (fun _=>?_) (fun _=>?_))<;>conv=>whnf)|((with_reducible refine Need.mk ?_ ?_);(first|omega|rfl|decide|(refine ⟨?_,?_⟩<;>simp<;>omega)|(simp;omega));conv=>whnf)|((with_reducible refine Wr.inr ?_ ?_);(first|omega|(simp;omega));conv=>whnf)|(exfalso;first|omega|contradiction)|fail)
     all_goals first
      |(exfalso; omega)
      | skip
     all_goals exact Again.av (i + 1) (by omega) (by omega) (by refine ⟨?_, ?_, rfl⟩<;>(repeat' (first|exact True.intro|exact rfl|(refine ⟨?_,?_⟩)|(intro h;cases h;done)|exact hmp2|exact hmp3|fail));done)
    ·have hmp3 : (dearY y (cutC (oneC (pit.tmod ((y.pits.map ptD).length : Int)) (1 + part)) i)).pits.map ptD = (dearY y (cutC (oneC (pit.tmod ((y.pits.map ptD).length : Int)) (1 + part)) (i + 1))).pits.map ptD := by
      rw [dear_same (by rw [oneC, if_neg him])]
     conv => whnf
     repeat' (first|((refine PickE.mk _ w2 ?_);conv=>whnf)|((refine PickE.mk _ w1 ?_);conv=>whnf)|((with_reducible refine Split.eqz (fun _=>?_) (fun _=>?_))<;>conv=>whnf)|((with_reducible refine Split.dec (fun _=>?_) (fun _=>?_))<;>conv=>whnf)|((with_reducible refine Need.mk ?_ ?_);(first|omega|rfl|decide|(refine ⟨?_,?_⟩<;>simp<;>omega)|(simp;omega));conv=>whnf)|((with_reducible refine Wr.inr ?_ ?_);(first|omega|(simp;omega));conv=>whnf)|(exfalso;first|omega|contradiction)|fail)
     all_goals first
      |(exfalso; omega)
      | skip
     all_goals exact Again.av (i + 1) (by omega) (by omega) (by refine ⟨?_, ?_, rfl⟩<;>(repeat' (first|exact True.intro|exact rfl|(refine ⟨?_,?_⟩)|(intro h;cases h;done)|exact hmp2|exact hmp3|fail));done)
   ·have hie : i = y.pits.length := by omega
    subst hie
    rw [dear_end (c := fun _ => 1 + part) rfl]
    conv => whnf
    repeat' (first|((with_reducible refine Split.nez (fun _=>?_) (fun _=>?_))<;>conv=>whnf)|((with_reducible refine Split.dec (fun _=>?_) (fun _=>?_))<;>conv=>whnf)|((with_reducible refine Need.mk ?_ ?_);(first|omega|rfl|decide|(refine ⟨?_,?_⟩<;>simp<;>omega)|(simp;omega));conv=>whnf)|((with_reducible refine AltK.l ?_);(conv=>whnf);(first|(refine CallK.mk _ (hD) ?_));conv=>whnf)|(exfalso;first|omega|contradiction)|fail)
    all_goals first
     | rfl
     |(exfalso; omega))
end Go.Proofs.Try
end

section
namespace Go.Proofs.Try
open Go Go.Vm
theorem int_of {k : IntKind} {d : D} (h : Ty (.int k) d) : ∃ n, d = .int k n ∧ (Lit.int k n).wf = true := by cases h; exact ⟨_, rfl, by assumption⟩
theorem str_of {d : D} (h : Ty .str d) : ∃ s, d = .str s ∧ s.size ≤ 9223372036854775807 := by
 cases h with
 | str s h => exact ⟨_, rfl, h⟩
theorem sl_of {agg : Bool} {cs : List Cs} {d : D} (h : Ty (.sl agg cs) d) : ∃ es, d = .sl cs.length es ∧ (∀ e ∈ es, TyV (agg, cs) e) ∧ es.length ≤ 9223372036854775807 := by
 cases h with
 | sl hk hl h hn => exact ⟨_, rfl, fun e he => ⟨hk e he, hl e he, h e he⟩, hn⟩
theorem agg_of {cs : List Cs} {d : D} (h : TyV (true, cs) d) : ∃ ds, d = .agg ds ∧ ds.length = cs.length ∧ ∀ (j : Nat) c e, cs[j]? = some c → ds[j]? = some e → Ty c e := by
 obtain ⟨ds, rfl⟩ := h.1.1 rfl
 exact ⟨ds, rfl, h.2.1, h.2.2⟩
theorem one_of {c : Cs} {d : D} (h : TyV (false, [c]) d) : Ty c d := by
 have h1 := h.1.2 rfl
 have := h.2.2 0 c d rfl
 rw [(one_cells h1).1] at this
 exact this rfl
theorem map_of {α : Type} {f : α → D} {Q : D → Prop} (hf : ∀ d, Q d → ∃ a, d = f a) : ∀ {es : List D}, (∀ e ∈ es, Q e) → ∃ l : List α, es = l.map f
 | [], _ => ⟨[], rfl⟩
 | e :: es, h => by
  obtain ⟨a, rfl⟩ := hf e (h e (List.mem_cons_self ..))
  obtain ⟨l, rfl⟩ := map_of hf (fun e he => h e (List.mem_cons_of_mem _ he))
  exact ⟨a :: l, rfl⟩
end Go.Proofs.Try
end

section
namespace Go.Proofs.Try
open Go Go.Vm
def cPit : List Cs := [.str, .int .i64, .int .i64, .int .i64, .sl false [.int .i64], .int .i64]
def cBulk : List Cs := [.str, .int .i64, .int .i64]
def cDep : List Cs := [.int .i64, .str, .int .i64]
def cYard : List Cs := [.sl true cPit, .sl true cBulk, .sl true cDep, .sl false [.int .i64]]
def cBat : List Cs := [.int .i64, .int .i64, .int .i64, .str, .int .i64]
theorem ints_of9 {d : D} (h : Ty (.sl false [.int .i64]) d) : ∃ l : List Int, d = .sl 1 (l.map iD) := by
 obtain ⟨es, rfl, he, -⟩ := sl_of h
 obtain ⟨l, rfl⟩ := map_of (f := iD) (fun d hd => by
  obtain ⟨n, rfl, -⟩ := int_of (one_of hd)
  exact ⟨n, rfl⟩) he
 exact ⟨l, rfl⟩
theorem pit_of {d : D} (h : TyV (true, cPit) d) : ∃ p, d = ptD p := by
 obtain ⟨ds, rfl, hl, hc⟩ := agg_of h
 match ds, hl with
 | [a, b, c, e, f, g], _ =>
  obtain ⟨s, rfl, -⟩ := str_of (hc 0 _ a rfl rfl)
  obtain ⟨x1, rfl, -⟩ := int_of (hc 1 _ b rfl rfl)
  obtain ⟨x2, rfl, -⟩ := int_of (hc 2 _ c rfl rfl)
  obtain ⟨x3, rfl, -⟩ := int_of (hc 3 _ e rfl rfl)
  obtain ⟨l, rfl⟩ := ints_of9 (hc 4 _ f rfl rfl)
  obtain ⟨x5, rfl, -⟩ := int_of (hc 5 _ g rfl rfl)
  exact ⟨⟨s, x1, x2, x3, l, x5⟩, rfl⟩
theorem bulk_of {d : D} (h : TyV (true, cBulk) d) : ∃ p, d = bkD p := by
 obtain ⟨ds, rfl, hl, hc⟩ := agg_of h
 match ds, hl with
 | [a, b, c], _ =>
  obtain ⟨s, rfl, -⟩ := str_of (hc 0 _ a rfl rfl)
  obtain ⟨x1, rfl, -⟩ := int_of (hc 1 _ b rfl rfl)
  obtain ⟨x2, rfl, -⟩ := int_of (hc 2 _ c rfl rfl)
  exact ⟨⟨s, x1, x2⟩, rfl⟩
theorem dep_of {d : D} (h : TyV (true, cDep) d) : ∃ p, d = dpD p := by
 obtain ⟨ds, rfl, hl, hc⟩ := agg_of h
 match ds, hl with
 | [a, b, c], _ =>
  obtain ⟨x1, rfl, -⟩ := int_of (hc 0 _ a rfl rfl)
  obtain ⟨s, rfl, -⟩ := str_of (hc 1 _ b rfl rfl)
  obtain ⟨x2, rfl, -⟩ := int_of (hc 2 _ c rfl rfl)
  exact ⟨⟨x1, s, x2⟩, rfl⟩
theorem bat_of {d : D} (h : TyV (true, cBat) d) : ∃ p, d = btD p := by
 obtain ⟨ds, rfl, hl, hc⟩ := agg_of h
 match ds, hl with
 | [a, b, c, e, f], _ =>
  obtain ⟨x0, rfl, -⟩ := int_of (hc 0 _ a rfl rfl)
  obtain ⟨x1, rfl, -⟩ := int_of (hc 1 _ b rfl rfl)
  obtain ⟨x2, rfl, -⟩ := int_of (hc 2 _ c rfl rfl)
  obtain ⟨s, rfl, -⟩ := str_of (hc 3 _ e rfl rfl)
  obtain ⟨x4, rfl, -⟩ := int_of (hc 4 _ f rfl rfl)
  exact ⟨⟨x0, x1, x2, s, x4⟩, rfl⟩
theorem yard_of {d : D} (h : TyV (true, cYard) d) : ∃ y, d = ydD y := by
 obtain ⟨ds, rfl, hl, hc⟩ := agg_of h
 match ds, hl with
 | [a, b, c, e], _ =>
  obtain ⟨es, rfl, he, -⟩ := sl_of (hc 0 _ a rfl rfl)
  obtain ⟨l0, rfl⟩ := map_of (fun d hd => pit_of hd) he
  obtain ⟨es, rfl, he, -⟩ := sl_of (hc 1 _ b rfl rfl)
  obtain ⟨l1, rfl⟩ := map_of (fun d hd => bulk_of hd) he
  obtain ⟨es, rfl, he, -⟩ := sl_of (hc 2 _ c rfl rfl)
  obtain ⟨l2, rfl⟩ := map_of (fun d hd => dep_of hd) he
  obtain ⟨l3, rfl⟩ := ints_of9 (hc 3 _ e rfl rfl)
  exact ⟨⟨l0, l1, l2, l3⟩, rfl⟩
end Go.Proofs.Try
end

section
namespace Go.Proofs.Try
open Go Go.Vm
def cAl : List Cs := [.int .i64, .str, .int .i64]
theorem al_of {d : D} (h : TyV (true, cAl) d) : ∃ p, d = alD p := by
 obtain ⟨ds, rfl, hl, hc⟩ := agg_of h
 match ds, hl with
 | [a, b, c], _ =>
  obtain ⟨x1, rfl, -⟩ := int_of (hc 0 _ a rfl rfl)
  obtain ⟨s, rfl, -⟩ := str_of (hc 1 _ b rfl rfl)
  obtain ⟨x2, rfl, -⟩ := int_of (hc 2 _ c rfl rfl)
  exact ⟨⟨x1, s, x2⟩, rfl⟩
theorem als_of {d : D} (h : Ty (.sl true cAl) d) : ∃ l : List Al, d = .sl 3 (l.map alD) := by
 obtain ⟨es, rfl, he, -⟩ := sl_of h
 obtain ⟨l, rfl⟩ := map_of (fun d hd => al_of hd) he
 exact ⟨l, rfl⟩
end Go.Proofs.Try
end

section
namespace Go.Proofs.Try
open Go Go.Vm
def cAtt : List Cs := [.sl true cAl, .sl false [.int .i64], .int .u8, .int .u8]
theorem u8_in {n : Int} (h : (Lit.int .u8 n).wf = true) : 0 ≤ n ∧ n ≤ 255 := by
 simp [Lit.wf, IntKind.min, IntKind.max, IntKind.bits, IntKind.signed] at h
 omega
theorem att_of {d : D} (h : TyV (true, cAtt) d) : ∃ (x : List Al) (c : List Int) (p q : Int), d = .agg [.sl 3 (x.map alD), .sl 1 (c.map iD), .int .u8 p, .int .u8 q] ∧ (0 ≤ p ∧ p ≤ 255) ∧ (0 ≤ q ∧ q ≤ 255) := by
 obtain ⟨ds, rfl, hl, hc⟩ := agg_of h
 match ds, hl with
 | [a, b, c, e], _ =>
  obtain ⟨l0, rfl⟩ := als_of (hc 0 _ a rfl rfl)
  obtain ⟨l1, rfl⟩ := ints_of9 (hc 1 _ b rfl rfl)
  obtain ⟨p, rfl, hp⟩ := int_of (hc 2 _ c rfl rfl)
  obtain ⟨q, rfl, hq⟩ := int_of (hc 3 _ e rfl rfl)
  exact ⟨l0, l1, p, q, rfl, u8_in hp, u8_in hq⟩
theorem batsL_of {d : D} (h : Ty (.sl true cBat) d) : ∃ l : List Bt, d = .sl 5 (l.map btD) ∧ l.length ≤ 9223372036854775807 := by
 obtain ⟨es, rfl, he, hn⟩ := sl_of h
 obtain ⟨l, rfl⟩ := map_of (fun d hd => bat_of hd) he
 exact ⟨l, rfl, by rwa [List.length_map] at hn⟩
end Go.Proofs.Try
end

section
namespace Go.Proofs.Try
open Go Go.Vm
theorem ev_TopCheapestLoads' (y : Yd) (l : List Bt) (hl : l.length ≤ 9223372036854775807) (xs : List Al) (cut : List Int) (p q : Int) (hp : 0 ≤ p ∧ p ≤ 255) (hq : 0 ≤ q ∧ q ≤ 255) :
 Ev Try.prog 4 [ydD y, .sl 5 (l.map btD), .agg [.sl 3 (xs.map alD), .sl 1 (cut.map iD), .int .u8 p, .int .u8 q]] (.bool true) := ev_TopCheapestLoads y l xs cut p q hp hq hl
end Go.Proofs.Try
end
