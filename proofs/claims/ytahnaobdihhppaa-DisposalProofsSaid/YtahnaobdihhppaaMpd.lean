/- Texts DsO TwZ DqZ DsP, joined; what is not needed is left out. -/
import Derived.Test.YtahnaobdihhppaaMgI
import Derived.Test.YtahnaobdihhppaaProg
import Derived.Test.YtahnaobdihhppaaMgH
import Derived.Test.YtahnaobdihhppaaMgJ
import Derived.Test.YtahnaobdihhppaaMpc
section
namespace Go.Proofs.Try
open Go Go.Vm
set_option maxRecDepth 20000
set_option maxHeartbeats 8000000
structure Bid where
 ba : List Bt
 ot : List Al
 fr : Frt
def bidD (b : Bid) : D := .agg [.sl 5 (b.ba.map btD), .sl 3 (b.ot.map alD), .sl 3 (b.fr.xs.map alD), iD b.fr.cost, .sl 1 (b.fr.tf.bs.map iD), .sl 1 (b.fr.tf.ps.map iD)]
theorem ev_DisposalProofs (hA : Ev Try.prog 11 [] (.bool true)) (y : Yd) (x : Bid) : Ev Try.prog 10 [ydD y, bidD x] (.bool true) := by
 obtain ⟨l, ot, ⟨xs, cost, ⟨bs, ps, bb⟩⟩⟩ := x
 unfold bidD
 dsimp only
 have h1 := ev_Small y
 have h1' := ev_few l 5 12 (by decide) (by decide)
 have hlb : (bs.map iD).length = bs.length := List.length_map _
 have hlq : (ps.map iD).length = ps.length := List.length_map _
 cases hs : smallB y with
 | false =>
  rw [hs] at h1
  refine ev_of_awp tysOk mixed (fn := Try.f10) Try.func10 rfl rfl rfl ?_
  conv => whnf
  repeat' (first|((with_reducible first|refine Split.of_true ?_|refine Split.of_false ?_);conv=>whnf)|(with_reducible refine Split.neg ?_)|((with_reducible refine AltK.l ?_);(conv=>whnf);(first|(refine CallK.mk _ (hA) ?_)|(refine CallK.mk _ (h1) ?_)|(refine CallK.mk _ (h1') ?_));conv=>whnf)|fail)
  rfl
 | true =>
 rw [hs] at h1
 have hB := smB hs
 cases hfw : fewB l 5 12 with
 | false =>
  rw [hfw] at h1'
  refine ev_of_awp tysOk mixed (fn := Try.f10) Try.func10 rfl rfl rfl ?_
  conv => whnf
  repeat' (first|((with_reducible first|refine Split.of_true ?_|refine Split.of_false ?_);conv=>whnf)|(with_reducible refine Split.neg ?_)|((with_reducible refine AltK.l ?_);(conv=>whnf);(first|(refine CallK.mk _ (hA) ?_)|(refine CallK.mk _ (h1) ?_)|(refine CallK.mk _ (h1') ?_));conv=>whnf)|fail)
  rfl
 | true =>
 rw [hfw] at h1'
 have g1 := ev_long ot
 have g2 := ev_long xs
 cases hlg : longB ot with
 | true =>
  rw [hlg] at g1
  refine ev_of_awp tysOk mixed (fn := Try.f10) Try.func10 rfl rfl rfl ?_
  conv => whnf
  repeat' (first|((with_reducible refine Split.of_true ?_);conv=>whnf)|(with_reducible refine Split.neg ?_)|((with_reducible refine AltK.l ?_);(conv=>whnf);(first|(refine CallK.mk _ (hA) ?_)|(refine CallK.mk _ (h1) ?_)|(refine CallK.mk _ (h1') ?_)|(refine CallK.mk _ (g1) ?_));conv=>whnf)|fail)
  rfl
 | false =>
 rw [hlg] at g1
 cases hlg2 : longB xs with
 | true =>
  rw [hlg2] at g2
  refine ev_of_awp tysOk mixed (fn := Try.f10) Try.func10 rfl rfl rfl ?_
  conv => whnf
  repeat' (first|((with_reducible first|refine Split.of_true ?_|refine Split.of_false ?_);conv=>whnf)|(with_reducible refine Split.neg ?_)|((with_reducible refine AltK.l ?_);(conv=>whnf);(first|(refine CallK.mk _ (hA) ?_)|(refine CallK.mk _ (h1) ?_)|(refine CallK.mk _ (h1') ?_)|(refine CallK.mk _ (g1) ?_)|(refine CallK.mk _ (g2) ?_));conv=>whnf)|fail)
  rfl
 | false =>
 rw [hlg2] at g2
 have ho30 := longB_len hlg
 have hx30 := longB_len hlg2
 by_cases hl20 : 20 < bs.length ∨ 20 < ps.length
 ·refine ev_of_awp tysOk mixed (fn := Try.f10) Try.func10 rfl rfl rfl ?_
  conv => whnf
  repeat' (first|((with_reducible first|refine Split.of_true ?_|refine Split.of_false ?_);conv=>whnf)|(with_reducible refine Split.neg ?_)|((with_reducible refine Split.dec (fun _=>?_) (fun _=>?_))<;>conv=>whnf)|((with_reducible refine AltK.l ?_);(conv=>whnf);(first|(refine CallK.mk _ (hA) ?_)|(refine CallK.mk _ (h1) ?_)|(refine CallK.mk _ (h1') ?_)|(refine CallK.mk _ (g1) ?_)|(refine CallK.mk _ (g2) ?_));conv=>whnf)|(exfalso;first|omega|contradiction)|fail)
  all_goals first
   | rfl
   |(simp [retOf]; done)
   |(exfalso; omega)
 have hfl := few_len hfw
 have h2 := hB.copied
 have b1 := hB.b
 have b3 := hB.d
 have hll : (l.map btD).length = l.length := List.length_map _
 have h4 := ev_listed y l hB.sp (by omega) (by omega) (by omega)
 by_cases h0 : lstE y l = 0
 ·have hO := ls_ok h0
  have hy := yd_ok hO.yd
  have hlen := hO.len
  have hP8 := hy.pits
  have hcl := (tk_ok hB.sp hO).cl
  rw [h0] at h4
  have h5 := ev_CheckCheapest hB.sp h0 ⟨xs, cost, ⟨bs, ps, bb⟩⟩ (by dsimp only; omega)
  have h6 := ev_Proved9 hO hcl ⟨xs, cost, ⟨bs, ps, bb⟩⟩ (by dsimp only; omega)
  have h7 := ev_Assigned9 hO hcl ot (by omega)
  rw [← asg_ra hO] at h7
  unfold frD at h5 h6
  dsimp only at h5 h6
  cases hab : asgB (accF y l) (atI l) (pitI y) (volF y l) (roomF y) ot with
  | false =>
   rw [hab] at h7
   cases hpb : prvB y l ⟨xs, cost, ⟨bs, ps, bb⟩⟩ with
   | false =>
    rw [hpb] at h5 h6
    rw [if_neg (by decide)] at h5
    refine ev_of_awp tysOk mixed (fn := Try.f10) Try.func10 rfl rfl rfl ?_
    conv => whnf
    repeat' (first|((with_reducible first|refine Split.of_true ?_|refine Split.of_false ?_);conv=>whnf)|(with_reducible refine Split.neg ?_)|((with_reducible refine Split.is_false ?_ ?_);decide;conv=>whnf)|((with_reducible refine Split.dec (fun _=>?_) (fun _=>?_))<;>conv=>whnf)|((with_reducible refine AltK.l ?_);(conv=>whnf);(first|(refine CallK.mk _ (hA) ?_)|(refine CallK.mk _ (h1) ?_)|(refine CallK.mk _ (h1') ?_)|(refine CallK.mk _ (g1) ?_)|(refine CallK.mk _ (g2) ?_)|(refine CallK.mk _ (h2) ?_)|(refine CallK.mk _ (h4) ?_)|(refine CallK.mk _ (h5) ?_)|(refine CallK.mk _ (h6) ?_)|(refine CallK.mk _ (h7) ?_));conv=>whnf)|(exfalso;first|omega|contradiction)|fail)
    all_goals first
     | rfl
     |(simp [retOf]; done)
     |(exfalso; omega)
   | true =>
    rw [hpb] at h5 h6
    rw [if_pos rfl] at h5
    refine ev_of_awp tysOk mixed (fn := Try.f10) Try.func10 rfl rfl rfl ?_
    conv => whnf
    repeat' (first|((with_reducible first|refine Split.of_true ?_|refine Split.of_false ?_);conv=>whnf)|(with_reducible refine Split.neg ?_)|((with_reducible refine Split.is_false ?_ ?_);decide;conv=>whnf)|((with_reducible refine Split.dec (fun _=>?_) (fun _=>?_))<;>conv=>whnf)|((with_reducible refine AltK.l ?_);(conv=>whnf);(first|(refine CallK.mk _ (hA) ?_)|(refine CallK.mk _ (h1) ?_)|(refine CallK.mk _ (h1') ?_)|(refine CallK.mk _ (g1) ?_)|(refine CallK.mk _ (g2) ?_)|(refine CallK.mk _ (h2) ?_)|(refine CallK.mk _ (h4) ?_)|(refine CallK.mk _ (h5) ?_)|(refine CallK.mk _ (h6) ?_)|(refine CallK.mk _ (h7) ?_));conv=>whnf)|(exfalso;first|omega|contradiction)|fail)
    all_goals first
     | rfl
     |(simp [retOf]; done)
     |(exfalso; omega)
  | true =>
   rw [hab] at h7
   obtain ⟨fl, k, t, hk, hS, h8⟩ := ev_CheapestRun hB.sp h0
   have hch := (asg_chr9 hO ot).1 hab
   have hd := chr_done hS.ok hS.shut hch
   rw [hd, if_pos rfl, if_pos rfl] at h8
   have hle := yld_cheap (solved_yld hS) hch
   rw [solved_cost hO hS hd] at hle
   obtain ⟨c1, c2⟩ := chr_bd hO hch
   have h9 := ev_Cost9 (y := y) (by omega) ot (by omega) c1 (pt_price hy) c2
   obtain ⟨bs2, ps2, bb2⟩ := t
   unfold frD at h8
   dsimp only at h8
   cases hpb : prvB y l ⟨xs, cost, ⟨bs, ps, bb⟩⟩ with
   | false =>
    rw [hpb] at h5 h6
    rw [if_neg (by decide)] at h5
    generalize costF y (allF y l fl l.length) = cst at *
    generalize allF y l fl l.length = xs2 at *
    generalize costF y ot = cs2 at *
    refine ev_of_awp tysOk mixed (fn := Try.f10) Try.func10 rfl rfl rfl ?_
    conv => whnf
    repeat' (first|((with_reducible first|refine Split.of_true ?_|refine Split.of_false ?_);conv=>whnf)|(with_reducible refine Split.neg ?_)|((with_reducible refine Split.is_true ?_ ?_);decide;conv=>whnf)|((with_reducible refine Split.is_false ?_ ?_);decide;conv=>whnf)|((with_reducible refine Split.dec (fun _=>?_) (fun _=>?_))<;>conv=>whnf)|((with_reducible refine Need.mk ?_ ?_);(first|omega|rfl|decide|(refine ⟨?_,?_⟩<;>simp<;>omega)|(simp;omega));conv=>whnf)|((with_reducible refine AltK.l ?_);(conv=>whnf);(first|(refine CallK.mk _ (hA) ?_)|(refine CallK.mk _ (h1) ?_)|(refine CallK.mk _ (h1') ?_)|(refine CallK.mk _ (g1) ?_)|(refine CallK.mk _ (g2) ?_)|(refine CallK.mk _ (h2) ?_)|(refine CallK.mk _ (h4) ?_)|(refine CallK.mk _ (h5) ?_)|(refine CallK.mk _ (h6) ?_)|(refine CallK.mk _ (h7) ?_)|(refine CallK.mk _ (h8) ?_)|(refine CallK.mk _ (h9) ?_));conv=>whnf)|(exfalso;first|omega|contradiction)|fail)
    all_goals first
     | rfl
     |(simp [retOf]; done)
     |(exfalso; omega)
   | true =>
    have hce : cost = costF y (allF y l fl l.length) := by
     simp only [prvB, Bool.and_eq_true, decide_eq_true_eq] at hpb
     obtain ⟨⟨⟨k1, k2⟩, k3⟩, k4⟩ := hpb
     have k5 := yld_cheap (yld_iff.1 k3) (all_chr hO hS.ok hd)
     have k6 := yld_cheap (solved_yld hS) ((asg_chr9 hO xs).1 k1)
     rw [solved_cost hO hS hd] at k6
     omega
    rw [hpb] at h5 h6
    rw [if_pos rfl] at h5
    subst hce
    generalize costF y (allF y l fl l.length) = cst at *
    generalize allF y l fl l.length = xs2 at *
    generalize costF y ot = cs2 at *
    refine ev_of_awp tysOk mixed (fn := Try.f10) Try.func10 rfl rfl rfl ?_
    conv => whnf
    repeat' (first|((with_reducible first|refine Split.of_true ?_|refine Split.of_false ?_);conv=>whnf)|(with_reducible refine Split.neg ?_)|((with_reducible refine Split.is_true ?_ ?_);decide;conv=>whnf)|((with_reducible refine Split.is_false ?_ ?_);decide;conv=>whnf)|((with_reducible refine Split.dec (fun _=>?_) (fun _=>?_))<;>conv=>whnf)|((with_reducible refine Need.mk ?_ ?_);(first|omega|rfl|decide|(refine ⟨?_,?_⟩<;>simp<;>omega)|(simp;omega));conv=>whnf)|((with_reducible refine AltK.l ?_);(conv=>whnf);(first|(refine CallK.mk _ (hA) ?_)|(refine CallK.mk _ (h1) ?_)|(refine CallK.mk _ (h1') ?_)|(refine CallK.mk _ (g1) ?_)|(refine CallK.mk _ (g2) ?_)|(refine CallK.mk _ (h2) ?_)|(refine CallK.mk _ (h4) ?_)|(refine CallK.mk _ (h5) ?_)|(refine CallK.mk _ (h6) ?_)|(refine CallK.mk _ (h7) ?_)|(refine CallK.mk _ (h8) ?_)|(refine CallK.mk _ (h9) ?_));conv=>whnf)|(exfalso;first|omega|contradiction)|fail)
    all_goals first
     | rfl
     |(simp [retOf]; done)
     |(exfalso; omega)
 ·have h5 := ev_CheckCheapestNo (l := l) (f := ⟨xs, cost, ⟨bs, ps, bb⟩⟩) hB.sp (by omega) (by omega) h0
  unfold frD at h5
  dsimp only at h5
  generalize lstE y l = e at *
  refine ev_of_awp tysOk mixed (fn := Try.f10) Try.func10 rfl rfl rfl ?_
  conv => whnf
  repeat' (first|((with_reducible first|refine Split.of_true ?_|refine Split.of_false ?_);conv=>whnf)|(with_reducible refine Split.neg ?_)|((with_reducible refine Split.nez (fun _=>?_) (fun _=>?_))<;>conv=>whnf)|((with_reducible refine Split.dec (fun _=>?_) (fun _=>?_))<;>conv=>whnf)|((with_reducible refine AltK.l ?_);(conv=>whnf);(first|(refine CallK.mk _ (hA) ?_)|(refine CallK.mk _ (h1) ?_)|(refine CallK.mk _ (h1') ?_)|(refine CallK.mk _ (g1) ?_)|(refine CallK.mk _ (g2) ?_)|(refine CallK.mk _ (h2) ?_)|(refine CallK.mk _ (h4) ?_)|(refine CallK.mk _ (h5) ?_));conv=>whnf)|(exfalso;first|omega|contradiction)|fail)
  all_goals first
   | rfl
   |(simp [retOf]; done)
   |(exfalso; omega)
end Go.Proofs.Try
end

section
namespace Go.Proofs.Try
open Go Go.Vm
theorem int_of {k : IntKind} {d : D} (h : Ty (.int k) d) : ∃ n, d = .int k n ∧ (Lit.int k n).wf = true := by cases h; exact ⟨_, rfl, by assumption⟩
theorem str_of {d : D} (h : Ty .str d) : ∃ s, d = .str s ∧ s.size ≤ 9223372036854775807 := by
 cases h with
 | str s h => exact ⟨_, rfl, h⟩
theorem sl_of {agg : Bool} {cs : List Cs} {d : D} (h : Ty (.sl agg cs) d) : ∃ es, d = .sl cs.length es ∧ (∀ e ∈ es, TyV (agg, cs) e) ∧ es.length ≤ 9223372036854775807 := by
 cases h with
 | sl hk hl h hn => exact ⟨_, rfl, fun e he => ⟨hk e he, hl e he, h e he⟩, hn⟩
theorem agg_of {cs : List Cs} {d : D} (h : TyV (true, cs) d) : ∃ ds, d = .agg ds ∧ ds.length = cs.length ∧ ∀ (j : Nat) c e, cs[j]? = some c → ds[j]? = some e → Ty c e := by
 obtain ⟨ds, rfl⟩ := h.1.1 rfl
 exact ⟨ds, rfl, h.2.1, h.2.2⟩
theorem one_of {c : Cs} {d : D} (h : TyV (false, [c]) d) : Ty c d := by
 have h1 := h.1.2 rfl
 have := h.2.2 0 c d rfl
 rw [(one_cells h1).1] at this
 exact this rfl
theorem map_of {α : Type} {f : α → D} {Q : D → Prop} (hf : ∀ d, Q d → ∃ a, d = f a) : ∀ {es : List D}, (∀ e ∈ es, Q e) → ∃ l : List α, es = l.map f
 | [], _ => ⟨[], rfl⟩
 | e :: es, h => by
  obtain ⟨a, rfl⟩ := hf e (h e (List.mem_cons_self ..))
  obtain ⟨l, rfl⟩ := map_of hf (fun e he => h e (List.mem_cons_of_mem _ he))
  exact ⟨a :: l, rfl⟩
end Go.Proofs.Try
end

section
namespace Go.Proofs.Try
open Go Go.Vm
def cPit : List Cs := [.str, .int .i64, .int .i64, .int .i64, .sl false [.int .i64], .int .i64]
def cBulk : List Cs := [.str, .int .i64, .int .i64]
def cDep : List Cs := [.int .i64, .str, .int .i64]
def cYard : List Cs := [.sl true cPit, .sl true cBulk, .sl true cDep, .sl false [.int .i64]]
def cBat : List Cs := [.int .i64, .int .i64, .int .i64, .str, .int .i64]
theorem ints_of9 {d : D} (h : Ty (.sl false [.int .i64]) d) : ∃ l : List Int, d = .sl 1 (l.map iD) := by
 obtain ⟨es, rfl, he, -⟩ := sl_of h
 obtain ⟨l, rfl⟩ := map_of (f := iD) (fun d hd => by
  obtain ⟨n, rfl, -⟩ := int_of (one_of hd)
  exact ⟨n, rfl⟩) he
 exact ⟨l, rfl⟩
theorem pit_of {d : D} (h : TyV (true, cPit) d) : ∃ p, d = ptD p := by
 obtain ⟨ds, rfl, hl, hc⟩ := agg_of h
 match ds, hl with
 | [a, b, c, e, f, g], _ =>
  obtain ⟨s, rfl, -⟩ := str_of (hc 0 _ a rfl rfl)
  obtain ⟨x1, rfl, -⟩ := int_of (hc 1 _ b rfl rfl)
  obtain ⟨x2, rfl, -⟩ := int_of (hc 2 _ c rfl rfl)
  obtain ⟨x3, rfl, -⟩ := int_of (hc 3 _ e rfl rfl)
  obtain ⟨l, rfl⟩ := ints_of9 (hc 4 _ f rfl rfl)
  obtain ⟨x5, rfl, -⟩ := int_of (hc 5 _ g rfl rfl)
  exact ⟨⟨s, x1, x2, x3, l, x5⟩, rfl⟩
theorem bulk_of {d : D} (h : TyV (true, cBulk) d) : ∃ p, d = bkD p := by
 obtain ⟨ds, rfl, hl, hc⟩ := agg_of h
 match ds, hl with
 | [a, b, c], _ =>
  obtain ⟨s, rfl, -⟩ := str_of (hc 0 _ a rfl rfl)
  obtain ⟨x1, rfl, -⟩ := int_of (hc 1 _ b rfl rfl)
  obtain ⟨x2, rfl, -⟩ := int_of (hc 2 _ c rfl rfl)
  exact ⟨⟨s, x1, x2⟩, rfl⟩
theorem dep_of {d : D} (h : TyV (true, cDep) d) : ∃ p, d = dpD p := by
 obtain ⟨ds, rfl, hl, hc⟩ := agg_of h
 match ds, hl with
 | [a, b, c], _ =>
  obtain ⟨x1, rfl, -⟩ := int_of (hc 0 _ a rfl rfl)
  obtain ⟨s, rfl, -⟩ := str_of (hc 1 _ b rfl rfl)
  obtain ⟨x2, rfl, -⟩ := int_of (hc 2 _ c rfl rfl)
  exact ⟨⟨x1, s, x2⟩, rfl⟩
theorem bat_of {d : D} (h : TyV (true, cBat) d) : ∃ p, d = btD p := by
 obtain ⟨ds, rfl, hl, hc⟩ := agg_of h
 match ds, hl with
 | [a, b, c, e, f], _ =>
  obtain ⟨x0, rfl, -⟩ := int_of (hc 0 _ a rfl rfl)
  obtain ⟨x1, rfl, -⟩ := int_of (hc 1 _ b rfl rfl)
  obtain ⟨x2, rfl, -⟩ := int_of (hc 2 _ c rfl rfl)
  obtain ⟨s, rfl, -⟩ := str_of (hc 3 _ e rfl rfl)
  obtain ⟨x4, rfl, -⟩ := int_of (hc 4 _ f rfl rfl)
  exact ⟨⟨x0, x1, x2, s, x4⟩, rfl⟩
theorem bats_of {d : D} (h : Ty (.sl true cBat) d) : ∃ l : List Bt, d = .sl 5 (l.map btD) := by
 obtain ⟨es, rfl, he, -⟩ := sl_of h
 obtain ⟨l, rfl⟩ := map_of (fun d hd => bat_of hd) he
 exact ⟨l, rfl⟩
theorem yard_of {d : D} (h : TyV (true, cYard) d) : ∃ y, d = ydD y := by
 obtain ⟨ds, rfl, hl, hc⟩ := agg_of h
 match ds, hl with
 | [a, b, c, e], _ =>
  obtain ⟨es, rfl, he, -⟩ := sl_of (hc 0 _ a rfl rfl)
  obtain ⟨l0, rfl⟩ := map_of (fun d hd => pit_of hd) he
  obtain ⟨es, rfl, he, -⟩ := sl_of (hc 1 _ b rfl rfl)
  obtain ⟨l1, rfl⟩ := map_of (fun d hd => bulk_of hd) he
  obtain ⟨es, rfl, he, -⟩ := sl_of (hc 2 _ c rfl rfl)
  obtain ⟨l2, rfl⟩ := map_of (fun d hd => dep_of hd) he
  obtain ⟨l3, rfl⟩ := ints_of9 (hc 3 _ e rfl rfl)
  exact ⟨⟨l0, l1, l2, l3⟩, rfl⟩
end Go.Proofs.Try
end

section
namespace Go.Proofs.Try
open Go Go.Vm
def cAl : List Cs := [.int .i64, .str, .int .i64]
def cBid : List Cs := [.sl true cBat, .sl true cAl, .sl true cAl, .int .i64, .sl false [.int .i64], .sl false [.int .i64]]
theorem al_of {d : D} (h : TyV (true, cAl) d) : ∃ p, d = alD p := by
 obtain ⟨ds, rfl, hl, hc⟩ := agg_of h
 match ds, hl with
 | [a, b, c], _ =>
  obtain ⟨x1, rfl, -⟩ := int_of (hc 0 _ a rfl rfl)
  obtain ⟨s, rfl, -⟩ := str_of (hc 1 _ b rfl rfl)
  obtain ⟨x2, rfl, -⟩ := int_of (hc 2 _ c rfl rfl)
  exact ⟨⟨x1, s, x2⟩, rfl⟩
theorem als_of {d : D} (h : Ty (.sl true cAl) d) : ∃ l : List Al, d = .sl 3 (l.map alD) := by
 obtain ⟨es, rfl, he, -⟩ := sl_of h
 obtain ⟨l, rfl⟩ := map_of (fun d hd => al_of hd) he
 exact ⟨l, rfl⟩
theorem bid_of {d : D} (h : TyV (true, cBid) d) : ∃ b, d = bidD b := by
 obtain ⟨ds, rfl, hl, hc⟩ := agg_of h
 match ds, hl with
 | [a, b, c, e, f, g], _ =>
  obtain ⟨l0, rfl⟩ := bats_of (hc 0 _ a rfl rfl)
  obtain ⟨l1, rfl⟩ := als_of (hc 1 _ b rfl rfl)
  obtain ⟨l2, rfl⟩ := als_of (hc 2 _ c rfl rfl)
  obtain ⟨x, rfl, -⟩ := int_of (hc 3 _ e rfl rfl)
  obtain ⟨l4, rfl⟩ := ints_of9 (hc 4 _ f rfl rfl)
  obtain ⟨l5, rfl⟩ := ints_of9 (hc 5 _ g rfl rfl)
  exact ⟨⟨l0, l1, ⟨l2, x, ⟨l4, l5, false⟩⟩⟩, rfl⟩
theorem ev_DisposalProofs' (y : Yd) (x : Bid) : Ev Try.prog 10 [ydD y, bidD x] (.bool true) := ev_DisposalProofs ev_awake9 y x
end Go.Proofs.Try
end
