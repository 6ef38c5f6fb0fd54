/- Texts DsC LyI DsE DsD DrN DrO DsG DsI DsK DqH, joined; what is not needed is left out. -/
import Derived.Test.YtahnaobdihhppaaGreatMgI
import Derived.Test.YtahnaobdihhppaaGreatProg
import Derived.Test.YtahnaobdihhppaaGreatMgH
import Derived.Shelf.Lays
import Derived.Test.YtahnaobdihhppaaGreatMpb
section
namespace Go.Proofs.Tryz
open Go Go.Vm
set_option maxRecDepth 20000
set_option maxHeartbeats 8000000
theorem cutP_bd {acc : Nat → Nat → Bool} {room : List Int} {M : Int} (hr : ∀ p, 0 ≤ room.getD p 0 ∧ room.getD p 0 ≤ M) {b p : Nat} {s : List Nat × Int} : s.2 ≤ (cutP acc room b s p).2 ∧ (cutP acc room b s p).2 ≤ s.2 + M := by
 have := hr p
 unfold cutP
 split
 ·omega
 split <;> omega
theorem cutR_bd {acc : Nat → Nat → Bool} {room : List Int} {M : Int} (hr : ∀ p, 0 ≤ room.getD p 0 ∧ room.getD p 0 ≤ M) {b : Nat} {s : List Nat × Int} : ∀ i : Nat, s.2 ≤ ((List.range i).foldl (cutP acc room b) s).2 ∧ ((List.range i).foldl (cutP acc room b) s).2 ≤ s.2 + i * M
 | 0 => by simp
 | i + 1 => by
  have ih := cutR_bd (acc := acc) hr (b := b) (s := s) i
  have h1 := cutP_bd (acc := acc) hr (b := b) (p := i) (s := (List.range i).foldl (cutP acc room b) s)
  have : ((i + 1 : Nat) : Int) * M = i * M + M := by rw [Int.natCast_add, Int.add_mul]; simp
  rw [range_snoc]
  omega
theorem cutGo_at {acc : Nat → Nat → Bool} {P : Nat} {vol room : List Int} {ix : Int → Int} {cut : List Int} {i : Nat} {n : Int} {need : Int} {s : List Nat × Int} (h : cut[i]? = some n) : cutGo acc P vol room ix (cut.take i) need s (cut.drop i) =
 if ix n < 0 then none else if (cut.take i).any (fun c => c == n) = true then none
 else cutGo acc P vol room ix (cut.take (i + 1)) (need + vol.getD (ix n).toNat 0) ((List.range P).foldl (cutP acc room (ix n).toNat) s) (cut.drop (i + 1)) := by
 rw [drop_of h, cutGo, take_snoc h]; rfl
theorem ev_CheckCut {y : Yd} {l : List Bt} {cut : List Int} (hs : smallP y) (h0 : lstE y l = 0) (hc : cut.length ≤ 30) :
 Ev Tryz.prog 18 [ydD y, .sl 5 (l.map btD), .sl 1 (cut.map iD)] (iD (if cutB (accF y l) y.pits.length (volF y l) (roomF y) (atI l) cut = true then 0 else 21)) := by
 have hO := ls_ok h0
 have hy := yd_ok hO.yd
 have hT := tk_ok hs hO
 have hlen := hO.len
 have hP8 := hy.pits
 have hlc : (cut.map iD).length = cut.length := List.length_map _
 have hlp : (y.pits.map ptD).length = y.pits.length := List.length_map _
 have hrb := room_bd hy
 have hvb := vol_bd hO
 have hB := ev_begin hs (show l.length ≤ 1000000 by omega) h0
 generalize volF y l = vol at *
 generalize roomF y = room at *
 generalize flow0 y l = fl at *
 have e1 := hT.hv
 have e2 := hT.hr
 have hvm : (vol.map iD).length = vol.length := List.length_map _
 have hrm : (room.map iD).length = room.length := List.length_map _
 have hBt := fun n => ev_batchOfD (y := y) (l := l) (vol := vol) (room := room) (fl := fl) n (by omega)
 have hAc := fun (p b : Nat) (hp : p < y.pits.length) (hb : b < l.length) => ev_acceptsD (y := y) (l := l) (vol := vol) (room := room) (fl := fl) hp hb hT.cl
 unfold tkC at hB hBt hAc
 have hres : ∀ r, cutGo (accF y l) y.pits.length vol room (atI l) [] 0 ([], 0) cut = r → cutB (accF y l) y.pits.length vol room (atI l) cut = match r with
  | none => false
  | some r => decide (r.2 < r.1) := fun r hr => by subst hr; rfl
 generalize cutB (accF y l) y.pits.length vol room (atI l) cut = res at *
 refine ev_of_awp tysOk mixed (fn := Tryz.f18) Tryz.func18 rfl rfl rfl ?_
 conv => whnf
 repeat' (first|((with_reducible refine Split.is_false ?_ ?_);decide;conv=>whnf)|((with_reducible refine AltK.l ?_);(conv=>whnf);(first|(refine CallK.mk _ (hB) ?_));conv=>whnf)|fail)
 refine LoopK.o3 (fun z : Nat × Int × (List Nat × Int) => z.1 ≤ cut.length ∧ cutGo (accF y l) y.pits.length vol room (atI l) [] 0 ([], 0) cut = cutGo (accF y l) y.pits.length vol room (atI l) (cut.take z.1) z.2.1 z.2.2 (cut.drop z.1) ∧ 0 ≤ z.2.1 ∧ z.2.1 ≤ z.1 * 10000000000001000 ∧ 0 ≤ z.2.2.2 ∧ z.2.2.2 ≤ z.1 * 320000000000000)
  (fun z => [(28, .d (iD z.1)), (9, .d (iD z.2.1)), (10, .d (iD z.2.2.2))]) (fun z => [(25, .map 3 4 (.int .i64) (seenD (fun n : Nat => (n : Int)) z.2.2.1))]) (fun z => cut.length - z.1) (0, 0, [], 0) ⟨by omega, rfl, by decide, by decide, by decide, by decide⟩ (by refine ⟨?_, ?_, rfl⟩<;>(repeat' (first|exact True.intro|exact rfl|(refine ⟨?_,?_⟩)|(intro h;cases h;done)|fail));done) ?_
 rintro ⟨i, need, s⟩ ⟨hi, hgo, n1, n2, n3, n4⟩
 dsimp only at hi hgo n1 n2 n3 n4 ⊢
 by_cases hil : i < cut.length
 ·obtain ⟨n, hn⟩ := some_of_lt hil
  rw [cutGo_at hn] at hgo
  have l1 : atI l n < l.length := ix_lt
  have w1 := hBt n
  have w2 : Ev Tryz.prog 50 [.sl 1 (((cut.map iD).take (i : Int).toNat).drop (0 : Int).toNat), iD n] (.bool ((cut.take i).any fun c => c == n)) := by
   have := ev_ContainsInt (cut.take i) n (by rw [List.length_take]; omega)
   rw [List.map_take] at this
   exact this
  by_cases hc0 : atI l n < 0
  ·rw [if_pos hc0] at hgo
   rw [hres _ hgo]
   clear hgo hres
   generalize atI l n = bi at *
   conv => whnf
   repeat' (first|((refine PickE.map i hn (by omega) ?_);conv=>whnf)|((with_reducible refine Split.of_true ?_);conv=>whnf)|((with_reducible refine Split.dec (fun _=>?_) (fun _=>?_))<;>conv=>whnf)|((with_reducible refine Split.mk (fun _=>?_) (fun _=>?_))<;>conv=>whnf)|((with_reducible refine Need.mk ?_ ?_);(first|omega|rfl|decide|(refine ⟨?_,?_⟩<;>simp<;>omega)|(simp;omega));conv=>whnf)|((with_reducible refine AltK.l ?_);(conv=>whnf);(first|(refine CallK.mk _ (w2) ?_)|(refine CallK.mk _ (w1) ?_));conv=>whnf)|(exfalso;first|omega|contradiction)|fail)
   all_goals first
    | rfl
    |(exfalso; omega)
  ·rw [if_neg hc0] at hgo
   cases hco : (cut.take i).any fun c => c == n with
   | true =>
    rw [hco, if_pos rfl] at hgo
    rw [hco] at w2
    rw [hres _ hgo]
    clear hgo hres
    generalize atI l n = bi at *
    conv => whnf
    repeat' (first|((refine PickE.map i hn (by omega) ?_);conv=>whnf)|((with_reducible refine Split.of_true ?_);conv=>whnf)|((with_reducible refine Split.dec (fun _=>?_) (fun _=>?_))<;>conv=>whnf)|((with_reducible refine Need.mk ?_ ?_);(first|omega|rfl|decide|(refine ⟨?_,?_⟩<;>simp<;>omega)|(simp;omega));conv=>whnf)|((with_reducible refine AltK.l ?_);(conv=>whnf);(first|(refine CallK.mk _ (w2) ?_)|(refine CallK.mk _ (w1) ?_));conv=>whnf)|(exfalso;first|omega|contradiction)|fail)
    all_goals first
     | rfl
     |(exfalso; omega)
   | false =>
    rw [hco, if_neg (by decide)] at hgo
    rw [hco] at w2
    obtain ⟨k, hk⟩ : ∃ k : Nat, atI l n = k := ⟨(atI l n).toNat, by omega⟩
    rw [hk] at w1 hgo hc0 l1
    rw [Int.toNat_natCast] at hgo
    obtain ⟨v, hv⟩ := some_of_lt (show k < vol.length by omega)
    have hvk := hvb k
    have hvd : vol.getD k 0 = v := by rw [List.getD, hv]; rfl
    rw [hvd] at hgo hvk
    clear hk
    have hbd := cutR_bd (acc := accF y l) hrb (b := k) (s := s)
    conv => whnf
    repeat' (first|((refine PickE.map k hv (by omega) ?_);conv=>whnf)|((refine PickE.map i hn (by omega) ?_);conv=>whnf)|((with_reducible first|refine Split.of_true ?_|refine Split.of_false ?_);conv=>whnf)|((with_reducible refine Split.dec (fun _=>?_) (fun _=>?_))<;>conv=>whnf)|((with_reducible refine Need.mk ?_ ?_);(first|omega|rfl|decide|(refine ⟨?_,?_⟩<;>simp<;>omega)|(simp;omega));conv=>whnf)|((with_reducible refine Wr.inr ?_ ?_);(first|omega|(simp;omega));conv=>whnf)|((with_reducible refine AltK.l ?_);(conv=>whnf);(first|(refine CallK.mk _ (w2) ?_)|(refine CallK.mk _ (w1) ?_));conv=>whnf)|(exfalso;first|omega|contradiction)|fail)
    all_goals first
     |(exfalso; omega)
     | skip
    refine LoopK.o3 (fun j : Nat => j ≤ y.pits.length)
     (fun j => [(57, .d (iD j)), (10, .d (iD ((List.range j).foldl (cutP (accF y l) room k) s).2))]) (fun j => [(25, .map 3 4 (.int .i64) (seenD (fun n : Nat => (n : Int)) ((List.range j).foldl (cutP (accF y l) room k) s).1))]) (fun j => y.pits.length - j) 0 (by omega) (by refine ⟨?_, ?_, rfl⟩<;>(repeat' (first|exact True.intro|exact rfl|(refine ⟨?_,?_⟩)|(intro h;cases h;done)|fail));done) ?_
    rintro j hj
    dsimp only at hj ⊢
    have hst := range_snoc (cutP (accF y l) room k) s j
    have hbj := hbd j
    by_cases hjl : j < y.pits.length
    ·have w3 := hAc j k hjl (by omega)
     generalize (List.range j).foldl (cutP (accF y l) room k) s = u at *
     obtain ⟨r, hr⟩ := some_of_lt (show j < room.length by omega)
     have hrj := hrb j
     have hrd : room.getD j 0 = r := by rw [List.getD, hr]; rfl
     rw [hrd] at hrj
     have hm := mget_seen (fun n : Nat => (n : Int)) j u.1
     rw [cutP, hrd] at hst
     cases hac : accF y l j k with
     | false =>
      rw [hac, if_pos rfl] at hst
      rw [hac] at w3
      conv => whnf
      repeat' (first|((with_reducible refine Split.of_false ?_);conv=>whnf)|((with_reducible refine Split.dec (fun _=>?_) (fun _=>?_))<;>conv=>whnf)|((with_reducible refine Wr.inr ?_ ?_);(first|omega|(simp;omega));conv=>whnf)|((with_reducible refine AltK.l ?_);(conv=>whnf);(first|(refine CallK.mk _ (w3) ?_));conv=>whnf)|(exfalso;first|omega|contradiction)|fail)
      refine Again.av (j + 1) (by omega) (by omega) ?_
      rw [hst]
      exact (by refine ⟨?_, ?_, rfl⟩<;>(repeat' (first|exact True.intro|exact rfl|(refine ⟨?_,?_⟩)|(intro h;cases h;done)|fail));done)
     | true =>
      rw [hac, if_neg (by decide)] at hst
      rw [hac] at w3
      conv => whnf
      repeat' (first|((with_reducible refine Split.of_true ?_);conv=>whnf)|((with_reducible refine Split.dec (fun _=>?_) (fun _=>?_))<;>conv=>whnf)|((with_reducible refine Need.mk ?_ ?_);(first|omega|rfl|decide|(refine ⟨?_,?_⟩<;>simp<;>omega)|(simp;omega));conv=>whnf)|((with_reducible refine Wr.inr ?_ ?_);(first|omega|(simp;omega));conv=>whnf)|((with_reducible refine AltK.l ?_);(conv=>whnf);(first|(refine CallK.mk _ (w3) ?_));conv=>whnf)|(exfalso;first|omega|contradiction)|fail)
      refine LookK.mk (fun v hv => ?_) (fun hv => ?_)
      ·rw [hm] at hv
       split at hv
       ·rename_i h3
        cases hv
        rw [if_pos h3] at hst
        conv => whnf
        repeat' (first|((with_reducible refine Split.of_true ?_);conv=>whnf)|(with_reducible refine Split.neg ?_)|((with_reducible refine Wr.inr ?_ ?_);(first|omega|(simp;omega));conv=>whnf)|fail)
        refine Again.av (j + 1) (by omega) (by omega) ?_
        rw [hst]
        exact (by refine ⟨?_, ?_, rfl⟩<;>(repeat' (first|exact True.intro|exact rfl|(refine ⟨?_,?_⟩)|(intro h;cases h;done)|fail));done)
       ·cases hv
      ·have h3 : ¬ u.1.any (fun n : Nat => (n : Int) == (j : Int)) = true := fun h => by rw [hm, if_pos h] at hv; cases hv
       rw [if_neg h3] at hst
       have hmp1 : mput (seenD (fun n : Nat => (n : Int)) u.1) (iD j) (.bool true) = seenD (fun n : Nat => (n : Int)) (u.1 ++ [j]) := by
        rw [mput_new hv]; simp [seenD]
       conv => whnf
       repeat' (first|((refine PickE.map j hr (by omega) ?_);conv=>whnf)|((with_reducible refine Split.of_false ?_);conv=>whnf)|(with_reducible refine Split.neg ?_)|((with_reducible refine Need.mk ?_ ?_);(first|omega|rfl|decide|(refine ⟨?_,?_⟩<;>simp<;>omega)|(simp;omega));conv=>whnf)|((with_reducible refine Wr.inr ?_ ?_);(first|omega|(simp;omega));conv=>whnf)|fail)
       refine Again.av (j + 1) (by omega) (by omega) ?_
       rw [hst]
       exact (by refine ⟨?_, ?_, rfl⟩<;>(repeat' (first|exact True.intro|exact rfl|(refine ⟨?_,?_⟩)|(intro h;cases h;done)|exact hmp1|fail));done)
    ·have hje : j = y.pits.length := by omega
     subst hje
     conv => whnf
     repeat' (first|((with_reducible refine Split.dec (fun _=>?_) (fun _=>?_))<;>conv=>whnf)|((with_reducible refine Wr.inr ?_ ?_);(first|omega|(simp;omega));conv=>whnf)|(exfalso;first|omega|contradiction)|fail)
     refine Again.av (i + 1, need + v, (List.range y.pits.length).foldl (cutP (accF y l) room k) s) ⟨by dsimp only;omega, hgo, by dsimp only;omega, by dsimp only;omega, by dsimp only;omega, by dsimp only;omega⟩ (by dsimp only;omega) (by refine ⟨?_, ?_, rfl⟩<;>(repeat' (first|exact True.intro|exact rfl|(refine ⟨?_,?_⟩)|(intro h;cases h;done)|fail));done)
 ·rw [List.drop_eq_nil_of_le (show cut.length ≤ i by omega), cutGo] at hgo
  rw [hres _ hgo]
  dsimp only
  have w4 := ev_judged (decide (s.2 < need))
  conv => whnf
  repeat' (first|((with_reducible refine Split.dec (fun _=>?_) (fun _=>?_))<;>conv=>whnf)|((with_reducible refine Need.mk ?_ ?_);(first|omega|rfl|decide|(refine ⟨?_,?_⟩<;>simp<;>omega)|(simp;omega));conv=>whnf)|((with_reducible refine AltK.l ?_);(conv=>whnf);(first|(refine CallK.mk _ (w4) ?_));conv=>whnf)|(exfalso;first|omega|contradiction)|fail)
  all_goals first
   | rfl
   |(exfalso; omega)
end Go.Proofs.Tryz
end

section
open Go Go.Shelf
namespace Go.Proofs
def ly_LyI_ren : Shelf.Ren := ⟨fun | 189 => 53 | 125 => 86 | 257 => 85 | 128 => 112 | 129 => 113 | 294 => 103 | 295 => 104 | 296 => 105 | 297 => 106 | 298 => 107 | 299 => 108 | 216 => 109 | 300 => 110 | 301 => 111 | 328 => 126 | 329 => 127 | 330 => 128 | 331 => 129 | 332 => 130 | 215 => 100 | 343 => 133 | n => n, fun | 28 => 25 | 3 => 3 | 46 => 133 | 0 => 0 | 51 => 156 | 53 => 158 | 4 => 4 | 183 => 150 | 182 => 149 | 131 => 42 | 5 => 5 | 9 => 9 | 218 => 170 | 222 => 174 | 228 => 177 | 229 => 122 | n => n, fun | n => n⟩
theorem ly_LyI : Go.Proofs.Lays.n189 Tryz.prog ly_LyI_ren where
 mixed := by kernel_rfl
 f125 := Tryz.func86.trans (congrArg some (by kernel_rfl))
 f128 := Tryz.func112.trans (congrArg some (by kernel_rfl))
 f129 := Tryz.func113.trans (congrArg some (by kernel_rfl))
 f189 := Tryz.func53.trans (congrArg some (by kernel_rfl))
 f215 := Tryz.func100.trans (congrArg some (by kernel_rfl))
 f216 := Tryz.func109.trans (congrArg some (by kernel_rfl))
 f257 := Tryz.func85.trans (congrArg some (by kernel_rfl))
 f294 := Tryz.func103.trans (congrArg some (by kernel_rfl))
 f295 := Tryz.func104.trans (congrArg some (by kernel_rfl))
 f296 := Tryz.func105.trans (congrArg some (by kernel_rfl))
 f297 := Tryz.func106.trans (congrArg some (by kernel_rfl))
 f298 := Tryz.func107.trans (congrArg some (by kernel_rfl))
 f299 := Tryz.func108.trans (congrArg some (by kernel_rfl))
 f300 := Tryz.func110.trans (congrArg some (by kernel_rfl))
 f301 := Tryz.func111.trans (congrArg some (by kernel_rfl))
 f328 := Tryz.func126.trans (congrArg some (by kernel_rfl))
 f329 := Tryz.func127.trans (congrArg some (by kernel_rfl))
 f330 := Tryz.func128.trans (congrArg some (by kernel_rfl))
 f331 := Tryz.func129.trans (congrArg some (by kernel_rfl))
 f332 := Tryz.func130.trans (congrArg some (by kernel_rfl))
 f343 := Tryz.func133.trans (congrArg some (by kernel_rfl))
 t0 := Tryz.underlying0
 a0 := Tryz.isAgg0
 z0 := Tryz.sizeOf0
 v0 := Tryz.zeroValue0
 t3 := Tryz.underlying3
 a3 := Tryz.isAgg3
 z3 := Tryz.sizeOf3
 v3 := Tryz.zeroValue3
 t4 := Tryz.underlying4
 a4 := Tryz.isAgg4
 z4 := Tryz.sizeOf4
 v4 := Tryz.zeroValue4
 t5 := Tryz.underlying5
 a5 := Tryz.isAgg5
 z5 := Tryz.sizeOf5
 v5 := Tryz.zeroValue5
 t9 := Tryz.underlying9
 a9 := Tryz.isAgg9
 z9 := Tryz.sizeOf9
 v9 := Tryz.zeroValue9
 t28 := Tryz.underlying25
 a28 := Tryz.isAgg25
 z28 := Tryz.sizeOf25
 v28 := Tryz.zeroValue25
 t46 := Tryz.underlying133
 a46 := Tryz.isAgg133
 z46 := Tryz.sizeOf133
 v46 := Tryz.zeroValue133
 t51 := Tryz.underlying156
 a51 := Tryz.isAgg156
 z51 := Tryz.sizeOf156
 v51 := Tryz.zeroValue156
 t53 := Tryz.underlying158
 a53 := Tryz.isAgg158
 z53 := Tryz.sizeOf158
 v53 := Tryz.zeroValue158
 t131 := Tryz.underlying42
 a131 := Tryz.isAgg42
 z131 := Tryz.sizeOf42
 v131 := Tryz.zeroValue42
 t182 := Tryz.underlying149
 a182 := Tryz.isAgg149
 z182 := Tryz.sizeOf149
 v182 := Tryz.zeroValue149
 t183 := Tryz.underlying150
 a183 := Tryz.isAgg150
 z183 := Tryz.sizeOf150
 v183 := Tryz.zeroValue150
 t218 := Tryz.underlying170
 a218 := Tryz.isAgg170
 z218 := Tryz.sizeOf170
 v218 := Tryz.zeroValue170
 t222 := Tryz.underlying174
 a222 := Tryz.isAgg174
 z222 := Tryz.sizeOf174
 v222 := Tryz.zeroValue174
 t228 := Tryz.underlying177
 a228 := Tryz.isAgg177
 z228 := Tryz.sizeOf177
 v228 := Tryz.zeroValue177
 t229 := Tryz.underlying122
 a229 := Tryz.isAgg122
 z229 := Tryz.sizeOf122
 v229 := Tryz.zeroValue122
end Go.Proofs
end

section
namespace Go.Proofs.Tryz
open Go Go.Vm
set_option maxRecDepth 20000
set_option maxHeartbeats 8000000
theorem sortZ_pm {l m : List Int} (h : l.Perm m) : sortZ l = sortZ m := by
 have hs : ∀ l : List Int, (sortZ l).Pairwise fun a b => a ≤ b := fun l => by
  have := List.pairwise_mergeSort (le := fun x y : Int => decide (x ≤ y)) (fun a b c h1 h2 => by simp only [decide_eq_true_eq] at *; omega) (fun a b => by simp; omega) l
  exact this.imp fun h => by simpa using h
 exact List.Perm.eq_of_pairwise (fun a b _ _ h1 h2 => by omega) (hs l) (hs m) ((List.mergeSort_perm l _).trans (h.trans (List.mergeSort_perm m _).symm))
theorem xv_SortI (l : List Int) (hl : l.length ≤ 500) : EvX Tryz.prog 53 [.own 1000 1 (l.map iD).length] [(1000, .row 3 1 (l.map iD) false)] (.tup []) [(1000, .row 3 1 ((sortZ l).map iD) false)] := by
 have h := EvX.sortInts ly_LyI 3 l (by omega) 1000
 rw [List.length_map]
 exact h
def cutS (l : List Bt) (w : Rs) (seen : List Nat) : List Int := seen.reverse.map fun j => numF l (w.bs.getD j (0, 0)).1
def cutN (l : List Bt) (w : Rs) : List Int := w.bs.map fun e => numF l e.1
theorem cutS_all {l : List Bt} {w : Rs} {seen : List Nat} (h1 : seen.Nodup) (h2 : ∀ j ∈ seen, j < w.bs.length) (h3 : ∀ j, j < w.bs.length → j ∈ seen) : (cutS l w seen).Perm (cutN l w) := by
 have hp : seen.reverse.Perm (List.range w.bs.length) := (List.reverse_perm seen).trans ((List.perm_ext_iff_of_nodup h1 List.nodup_range).2 fun j => ⟨fun h => List.mem_range.2 (h2 j h), fun h => h3 j (List.mem_range.1 h)⟩)
 have e : cutN l w = (List.range w.bs.length).map fun j => numF l (w.bs.getD j (0, 0)).1 := by
  apply List.ext_getElem
  ·simp [cutN]
  ·intro i h4 h5
   have : i < w.bs.length := by simpa [cutN] using h4
   simp [cutN, List.getD_eq_getElem?_getD, List.getElem?_eq_getElem this]
 rw [e]
 exact hp.map _
theorem nodup_lt : ∀ (n : Nat) (l : List Nat), l.Nodup → (∀ x ∈ l, x < n) → l.length ≤ n := fun _ _ h1 h2 => nodup_le h1 h2
theorem ev_AssignNo {y : Yd} {l : List Bt} (hs : smallP y) (hl : l.length ≤ 1000000) (hd : y.deps.length ≤ 1000000) (h0 : lstE y l ≠ 0) : Ev Tryz.prog 21 [ydD y, .sl 5 (l.map btD)] (.tup [.sl 3 [], .sl 1 [], iD (lstE y l)]) := by
 have hB := (xv_beginNo hs hl hd h0)
 generalize lstE y l = e at *
 refine ev_of_awp tysOk mixed (fn := Tryz.f21) Tryz.func21 rfl rfl rfl ?_
 conv => whnf
 repeat' (first|((with_reducible refine Split.nez (fun _=>?_) (fun _=>?_))<;>conv=>whnf)|((with_reducible refine AltK.r ?_);(conv=>whnf);(first|(refine CallX.mk _ _ (hB) rfl ?_));conv=>whnf)|(exfalso;first|omega|contradiction)|fail)
 all_goals first
  | rfl
  |(exfalso; omega)
theorem ev_AssignOk {y : Yd} {l : List Bt} (hs : smallP y) (h0 : lstE y l = 0) {n k : Nat} {fl : List (List Int)} (hn : n ≤ 1000)
 (hf : fillsF (accF y l) y.pits.length l.length n k (volF y l) (roomF y) (sortGo (priceF y) [] (List.range y.pits.length)) (flow0 y l) = some fl) (hd : doneF l.length (volF y l) fl = true) :
 Ev Tryz.prog 21 [ydD y, .sl 5 (l.map btD)] (.tup [.sl 3 ((allF y l fl l.length).map alD), .sl 1 [], iD 0]) := by
 have hO := ls_ok h0
 have hy := yd_ok hO.yd
 have hT := tk_ok hs hO
 have hSm : ∀ z ∈ sortGo (priceF y) [] (List.range y.pits.length), z < y.pits.length := fun z hz => by
  rcases sortGo_mem.1 hz with h | h
  ·simp at h
  ·exact List.mem_range.1 h
 have hT2 := fills_ok hn hSm hT hf
 have hlen := hO.len
 have hB := (xv_begin hs (by omega) h0).rn [(9, 14), (2009, 2014), (4009, 4014), (6009, 6014)] rfl
 have hS := xv_solve hT hn hf
 rw [tkX_eq hT.hf, tkX_eq hT2.hf, hd] at hS
 have hA := xv_allots hT2
 rw [tkX_eq hT2.hf] at hA
 unfold tkL at hS hA
 generalize allF y l fl l.length = xs at *
 have hS := hS.rn [(1000, 14), (1001, 2014), (1002, 4014), (1003, 6014)] rfl
 have hA := hA.rn [(1000, 14), (1001, 2014), (1002, 4014), (1003, 6014), (9, 23)] rfl
 refine ev_of_awp tysOk mixed (fn := Tryz.f21) Tryz.func21 rfl rfl rfl ?_
 conv => whnf
 repeat' (first|((with_reducible refine Split.of_true ?_);conv=>whnf)|((with_reducible refine Split.is_false ?_ ?_);decide;conv=>whnf)|((with_reducible refine AltK.r ?_);(conv=>whnf);(first|(refine CallX.mk _ _ (hB) rfl ?_)|(refine CallX.mk _ _ (hS) rfl ?_)|(refine CallX.mk _ _ (hA) rfl ?_));conv=>whnf)|fail)
 all_goals first
  | rfl
  |(exfalso; omega)
theorem ev_AssignFull {y : Yd} {l : List Bt} (hs : smallP y) (h0 : lstE y l = 0) {n k m : Nat} {fl : List (List Int)} (hn : n ≤ 1000)
 (hf : fillsF (accF y l) y.pits.length l.length n k (volF y l) (roomF y) (sortGo (priceF y) [] (List.range y.pits.length)) (flow0 y l) = some fl) (hd : doneF l.length (volF y l) fl = false)
 {w : Rs} (hw : reachF (accF y l) y.pits.length l.length m (volF y l) fl = some w) (hm : m ≤ 1000) (hwl : ∀ e ∈ w.bs, e.1 < l.length) (hwn : w.bs.length ≤ 12) :
 Ev Tryz.prog 21 [ydD y, .sl 5 (l.map btD)] (.tup [.sl 3 [], .sl 1 ((sortZ (cutN l w)).map iD), iD 19]) := by
 have hO := ls_ok h0
 have hT := tk_ok hs hO
 have hSm : ∀ z ∈ sortGo (priceF y) [] (List.range y.pits.length), z < y.pits.length := fun z hz => by
  rcases sortGo_mem.1 hz with h | h
  ·simp at h
  ·exact List.mem_range.1 h
 have hT2 := fills_ok hn hSm hT hf
 have hlen := hO.len
 have hll : (l.map btD).length = l.length := List.length_map _
 have hB := (xv_begin hs (by omega) h0).rn [(9, 14), (2009, 2014), (4009, 4014), (6009, 6014)] rfl
 have hS := xv_solve hT hn hf
 rw [tkX_eq hT.hf, tkX_eq hT2.hf, hd] at hS
 have hR := xv_reached hT2 hw hm
 rw [tkX_eq hT2.hf] at hR
 unfold tkL at hS hR
 have hS := hS.rn [(1000, 14), (1001, 2014), (1002, 4014), (1003, 6014)] rfl
 have hR := hR.rn [(1000, 14), (1001, 2014), (1002, 4014), (1003, 6014), (9, 25), (2009, 2025)] rfl
 have hml : (mapD w.bs).length = w.bs.length := List.length_map _
 refine ev_of_awp tysOk mixed (fn := Tryz.f21) Tryz.func21 rfl rfl rfl ?_
 conv => whnf
 repeat' (first|((with_reducible refine Split.of_false ?_);conv=>whnf)|((with_reducible refine Split.is_false ?_ ?_);decide;conv=>whnf)|((with_reducible refine AltK.r ?_);(conv=>whnf);(first|(refine CallX.mk _ _ (hB) rfl ?_)|(refine CallX.mk _ _ (hS) rfl ?_)|(refine CallX.mk _ _ (hR) rfl ?_));conv=>whnf)|fail)
 all_goals first
  |(exfalso; omega)
  | skip
 refine LoopK.o3 (fun seen : List Nat => seen.Nodup ∧ ∀ j ∈ seen, j < w.bs.length)
  (fun seen => [(9, .own 200 1 ((cutS l w seen).map iD).length)]) (fun seen => [(200, .row 3 1 ((cutS l w seen).map iD) false), (27, .iter (some 25) (mapD w.bs).length seen)]) (fun seen => w.bs.length - seen.length) [] ⟨.nil, fun j hj => (by cases hj)⟩ (by refine ⟨?_, ?_, rfl⟩<;>(repeat' (first|exact True.intro|exact rfl|(refine ⟨?_,?_⟩)|(intro h;cases h;done)|fail));done) ?_
 rintro seen ⟨s1, s2⟩
 dsimp only at s1 s2 ⊢
 have s3 := nodup_lt _ _ s1 s2
 have hcl : ((cutS l w seen).map iD).length = seen.length := by simp [cutS]
 have hcl3 : (cutS l w seen).length = seen.length := by simp [cutS]
 conv => whnf
 repeat' (first|((with_reducible refine Need.mk ?_ ?_);(first|omega|rfl|decide|(refine ⟨?_,?_⟩<;>simp<;>omega)|(simp;omega));conv=>whnf)|fail)
 refine NextK.mk (fun j p hjp hjs => ?_) (fun hall => ?_)
 ·conv => whnf
  have hjl : j < w.bs.length := by rw [← hml]; exact lt_of_some hjp
  obtain ⟨e, he⟩ := some_of_lt hjl
  have hp : p = (iD (e.1 : Int), iD e.2) := by
   rw [mapD, List.getElem?_map, he] at hjp
   exact (Option.some.inj hjp).symm
  subst hp
  have hel := hwl e (List.mem_of_getElem? he)
  obtain ⟨b, hb⟩ := some_of_lt hel
  have hmp1 : (cutS l w seen).map iD ++ iD b.n :: List.replicate 0 (D.int .i64 0) = (cutS l w (j :: seen)).map iD := by
   simp [cutS, numF, List.getD_eq_getElem?_getD, he, hb]
  have hcl2 : ((cutS l w (j :: seen)).map iD).length = seen.length + 1 := by simp [cutS]
  conv => whnf
  repeat' (first|((refine PickE.map e.1 hb (by omega) ?_);conv=>whnf)|((refine PickE.map j hjp rfl ?_);conv=>whnf)|((with_reducible refine Split.of_true ?_);conv=>whnf)|((with_reducible refine Need.mk ?_ ?_);(first|omega|rfl|decide|(refine ⟨?_,?_⟩<;>simp<;>omega)|(simp;omega));conv=>whnf)|fail)
  refine Again.av (j :: seen) ⟨List.nodup_cons.2 ⟨hjs, s1⟩, fun x hx => ?_⟩ ?_ (by refine ⟨?_, ?_, rfl⟩<;>(repeat' (first|exact True.intro|exact rfl|(refine ⟨?_,?_⟩)|(intro h;cases h;done)|exact hmp1|((first|refine own_congr ?_|refine int_congr ?_|skip);simp [cutS];done)|fail));done)
  ·rcases List.mem_cons.1 hx with rfl | hx
   ·exact hjl
   ·exact s2 x hx
  ·have := nodup_lt _ _ (List.nodup_cons.2 ⟨hjs, s1⟩) (fun x hx => by
    rcases List.mem_cons.1 hx with rfl | hx
    ·exact hjl
    ·exact s2 x hx)
   rw [List.length_cons] at this ⊢
   omega
 ·conv => whnf
  have hpm := sortZ_pm (cutS_all (l := l) s1 s2 fun j hj => hall j (by rw [hml]; exact hj))
  have hQ := (xv_SortI (cutS l w seen) (by rw [← List.length_map (f := iD), hcl]; omega)).rn [(1000, 200)] rfl
  rw [hpm] at hQ
  conv => whnf
  repeat' (first|((with_reducible refine Split.of_false ?_);conv=>whnf)|((with_reducible refine AltK.r ?_);(conv=>whnf);(first|(refine CallX.mk _ _ (hQ) rfl ?_));conv=>whnf)|fail)
  all_goals first
   | rfl
   |(exfalso; omega)
theorem ev_AssignRun {y : Yd} {l : List Bt} (hs : smallP y) (h0 : lstE y l = 0) : ∃ fl k w, fillsF (accF y l) y.pits.length l.length 20 k (volF y l) (roomF y) (ordF y) (flow0 y l) = some fl ∧ FlOk (accF y l) y.pits.length l.length (volF y l) (roomF y) fl ∧
 (∀ p, p < y.pits.length → Shut (accF y l) y.pits.length l.length (volF y l) (roomF y) fl p) ∧
 (doneF l.length (volF y l) fl = false → RsI (accF y l) y.pits.length l.length (volF y l) fl w ∧ haveS (accF y l) y.pits.length l.length (roomF y) (hasN w.bs) < needS l.length (volF y l) (hasN w.bs)) ∧
 Ev Tryz.prog 21 [ydD y, .sl 5 (l.map btD)] (.tup [.sl 3 (if doneF l.length (volF y l) fl = true then (allF y l fl l.length).map alD else []), .sl 1 (if doneF l.length (volF y l) fl = true then [] else (sortZ (cutN l w)).map iD), iD (if doneF l.length (volF y l) fl = true then 0 else 19)]) := by
 have hO := ls_ok h0
 have hlen := hO.len
 obtain ⟨fl, k, hk, hf, hsh⟩ := solve_run hO
 cases hd : doneF l.length (volF y l) fl with
 | true =>
  refine ⟨fl, k, ⟨[], [], []⟩, hk, hf, hsh, fun h => absurd (hd.symm.trans h) (by decide), ?_⟩
  rw [hd, if_pos rfl, if_pos rfl, if_pos rfl]
  exact ev_AssignOk hs h0 (by decide) hk hd
 | false =>
  obtain ⟨w, hw, hI, hcut⟩ := is_cut hf hsh hd (show l.length ≤ 20 by omega)
  refine ⟨fl, k, w, hk, hf, hsh, fun _ => ⟨hI, hcut⟩, ?_⟩
  rw [hd, if_neg (by decide), if_neg (by decide), if_neg (by decide)]
  exact ev_AssignFull hs h0 (by decide) hk hd hw (by decide) hI.bl (by have := hI.len; omega)
end Go.Proofs.Tryz
end

section
namespace Go.Proofs.Tryz
open Go Go.Vm
set_option maxRecDepth 20000
set_option maxHeartbeats 8000000
theorem rcGo_at {vol : List Int} {ix : Int → Int} {cut : List Int} {i : Nat} {n : Int} {need : Int} (h : cut[i]? = some n) : rcGo vol ix (cut.take i) need (cut.drop i) =
 if ix n < 0 then none else if (cut.take i).any (fun c => c == n) = true then none else rcGo vol ix (cut.take (i + 1)) (need + vol.getD (ix n).toNat 0) (cut.drop (i + 1)) := by
 rw [drop_of h, rcGo, take_snoc h]
theorem any_take9 {α : Type} {p : α → Bool} {l : List α} {j : Nat} {x : α} (h : l[j]? = some x) : (l.take (j + 1)).any p = ((l.take j).any p || p x) := by
 rw [take_snoc h]; simp
theorem ev_Cuts9 {y : Yd} {l : List Bt} {cut : List Int} (hO : LsOk y l) (hc : cut.length ≤ 30) (hcl : ∀ p ∈ y.pits, p.cls.length ≤ 1000000) :
 Ev Tryz.prog 20 [ydD y, .sl 5 (l.map btD), .sl 1 (cut.map iD)] (.bool (rcB (accF y l) y.pits.length (volF y l) (roomF y) (atI l) cut)) := by
 have hy := yd_ok hO.yd
 have hlen := hO.len
 have hP8 := hy.pits
 have hb20 := hy.bulk
 have hlc : (cut.map iD).length = cut.length := List.length_map _
 have hlp : (y.pits.map ptD).length = y.pits.length := List.length_map _
 have hll : (l.map btD).length = l.length := List.length_map _
 have hrb := room_bd hy
 have hvb := vol_bd hO
 have hV := ev_Volumes y l y.carry (by omega) (by omega) hO.wok ⟨hy.carL, hy.car⟩
 have hvl : (volF y l).length = l.length := (volsGo_spec hO.wok ⟨hy.carL, hy.car⟩).1
 have hro : ∀ p, (h : p < y.pits.length) → Ev Tryz.prog 43 [ydD y, iD p] (iD ((roomF y).getD p 0)) := fun p h => by
  obtain ⟨q, hq⟩ := some_of_lt h
  have h1 := ev_Room9 y hq (hy.pit q (List.mem_of_getElem? hq)).1 hy.vol (by have := hy.deps; omega)
  have e : (roomF y).getD p 0 = roomS y q := by rw [roomF, List.getD, List.getElem?_map, hq]; rfl
  rw [e]; exact h1
 rw [show volsGo y y.carry l = volF y l from rfl] at hV
 generalize volF y l = vol at *
 generalize roomF y = room at *
 have hvm : (vol.map iD).length = vol.length := List.length_map _
 have hres : ∀ r, rcGo vol (atI l) [] 0 cut = r → rcB (accF y l) y.pits.length vol room (atI l) cut = match r with
  | none => false
  | some need => decide (sumN y.pits.length (fun p => if opnC (accF y l) (atI l) cut p = true then room.getD p 0 else 0) < need) := fun r hr => by subst hr; rfl
 generalize rcB (accF y l) y.pits.length vol room (atI l) cut = res at *
 refine ev_of_awp tysOk mixed (fn := Tryz.f20) Tryz.func20 rfl rfl rfl ?_
 conv => whnf
 repeat' (first|((with_reducible refine AltK.l ?_);(conv=>whnf);(first|(refine CallK.mk _ (hV) ?_));conv=>whnf)|fail)
 refine LoopK.o2 (fun z : Nat × Int => z.1 ≤ cut.length ∧ rcGo vol (atI l) [] 0 cut = rcGo vol (atI l) (cut.take z.1) z.2 (cut.drop z.1) ∧ 0 ≤ z.2 ∧ z.2 ≤ z.1 * 10000000000001000)
  (fun z => [(10, .d (iD z.1)), (8, .d (iD z.2))]) (fun _ => []) (fun z => cut.length - z.1) (0, 0) ⟨by omega, rfl, by decide, by decide⟩ (by refine ⟨?_, ?_, rfl⟩<;>(repeat' (first|exact True.intro|exact rfl|(refine ⟨?_,?_⟩)|(intro h;cases h;done)|fail));done) ?_
 rintro ⟨i, need⟩ ⟨hi, hgo, n1, n2⟩
 dsimp only at hi hgo n1 n2 ⊢
 by_cases hil : i < cut.length
 ·obtain ⟨n, hn⟩ := some_of_lt hil
  rw [rcGo_at hn] at hgo
  have l1 : atI l n < l.length := ix_lt
  have w1 := ev_At9 l n (by omega)
  by_cases hc0 : atI l n < 0
  ·rw [if_pos hc0] at hgo
   rw [hres _ hgo]
   clear hgo hres
   generalize atI l n = bi at *
   conv => whnf
   repeat' (first|((refine PickE.map i hn (by omega) ?_);conv=>whnf)|((with_reducible refine Split.dec (fun _=>?_) (fun _=>?_))<;>conv=>whnf)|((with_reducible refine Need.mk ?_ ?_);(first|omega|rfl|decide|(refine ⟨?_,?_⟩<;>simp<;>omega)|(simp;omega));conv=>whnf)|((with_reducible refine AltK.l ?_);(conv=>whnf);(first|(refine CallK.mk _ (w1) ?_));conv=>whnf)|(exfalso;first|omega|contradiction)|fail)
   all_goals first
    | rfl
    |(exfalso; omega)
  ·rw [if_neg hc0] at hgo
   obtain ⟨k, hk⟩ : ∃ k : Nat, atI l n = k := ⟨(atI l n).toNat, by omega⟩
   rw [hk] at w1 hgo hc0 l1
   rw [Int.toNat_natCast] at hgo
   obtain ⟨v, hv⟩ := some_of_lt (show k < vol.length by omega)
   have hvk := hvb k
   have hvd : vol.getD k 0 = v := by rw [List.getD, hv]; rfl
   rw [hvd] at hgo hvk
   clear hk
   conv => whnf
   repeat' (first|((refine PickE.map i hn (by omega) ?_);conv=>whnf)|((with_reducible refine Split.dec (fun _=>?_) (fun _=>?_))<;>conv=>whnf)|((with_reducible refine Need.mk ?_ ?_);(first|omega|rfl|decide|(refine ⟨?_,?_⟩<;>simp<;>omega)|(simp;omega));conv=>whnf)|((with_reducible refine AltK.l ?_);(conv=>whnf);(first|(refine CallK.mk _ (w1) ?_));conv=>whnf)|(exfalso;first|omega|contradiction)|fail)
   refine LoopK.o2 (fun j : Nat => j ≤ i ∧ ∀ c ∈ cut.take j, (c == n) = false) (fun j => [(12, .d (iD j))]) (fun _ => []) (fun j => i - j) 0 ⟨by omega, by simp⟩ (by refine ⟨?_, ?_, rfl⟩<;>(repeat' (first|exact True.intro|exact rfl|(refine ⟨?_,?_⟩)|(intro h;cases h;done)|fail));done) ?_
   rintro j ⟨hj, hjn⟩
   by_cases hji : j < i
   ·obtain ⟨c, hcj⟩ := some_of_lt (show j < cut.length by omega)
    by_cases hcn : c = n
    ·have hany : (cut.take i).any (fun c => c == n) = true := List.any_eq_true.2 ⟨c, List.mem_take_iff_getElem.2 ⟨j, by omega, (List.getElem?_eq_some_iff.1 hcj).2⟩, by rw [hcn]; simp⟩
     rw [if_pos hany] at hgo
     rw [hres _ hgo]
     clear hgo hres
     conv => whnf
     repeat' (first|((refine PickE.map i hn (by omega) ?_);conv=>whnf)|((refine PickE.map j hcj (by omega) ?_);conv=>whnf)|((with_reducible refine Split.eqz (fun _=>?_) (fun _=>?_))<;>conv=>whnf)|((with_reducible refine Split.dec (fun _=>?_) (fun _=>?_))<;>conv=>whnf)|((with_reducible refine Need.mk ?_ ?_);(first|omega|rfl|decide|(refine ⟨?_,?_⟩<;>simp<;>omega)|(simp;omega));conv=>whnf)|((with_reducible refine Wr.inr ?_ ?_);(first|omega|(simp;omega));conv=>whnf)|(exfalso;first|omega|contradiction)|fail)
     all_goals first
      | rfl
      |(exfalso; omega)
    ·conv => whnf
     repeat' (first|((refine PickE.map i hn (by omega) ?_);conv=>whnf)|((refine PickE.map j hcj (by omega) ?_);conv=>whnf)|((with_reducible refine Split.eqz (fun _=>?_) (fun _=>?_))<;>conv=>whnf)|((with_reducible refine Split.dec (fun _=>?_) (fun _=>?_))<;>conv=>whnf)|((with_reducible refine Need.mk ?_ ?_);(first|omega|rfl|decide|(refine ⟨?_,?_⟩<;>simp<;>omega)|(simp;omega));conv=>whnf)|((with_reducible refine Wr.inr ?_ ?_);(first|omega|(simp;omega));conv=>whnf)|(exfalso;first|omega|contradiction)|fail)
     all_goals first
      |(exfalso; omega)
      | skip
     refine Again.au (j + 1) ⟨by omega, fun z hz => ?_⟩ (by omega) (by refine ⟨?_, ?_, rfl⟩<;>(repeat' (first|exact True.intro|exact rfl|(refine ⟨?_,?_⟩)|(intro h;cases h;done)|fail));done)
     rw [take_snoc hcj] at hz
     rcases List.mem_append.1 hz with hz | hz
     ·exact hjn z hz
     ·rw [List.mem_singleton.1 hz]; simpa using hcn
   ·have hje : j = i := by omega
    subst hje
    have hany : ¬ (cut.take j).any (fun c => c == n) = true := by
     rw [Bool.not_eq_true, List.any_eq_false]
     intro c hc
     rw [hjn c hc]; decide
    rw [if_neg hany] at hgo
    conv => whnf
    repeat' (first|((refine PickE.map k hv (by omega) ?_);conv=>whnf)|((with_reducible refine Split.dec (fun _=>?_) (fun _=>?_))<;>conv=>whnf)|((with_reducible refine Need.mk ?_ ?_);(first|omega|rfl|decide|(refine ⟨?_,?_⟩<;>simp<;>omega)|(simp;omega));conv=>whnf)|((with_reducible refine Wr.inr ?_ ?_);(first|omega|(simp;omega));conv=>whnf)|(exfalso;first|omega|contradiction)|fail)
    exact Again.au (j + 1, need + v) ⟨by dsimp only;omega, hgo, by dsimp only;omega, by dsimp only;omega⟩ (by dsimp only;omega) (by refine ⟨?_, ?_, rfl⟩<;>(repeat' (first|exact True.intro|exact rfl|(refine ⟨?_,?_⟩)|(intro h;cases h;done)|fail));done)
 ·rw [List.drop_eq_nil_of_le (show cut.length ≤ i by omega), rcGo] at hgo
  have hnn := rcGo_nn hgo
  rw [hres _ hgo]
  clear hgo hres
  dsimp only
  conv => whnf
  repeat' (first|((with_reducible refine Split.dec (fun _=>?_) (fun _=>?_))<;>conv=>whnf)|((with_reducible refine Need.mk ?_ ?_);(first|omega|rfl|decide|(refine ⟨?_,?_⟩<;>simp<;>omega)|(simp;omega));conv=>whnf)|(exfalso;first|omega|contradiction)|fail)
  refine LoopK.o2 (fun p : Nat => p ≤ y.pits.length) (fun p => [(13, .d (iD p)), (9, .d (iD (sumN p fun p => if opnC (accF y l) (atI l) cut p = true then room.getD p 0 else 0)))]) (fun _ => []) (fun p => y.pits.length - p) 0 (by omega) (by refine ⟨?_, ?_, rfl⟩<;>(repeat' (first|exact True.intro|exact rfl|(refine ⟨?_,?_⟩)|(intro h;cases h;done)|fail));done) ?_
  rintro p hp
  dsimp only at hp ⊢
  have hs1 : 0 ≤ sumN p (fun p => if opnC (accF y l) (atI l) cut p = true then room.getD p 0 else 0) := sumN_nn fun q _ => by
   have := hrb q
   split <;> omega
  have hs2 := sumN_bd (n := p) (f := fun p => if opnC (accF y l) (atI l) cut p = true then room.getD p 0 else 0) (M := 40000000000000) fun q _ => by
   have := hrb q
   split <;> omega
  by_cases hpl : p < y.pits.length
  ·obtain ⟨q, hq⟩ := some_of_lt hpl
   have hst : sumN (p + 1) (fun p => if opnC (accF y l) (atI l) cut p = true then room.getD p 0 else 0) = sumN p (fun p => if opnC (accF y l) (atI l) cut p = true then room.getD p 0 else 0) + if opnC (accF y l) (atI l) cut p = true then room.getD p 0 else 0 := rfl
   generalize sumN p (fun p => if opnC (accF y l) (atI l) cut p = true then room.getD p 0 else 0) = sm at *
   have hrp := hrb p
   have w5 := hro p hpl
   generalize room.getD p 0 = rp at *
   conv => whnf
   repeat' (first|((with_reducible refine Split.dec (fun _=>?_) (fun _=>?_))<;>conv=>whnf)|(exfalso;first|omega|contradiction)|fail)
   refine LoopK.o2 (fun j : Nat => j ≤ cut.length) (fun j => [(15, .d (iD j)), (14, .d (.bool ((cut.take j).any fun n => accF y l p (atI l n).toNat)))]) (fun _ => []) (fun j => cut.length - j) 0 (by omega) (by refine ⟨?_, ?_, rfl⟩<;>(repeat' (first|exact True.intro|exact rfl|(refine ⟨?_,?_⟩)|(intro h;cases h;done)|fail));done) ?_
   rintro j hj
   dsimp only at hj ⊢
   by_cases hjl : j < cut.length
   ·obtain ⟨n, hn⟩ := some_of_lt hjl
    have hn0 := hnn n (List.mem_of_getElem? hn)
    have l1 : atI l n < l.length := ix_lt
    have w1 := ev_At9 l n (by omega)
    have hst2 := any_take9 (p := fun n => accF y l p (atI l n).toNat) hn
    obtain ⟨k, hk⟩ : ∃ k : Nat, atI l n = k := ⟨(atI l n).toNat, by omega⟩
    simp only [hk, Int.toNat_natCast] at hst2
    rw [hk] at w1 l1
    obtain ⟨b, hb⟩ := some_of_lt (show k < l.length by omega)
    have w2 := ev_Accepts9 q b.cls (hcl q (List.mem_of_getElem? hq))
    have eA : accF y l p k = accB q b.cls := by rw [accF, hq, hb]
    rw [eA] at hst2
    cases hop : (cut.take j).any fun n => accF y l p (atI l n).toNat with
    | true =>
     rw [hop, Bool.true_or] at hst2
     conv => whnf
     repeat' (first|((with_reducible refine Split.of_true ?_);conv=>whnf)|((with_reducible refine Split.dec (fun _=>?_) (fun _=>?_))<;>conv=>whnf)|((with_reducible refine Wr.inr ?_ ?_);(first|omega|(simp;omega));conv=>whnf)|(exfalso;first|omega|contradiction)|fail)
     refine Again.au (j + 1) (by omega) (by omega) ?_
     rw [hst2]
     exact (by refine ⟨?_, ?_, rfl⟩<;>(repeat' (first|exact True.intro|exact rfl|(refine ⟨?_,?_⟩)|(intro h;cases h;done)|fail));done)
    | false =>
     rw [hop, Bool.false_or] at hst2
     conv => whnf
     repeat' (first|((refine PickE.map k hb (by omega) ?_);conv=>whnf)|((refine PickE.map j hn (by omega) ?_);conv=>whnf)|((refine PickE.map p hq (by omega) ?_);conv=>whnf)|((with_reducible refine Split.of_false ?_);conv=>whnf)|((with_reducible refine Split.dec (fun _=>?_) (fun _=>?_))<;>conv=>whnf)|((with_reducible refine Need.mk ?_ ?_);(first|omega|rfl|decide|(refine ⟨?_,?_⟩<;>simp<;>omega)|(simp;omega));conv=>whnf)|((with_reducible refine Wr.inr ?_ ?_);(first|omega|(simp;omega));conv=>whnf)|((with_reducible refine AltK.l ?_);(conv=>whnf);(first|(refine CallK.mk _ (w1) ?_)|(refine CallK.mk _ (w2) ?_));conv=>whnf)|(exfalso;first|omega|contradiction)|fail)
     refine Again.au (j + 1) (by omega) (by omega) ?_
     rw [hst2]
     exact (by refine ⟨?_, ?_, rfl⟩<;>(repeat' (first|exact True.intro|exact rfl|(refine ⟨?_,?_⟩)|(intro h;cases h;done)|fail));done)
   ·have hje : j = cut.length := by omega
    subst hje
    rw [List.take_length]
    rw [show (cut.any fun n => accF y l p (atI l n).toNat) = opnC (accF y l) (atI l) cut p from rfl]
    cases hop : opnC (accF y l) (atI l) cut p with
    | true =>
     rw [hop, if_pos rfl] at hst
     conv => whnf
     repeat' (first|((with_reducible refine Split.of_true ?_);conv=>whnf)|((with_reducible refine Split.dec (fun _=>?_) (fun _=>?_))<;>conv=>whnf)|((with_reducible refine Wr.inr ?_ ?_);(first|omega|(simp;omega));conv=>whnf)|((with_reducible refine AltK.l ?_);(conv=>whnf);(first|(refine CallK.mk _ (w5) ?_));conv=>whnf)|(exfalso;first|omega|contradiction)|fail)
     refine Again.au (p + 1) (by omega) (by omega) ?_
     rw [hst]
     exact (by refine ⟨?_, ?_, rfl⟩<;>(repeat' (first|exact True.intro|exact rfl|(refine ⟨?_,?_⟩)|(intro h;cases h;done)|fail));done)
    | false =>
     rw [hop, if_neg (by decide), Int.add_zero] at hst
     conv => whnf
     repeat' (first|((with_reducible refine Split.of_false ?_);conv=>whnf)|((with_reducible refine Split.dec (fun _=>?_) (fun _=>?_))<;>conv=>whnf)|((with_reducible refine Need.mk ?_ ?_);(first|omega|rfl|decide|(refine ⟨?_,?_⟩<;>simp<;>omega)|(simp;omega));conv=>whnf)|((with_reducible refine Wr.inr ?_ ?_);(first|omega|(simp;omega));conv=>whnf)|(exfalso;first|omega|contradiction)|fail)
     refine Again.au (p + 1) (by omega) (by omega) ?_
     rw [hst]
     exact (by refine ⟨?_, ?_, rfl⟩<;>(repeat' (first|exact True.intro|exact rfl|(refine ⟨?_,?_⟩)|(intro h;cases h;done)|fail));done)
  ·have hpe : p = y.pits.length := by omega
   subst hpe
   generalize sumN y.pits.length (fun p => if opnC (accF y l) (atI l) cut p = true then room.getD p 0 else 0) = sm at *
   conv => whnf
   repeat' (first|((with_reducible refine Split.dec (fun _=>?_) (fun _=>?_))<;>conv=>whnf)|(exfalso;first|omega|contradiction)|fail)
   rfl
end Go.Proofs.Tryz
end

section
namespace Go.Proofs.Tryz
open Go Go.Vm
set_option maxRecDepth 20000
section
variable {acc : Nat → Nat → Bool} {P L : Nat} {vol room : List Int} {fl : List (List Int)} {I : Nat → Bool}
def roomI (P : Nat) (room : List Int) (I : Nat → Bool) : List Int := (List.range P).map fun p => if I p = true then room.getD p 0 else 0
theorem roomI_at {p : Nat} (hp : p < P) : (roomI P room I).getD p 0 = if I p = true then room.getD p 0 else 0 := by
 rw [roomI, List.getD_eq_getElem?_getD, List.getElem?_map, List.getElem?_range hp]; rfl
def capW (acc : Nat → Nat → Bool) (P L : Nat) (vol room : List Int) (I A : Nat → Bool) : Int :=
 sumN L (fun b => if A b = true then 0 else vol.getD b 0) + sumN P fun p => if openB acc L A p = true ∧ I p = true then room.getD p 0 else 0
def usedS (P L : Nat) (fl : List (List Int)) : Int := sumN L fun b => sumN P (cellZ fl b)
theorem free_no (hd : Dim P L fl) {p : Nat} (hp : p < P) (hI : I p = false) (hz : ∀ b, b < L → cellZ fl b p = 0) : freeF (roomI P room I) fl p = 0 := by
 rw [free_sum hd, roomI_at hp, hI, if_neg (by decide), sumN_congr (g := fun _ => 0) (fun b hb => hz b hb), sumN_zero]; rfl
theorem free_in (hd : Dim P L fl) {p : Nat} (hp : p < P) (hI : I p = true) : freeF (roomI P room I) fl p = freeF room fl p := by
 rw [free_sum hd, free_sum hd, roomI_at hp, hI, if_pos rfl]
theorem fl_in (h : FlOk acc P L vol room fl) (hz : ∀ p, p < P → I p = false → ∀ b, b < L → cellZ fl b p = 0) : FlOk acc P L vol (roomI P room I) fl :=
 ⟨h.dim, h.nn, h.ac, h.lf, fun p hp => by
  cases hI : I p with
  | true => rw [free_in h.dim hp hI]; exact h.fr p hp
  | false => rw [free_no h.dim hp hI (hz p hp hI)]; exact Int.le_refl _⟩
theorem cap_eq {A : Nat → Bool} : capW acc P L vol room I A = sumN L (fun b => vol.getD b 0) - needS L vol A + haveS acc P L (roomI P room I) A := by
 have e1 : sumN L (fun b => if A b = true then 0 else vol.getD b 0) = sumN L (fun b => vol.getD b 0) - needS L vol A := by
  rw [needS, ← sumN_sub]
  exact sumN_congr fun b _ => by split <;> omega
 have e2 : haveS acc P L (roomI P room I) A = sumN P fun p => if openB acc L A p = true ∧ I p = true then room.getD p 0 else 0 := sumN_congr fun p hp => by
  rw [roomI_at hp]
  by_cases h1 : openB acc L A p = true <;> by_cases h2 : I p = true <;> simp [h1, h2]
 rw [capW, e1, e2]
theorem used_eq (hd : Dim P L fl) : usedS P L fl = sumN L (fun b => vol.getD b 0) - sumN L (fun b => leftF vol fl b) := by
 rw [usedS, ← sumN_sub]
 exact sumN_congr fun b hb => by rw [left_sum hd hb]; omega
theorem cap_weak (h : FlOk acc P L vol room fl) (hz : ∀ p, p < P → I p = false → ∀ b, b < L → cellZ fl b p = 0) (A : Nat → Bool) : usedS P L fl ≤ capW acc P L vol room I A := by
 have h1 := cut_weak (fl_in h hz) A
 have h2 : restS L vol fl A ≤ sumN L (fun b => leftF vol fl b) := sumN_le fun b hb => by
  have := h.lf b hb
  split <;> omega
 rw [cap_eq, used_eq (vol := vol) h.dim]; omega
theorem cap_strong (h : FlOk acc P L vol room fl) (hz : ∀ p, p < P → I p = false → ∀ b, b < L → cellZ fl b p = 0) (hs : ∀ p, p < P → I p = true → Shut acc P L vol room fl p) : ∃ A : Nat → Bool, capW acc P L vol room I A = usedS P L fl := by
 obtain ⟨w, -, hI, hX, hR⟩ := reach_ok (acc := acc) (P := P) (vol := vol) (fl := fl) (Nat.le_refl L)
 have h1 := cut_strong (fl_in h hz) (fun p hp => by
  cases hIp : I p with
  | true =>
   rcases hs p hp hIp with h1 | h1
   ·exact .inl h1
   ·exact .inr (by rw [free_in h.dim hp hIp]; exact h1)
  | false => exact .inr (free_no h.dim hp hIp (hz p hp hIp))) hI hX hR
 have h2 : restS L vol fl (hasN w.bs) = sumN L (fun b => leftF vol fl b) := sumN_congr fun b hb => by
  have := h.lf b hb
  by_cases h0 : 0 < leftF vol fl b
  ·rw [hI.start b hb h0, if_pos rfl]
  ·split <;> omega
 exact ⟨hasN w.bs, by rw [cap_eq, used_eq (vol := vol) h.dim]; omega⟩
theorem cap_congr {A A' : Nat → Bool} (h : ∀ b, b < L → A b = A' b) : capW acc P L vol room I A = capW acc P L vol room I A' := by
 have e : ∀ p, openB acc L A p = openB acc L A' p := fun p => by
  rw [openB, openB, Bool.eq_iff_iff, List.any_eq_true, List.any_eq_true]
  constructor <;> rintro ⟨b, hb, h'⟩ <;> refine ⟨b, hb, ?_⟩
  ·rw [← h b (List.mem_range.1 hb)]; exact h'
  ·rw [h b (List.mem_range.1 hb)]; exact h'
 rw [capW, capW, sumN_congr (g := fun b => if A' b = true then 0 else vol.getD b 0) (fun b hb => by rw [h b hb])]
 simp only [e]
theorem cap_nn {A : Nat → Bool} (hv : ∀ b, 0 ≤ vol.getD b 0) (hr : ∀ p, 0 ≤ room.getD p 0) : 0 ≤ capW acc P L vol room I A := by
 have h1 : 0 ≤ sumN L (fun b => if A b = true then 0 else vol.getD b 0) := sumN_nn fun b _ => by
  have := hv b
  split <;> omega
 have h2 : 0 ≤ sumN P (fun p => if openB acc L A p = true ∧ I p = true then room.getD p 0 else 0) := sumN_nn fun p _ => by
  have := hr p
  split <;> omega
 unfold capW; omega
def bestZ (f : Nat → Int) : Nat → Int
 | 0 => -1
 | n + 1 => if bestZ f n < 0 ∨ f n < bestZ f n then f n else bestZ f n
theorem bestZ_ok {f : Nat → Int} (hf : ∀ i, 0 ≤ f i) : ∀ n, (n = 0 ∧ bestZ f n = -1) ∨ ((∃ i, i < n ∧ bestZ f n = f i) ∧ ∀ i, i < n → bestZ f n ≤ f i)
 | 0 => .inl ⟨rfl, rfl⟩
 | n + 1 => by
  refine .inr ?_
  have h0 := hf n
  rcases bestZ_ok hf n with ⟨h1, h2⟩ | ⟨⟨i, hi, h1⟩, h2⟩
  ·subst h1
   rw [bestZ, if_pos (.inl (by omega))]
   exact ⟨⟨0, by omega, rfl⟩, fun i hi => by rw [show i = 0 by omega]; exact Int.le_refl _⟩
  ·have hi0 := hf i
   rw [bestZ]
   split
   ·rename_i hc
    refine ⟨⟨n, by omega, rfl⟩, fun j hj => ?_⟩
    by_cases e : j = n
    ·rw [e]; exact Int.le_refl _
    ·have := h2 j (by omega)
     omega
   ·rename_i hc
    refine ⟨⟨i, by omega, h1⟩, fun j hj => ?_⟩
    by_cases e : j = n
    ·rw [e]; omega
    ·exact h2 j (by omega)
theorem bits_of (A : Nat → Bool) : ∀ n, ∃ s, s < 2 ^ n ∧ ∀ b, b < n → A b = s.testBit b
 | 0 => ⟨0, by decide, fun b hb => absurd hb (by omega)⟩
 | n + 1 => by
  obtain ⟨s, h1, h2⟩ := bits_of A n
  have hp : 2 ^ (n + 1) = 2 ^ n + 2 ^ n := by rw [Nat.pow_succ]; omega
  cases hA : A n with
  | false =>
   refine ⟨s, by omega, fun b hb => ?_⟩
   by_cases e : b = n
   ·rw [e, hA, Nat.testBit_lt_two_pow h1]
   ·exact h2 b (by omega)
  | true =>
   refine ⟨2 ^ n + s, by omega, fun b hb => ?_⟩
   by_cases e : b = n
   ·rw [e, hA, Nat.testBit_two_pow_add_eq, Nat.testBit_lt_two_pow h1]; rfl
   ·rw [Nat.testBit_two_pow_add_gt (by omega)]
    exact h2 b (by omega)
def flowR (acc : Nat → Nat → Bool) (P L : Nat) (vol room : List Int) (I : Nat → Bool) : Int := bestZ (fun s => capW acc P L vol room I s.testBit) (2 ^ L)
theorem flow_used (h : FlOk acc P L vol room fl) (hz : ∀ p, p < P → I p = false → ∀ b, b < L → cellZ fl b p = 0) (hs : ∀ p, p < P → I p = true → Shut acc P L vol room fl p) (hv : ∀ b, 0 ≤ vol.getD b 0) (hr : ∀ p, 0 ≤ room.getD p 0) :
 flowR acc P L vol room I = usedS P L fl := by
 have hp := Nat.two_pow_pos L
 rcases bestZ_ok (f := fun s => capW acc P L vol room I s.testBit) (fun _ => cap_nn hv hr) (2 ^ L) with ⟨h1, -⟩ | ⟨⟨i, hi, e⟩, hmin⟩
 ·omega
 ·obtain ⟨A, hA⟩ := cap_strong h hz hs
  obtain ⟨s, hs', hb⟩ := bits_of A L
  have h1 := hmin s hs'
  rw [← cap_congr hb, hA] at h1
  have h2 := cap_weak h hz i.testBit
  rw [flowR]; omega
/-! Stage by stage. -/
theorem fillF_mono {n pit k : Nat} : ∀ {j : Nat} {fl f : List (List Int)}, k ≤ j → fillF acc P L n vol room pit k fl = some f → fillF acc P L n vol room pit j fl = some f := by
 induction k with
 | zero => intro j fl f _ h; rw [fillF] at h; cases h
 | succ k ih =>
  intro j fl f hj h
  obtain ⟨i, rfl⟩ : ∃ i, j = i + 1 := ⟨j - 1, by omega⟩
  rw [fillF] at h ⊢
  cases hp : pushF acc P L n vol room fl pit with
  | none => rw [hp] at h; cases h
  | some o =>
   rw [hp] at h
   cases o with
   | none => exact h
   | some f' => exact ih (by omega) h
theorem fillsF_mono {n k j : Nat} (hj : k ≤ j) : ∀ {s : List Nat} {fl f : List (List Int)}, fillsF acc P L n k vol room s fl = some f → fillsF acc P L n j vol room s fl = some f
 | [], fl, f, h => by rw [fillsF] at h ⊢; exact h
 | p :: s, fl, f, h => by
  rw [fillsF] at h ⊢
  cases hf : fillF acc P L n vol room p k fl with
  | none => rw [hf] at h; cases h
  | some g =>
   rw [hf] at h
   rw [fillF_mono hj hf]
   exact fillsF_mono hj h
theorem fillsF_app {n j : Nat} {s2 : List Nat} {f1 : List (List Int)} : ∀ {s1 : List Nat} {fl : List (List Int)}, fillsF acc P L n j vol room s1 fl = some f1 → fillsF acc P L n j vol room (s1 ++ s2) fl = fillsF acc P L n j vol room s2 f1
 | [], fl, h => by rw [fillsF] at h; cases h; rfl
 | p :: s1, fl, h => by
  rw [List.cons_append, fillsF]
  rw [fillsF] at h
  cases hf : fillF acc P L n vol room p j fl with
  | none => rw [hf] at h; cases h
  | some f => rw [hf] at h; exact fillsF_app h
theorem fills_split (hv : ∀ b, vol.getD b 0 ≤ 100000000000000000) {n : Nat} (hn : L ≤ n) (hnP : P ≤ n) {s1 s2 : List Nat} {fl' : List (List Int)} (hs : ∀ p ∈ s1 ++ s2, p < P) (h : FlOk acc P L vol room fl)
 (hk : ∃ k, ∀ j, k ≤ j → fillsF acc P L n j vol room (s1 ++ s2) fl = some fl') :
 ∃ f1, FlOk acc P L vol room f1 ∧ (∀ q ∈ s1, Shut acc P L vol room f1 q) ∧ (∀ q, q ∉ s1 → freeF room f1 q = freeF room fl q) ∧ ∀ q, q ∉ s2 → freeF room fl' q = freeF room f1 q := by
 obtain ⟨f1, ⟨k1, a1⟩, a2, a3, a4, -, -⟩ := fills_run hv hn hnP (s := s1) (fun p hp => hs p (List.mem_append_left _ hp)) h
 obtain ⟨f2, ⟨k2, b1⟩, -, -, b4, -, -⟩ := fills_run hv hn hnP (s := s2) (fun p hp => hs p (List.mem_append_right _ hp)) a2
 obtain ⟨k, hk⟩ := hk
 have e : f2 = fl' := by
  have h1 := hk (max k (max k1 k2)) (by omega)
  rw [fillsF_app (a1 _ (by omega)), b1 _ (by omega)] at h1
  exact Option.some.inj h1
 subst e
 exact ⟨f1, a2, fun q hq => a3 q (.inl hq), a4, b4⟩
theorem used_pits (hd : Dim P L fl) : usedS P L fl = sumN P fun p => room.getD p 0 - freeF room fl p := by
 rw [usedS, sumN_swap]
 exact sumN_congr fun p _ => by rw [free_sum hd]; omega
def nextZ (pr : Nat → Int) (I : Nat → Bool) : Nat → Int
 | 0 => -1
 | p + 1 => if I p = false ∧ (nextZ pr I p < 0 ∨ pr p < pr (nextZ pr I p).toNat) then p else nextZ pr I p
theorem nextZ_ok {pr : Nat → Int} : ∀ k, (nextZ pr I k = -1 ∧ ∀ q, q < k → I q = true) ∨ ∃ m : Nat, nextZ pr I k = m ∧ m < k ∧ I m = false ∧ ∀ q, q < k → I q = false → q = m ∨ leP pr m q
 | 0 => .inl ⟨rfl, fun q hq => absurd hq (by omega)⟩
 | k + 1 => by
  rcases nextZ_ok (pr := pr) k with ⟨h1, h2⟩ | ⟨m, h1, h2, h3, h4⟩
  ·cases hk : I k with
   | true =>
    refine .inl ⟨by rw [nextZ, if_neg (fun h => by rw [hk] at h; cases h.1)]; exact h1, fun q hq => ?_⟩
    by_cases e : q = k
    ·rw [e]; exact hk
    ·exact h2 q (by omega)
   | false =>
    refine .inr ⟨k, by rw [nextZ, if_pos ⟨hk, .inl (by omega)⟩], by omega, hk, fun q hq hq0 => ?_⟩
    by_cases e : q = k
    ·exact .inl e
    ·rw [h2 q (by omega)] at hq0; cases hq0
  ·by_cases hc : I k = false ∧ pr k < pr m
   ·refine .inr ⟨k, by rw [nextZ, if_pos ⟨hc.1, .inr (by rw [h1, Int.toNat_natCast]; exact hc.2)⟩], by omega, hc.1, fun q hq hq0 => ?_⟩
    by_cases e : q = k
    ·exact .inl e
    ·rcases h4 q (by omega) hq0 with rfl | h5
     ·exact .inr (.inl hc.2)
     ·unfold leP at *; omega
   ·refine .inr ⟨m, by rw [nextZ, if_neg (fun h => hc ⟨h.1, by have := h.2; rw [h1, Int.toNat_natCast] at this; omega⟩)]; exact h1, by omega, h3, fun q hq hq0 => ?_⟩
    by_cases e : q = k
    ·subst e
     have : ¬ pr q < pr m := fun h => hc ⟨hq0, h⟩
     unfold leP; omega
    ·exact h4 q (by omega) hq0
theorem next_is {pr : Nat → Int} {o : Nat} (ho : o < P) (h0 : I o = false) (h : ∀ q, q < P → I q = false → q = o ∨ leP pr o q) : nextZ pr I P = o := by
 rcases nextZ_ok (pr := pr) (I := I) P with ⟨-, h2⟩ | ⟨m, h1, h2, h3, h4⟩
 ·rw [h2 o ho] at h0; cases h0
 ·rw [h1]
  rcases h4 o ho h0 with e | h5
  ·rw [e]
  ·rcases h m h2 h3 with e | h6
   ·rw [e]
   ·unfold leP at *; omega
end
section
variable {y : Yd} {l : List Bt} {fl : List (List Int)}
def inI (y : Yd) (n : Nat) (p : Nat) : Bool := decide (p ∈ (ordF y).take n)
def fillZ (y : Yd) (fl : List (List Int)) (p : Nat) : Int := (roomF y).getD p 0 - freeF (roomF y) fl p
def flowN (y : Yd) (fl : List (List Int)) (n : Nat) : Int := (((ordF y).take n).map (fillZ y fl)).sum
def costN (y : Yd) (fl : List (List Int)) (n : Nat) : Int := (((ordF y).take n).map fun p => fillZ y fl p * priceF y p).sum
theorem ordF_pm : (ordF y).Perm (List.range y.pits.length) := (List.perm_ext_iff_of_nodup ordF_nodup List.nodup_range).2 fun p => by rw [ordF_mem, List.mem_range]
theorem ordF_len : (ordF y).length = y.pits.length := by rw [ordF_pm.length_eq, List.length_range]
theorem sum_perm {l m : List Int} (h : l.Perm m) : l.sum = m.sum := by
 induction h with
 | nil => rfl
 | cons x _ ih => rw [List.sum_cons, List.sum_cons, ih]
 | swap x z l => simp only [List.sum_cons]; omega
 | trans _ _ h1 h2 => rw [h1, h2]
theorem sum_range {f : Nat → Int} : ∀ n, ((List.range n).map f).sum = sumN n f
 | 0 => rfl
 | n + 1 => by rw [List.range_succ, List.map_append, List.sum_append, sum_range n, sumN]; simp
theorem ord_sum {f : Nat → Int} : ((ordF y).map f).sum = sumN y.pits.length f := by rw [sum_perm (ordF_pm.map f), sum_range]
theorem take_sum {f : Nat → Int} : ∀ {l : List Nat} {P : Nat}, l.Nodup → (∀ p ∈ l, p < P) → (l.map f).sum = sumN P fun p => if p ∈ l then f p else 0
 | [], P, _, _ => by rw [sumN_congr (g := fun _ => 0) (fun p _ => if_neg (by simp)), sumN_zero]; rfl
 | a :: l, P, h, hl => by
  rw [List.nodup_cons] at h
  have ih := take_sum (f := f) (l := l) (P := P) h.2 (fun p hp => hl p (List.mem_cons_of_mem _ hp))
  have e : sumN P (fun p => if p ∈ a :: l then f p else 0) = sumN P (fun p => (if p ∈ l then f p else 0) + if p = a then f a else 0) := sumN_congr fun p _ => by
   by_cases e1 : p = a
   ·subst e1; rw [if_pos List.mem_cons_self, if_neg h.1, if_pos rfl]; omega
   ·rw [if_neg e1]
    by_cases e2 : p ∈ l
    ·rw [if_pos e2, if_pos (List.mem_cons_of_mem _ e2)]; omega
    ·rw [if_neg e2, if_neg (by simp [e1, e2])]; rfl
  rw [List.map_cons, List.sum_cons, ih, e, sumN_add, sumN_hit, if_pos (hl a List.mem_cons_self)]; omega
theorem ord_at {n : Nat} (hn : n < y.pits.length) : ∃ o, (ordF y)[n]? = some o ∧ o < y.pits.length ∧ nextZ (priceF y) (inI y n) y.pits.length = o := by
 obtain ⟨o, ho⟩ := some_of_lt (show n < (ordF y).length by rw [ordF_len]; exact hn)
 have hol := ordF_mem.1 (List.mem_of_getElem? ho)
 refine ⟨o, ho, hol, next_is hol ?_ fun q hq hq0 => ?_⟩
 ·rw [inI, decide_eq_false_iff_not]
  intro hm
  obtain ⟨i, hi, e⟩ := List.mem_take_iff_getElem.1 hm
  obtain ⟨hn', e'⟩ := List.getElem?_eq_some_iff.1 ho
  have := (List.getElem_inj ordF_nodup).1 (e.trans e'.symm)
  omega
 ·rw [inI, decide_eq_false_iff_not] at hq0
  obtain ⟨i, hi⟩ := List.getElem?_of_mem (ordF_mem.2 hq)
  obtain ⟨hi', ei⟩ := List.getElem?_eq_some_iff.1 hi
  obtain ⟨hn', en⟩ := List.getElem?_eq_some_iff.1 ho
  have hin : n ≤ i := by
   refine Classical.byContradiction fun h => hq0 (List.mem_take_iff_getElem.2 ⟨i, by omega, ei⟩)
  by_cases e : i = n
  ·subst e; left; rw [← ei, ← en]
  ·right
   have := List.pairwise_iff_getElem.1 (ordF_asc (y := y)) n i hn' hi' (by omega)
   rwa [ei, en] at this
theorem inI_succ {n o : Nat} (h : (ordF y)[n]? = some o) (p : Nat) : inI y (n + 1) p = (inI y n p || p == o) := by
 rw [inI, inI, take_snoc h]
 by_cases e : p = o <;> simp [e]
theorem flowN_succ {n o : Nat} (h : (ordF y)[n]? = some o) : flowN y fl (n + 1) = flowN y fl n + fillZ y fl o := by
 rw [flowN, flowN, take_snoc h, List.map_append, List.sum_append]; simp
theorem costN_succ {n o : Nat} (h : (ordF y)[n]? = some o) : costN y fl (n + 1) = costN y fl n + fillZ y fl o * priceF y o := by
 rw [costN, costN, take_snoc h, List.map_append, List.sum_append]; simp
theorem lst_flow (h : LsOk y l) {k : Nat} (hk : fillsF (accF y l) y.pits.length l.length 20 k (volF y l) (roomF y) (ordF y) (flow0 y l) = some fl) (n : Nat) :
 flowR (accF y l) y.pits.length l.length (volF y l) (roomF y) (inI y n) = flowN y fl n := by
 have hy := yd_ok h.yd
 have hP := hy.pits
 have hL := h.len
 have hv : ∀ b, (volF y l).getD b 0 ≤ 100000000000000000 := fun b => by have := vol_bd h b; omega
 have hap : (ordF y).take n ++ (ordF y).drop n = ordF y := List.take_append_drop n _
 obtain ⟨f1, g1, g2, g3, g4⟩ := fills_split hv (n := 20) (by omega) (by omega) (s1 := (ordF y).take n) (s2 := (ordF y).drop n) (fun p hp => by rw [hap] at hp; exact ordF_mem.1 hp) (fl_flow0 h) ⟨k, fun j hj => by rw [hap]; exact fillsF_mono hj hk⟩
 have hz : ∀ p, p < y.pits.length → inI y n p = false → ∀ b, b < l.length → cellZ f1 b p = 0 := fun p _ hI => zero_of_free g1 (by
  rw [inI, decide_eq_false_iff_not] at hI
  rw [g3 p hI]; exact free_flow0)
 have hnd := ordF_nodup (y := y)
 rw [← hap, List.nodup_append] at hnd
 rw [flow_used g1 hz (fun p _ hI => g2 p (by simpa [inI] using hI)) (fun b => (vol_bd h b).1) (fun p => (room_bd hy p).1), used_pits (room := roomF y) g1.dim, flowN,
  take_sum (P := y.pits.length) hnd.1 (fun p hp => ordF_mem.1 (List.mem_of_mem_take hp))]
 refine sumN_congr fun p _ => ?_
 by_cases hm : p ∈ (ordF y).take n
 ·rw [if_pos hm, fillZ, g4 p (fun hd => hnd.2.2 p hm p hd rfl)]
 ·rw [if_neg hm, g3 p hm, free_flow0]; omega
theorem take_all {n : Nat} (hn : n = y.pits.length) : (ordF y).take n = ordF y := List.take_of_length_le (by rw [ordF_len]; omega)
theorem lst_done (hf : FlOk (accF y l) y.pits.length l.length (volF y l) (roomF y) fl) (hv : (volF y l).length = l.length) : (volF y l).sum = flowN y fl y.pits.length ↔ doneF l.length (volF y l) fl = true := by
 have e1 : flowN y fl y.pits.length = sumN l.length (fun b => (volF y l).getD b 0) - sumN l.length (fun b => leftF (volF y l) fl b) := by
  rw [flowN, take_all rfl, ord_sum, ← used_eq hf.dim, used_pits (room := roomF y) hf.dim]; rfl
 have e2 : (volF y l).sum = sumN l.length fun b => (volF y l).getD b 0 := by rw [sum_sumN, hv]
 have e3 := sumN_nn (f := leftF (volF y l) fl) (n := l.length) hf.lf
 rw [e1, e2, done_iff]
 have e4 : sumN l.length (fun b => leftF (volF y l) fl b) = sumN l.length (leftF (volF y l) fl) := rfl
 rw [e4]
 constructor
 ·intro h b hb
  have := sumN_one (f := leftF (volF y l) fl) (n := l.length) (i := b) hf.lf hb
  omega
 ·intro h
  have : sumN l.length (leftF (volF y l) fl) = 0 := (sumN_congr fun b hb => by
   have h1 := h b hb
   have h2 := hf.lf b hb
   show leftF (volF y l) fl b = 0
   omega).trans sumN_zero
  omega
theorem lst_cost (h : ydErr y = 0) (hf : FlOk (accF y l) y.pits.length l.length (volF y l) (roomF y) fl) : costN y fl y.pits.length = costF y (allF y l fl l.length) := by
 rw [costN, take_all rfl, ord_sum, cost_pits h hf.nn hf.dim (room := roomF y)]; rfl
end
end Go.Proofs.Tryz
end

section
namespace Go.Proofs.Tryz
open Go Go.Vm
set_option maxRecDepth 20000
section
variable {acc : Nat → Nat → Bool} {P L : Nat} {pr : Nat → Int} {bs ps : List Int}
end
theorem asg_ra {y : Yd} {l : List Bt} (h : LsOk y l) (x : List Al) : asgB (accF y l) (atI l) (pitI y) (volF y l) (roomF y) x = raB (accF y l) (atI l) (pitI y) y.pits.length (volF y l) (roomF y) x := by
 have hy := yd_ok h.yd
 have e1 : (volF y l).length = l.length := (volsGo_spec h.wok ⟨hy.carL, hy.car⟩).1
 have e2 : (roomF y).length = y.pits.length := by rw [roomF, List.length_map]
 rw [Bool.eq_iff_iff, asgB_chr (P := y.pits.length) (L := l.length) atI_ok.lt (fun s => pitI_lt s) e1 e2 (fun p _ => (room_bd hy p).1), raB_chr (L := l.length) at_inj atI_ok.lt (fun s => pitI_lt s) e1 e2]
theorem asg_chr9 {y : Yd} {l : List Bt} (h : LsOk y l) (x : List Al) : asgB (accF y l) (atI l) (pitI y) (volF y l) (roomF y) x = true ↔ Chr (accF y l) (atI l) (pitI y) y.pits.length l.length (fun b => (volF y l).getD b 0) (fun p => (roomF y).getD p 0) [] x := by
 have hy := yd_ok h.yd
 exact asgB_chr (P := y.pits.length) (L := l.length) atI_ok.lt (fun s => pitI_lt s) (volsGo_spec h.wok ⟨hy.carL, hy.car⟩).1 (by rw [roomF, List.length_map]) (fun p _ => (room_bd hy p).1) x
section
variable {y : Yd} {l : List Bt} {fl : List (List Int)} {t : Tf}
end
end Go.Proofs.Tryz
end

section
namespace Go.Proofs.Tryz
open Go Go.Vm
set_option maxRecDepth 20000
set_option maxHeartbeats 8000000
theorem xv_Volumes (y : Yd) (l : List Bt) (c : List Int) (hb : y.bulk.length ≤ 1000) (hl : l.length ≤ 100000) (hw : ∀ b ∈ l, ∃ k f z, Wok y b k f z) (hc : CarOk y c) :
 EvX Tryz.prog 40 [.d (ydD y), .d (.sl 5 (l.map btD)), .d (.sl 1 (c.map iD))] [] (.own 9 1 ((volsGo y c l).map iD).length) [(9, .row 3 1 ((volsGo y c l).map iD) false)] := by
 have hll : (l.map btD).length = l.length := List.length_map _
 have hcl := hc.len
 have hX := EvX.new1 (xs := [.sl 1 (c.map iD)]) (xv_CopyInts9 c (by omega)) 13
 generalize hV : volsGo y c l = V
 refine evx_of_awp tysOk mixed (fn := Tryz.f40) Tryz.func40 rfl rfl rfl ?_
 conv => whnf
 repeat' (first|((with_reducible refine AltK.r ?_);(conv=>whnf);(first|(refine CallX.mk _ _ (hX) rfl ?_));conv=>whnf)|fail)
 refine LoopK.o2 (fun x : Nat × List Int × List Int => x.1 ≤ l.length ∧ V = x.2.2 ++ volsGo y x.2.1 (l.drop x.1) ∧ x.2.2.length = x.1 ∧ CarOk y x.2.1) (fun x => [(8, .d (iD x.1)), (7, .own 200 1 (x.2.2.map iD).length)])
  (fun x => [(200, .row 3 1 (x.2.2.map iD) false), (13, .row 3 1 (x.2.1.map iD) false)]) (fun x => l.length - x.1) (0, c, []) ⟨by omega, hV.symm, rfl, hc⟩ (by refine ⟨?_, ?_, rfl⟩<;>(repeat' (first|exact True.intro|exact rfl|(refine ⟨?_,?_⟩)|(intro h;cases h;done)|fail));done) ?_
 rintro ⟨i, c', pre⟩ ⟨hi, hv, hpl, hc'⟩
 dsimp only at hi hv hpl hc' ⊢
 have hcl' := hc'.len
 have hpm : (pre.map iD).length = pre.length := List.length_map _
 have hcm : (c'.map iD).length = c'.length := List.length_map _
 by_cases hil : i < l.length
 ·obtain ⟨b, hbt⟩ := some_of_lt hil
  obtain ⟨k, f, z0, hW⟩ := hw b (List.mem_of_getElem? hbt)
  have hkl := lt_of_some hW.fat
  obtain ⟨z, hz⟩ := some_of_lt (show k < c'.length by rw [hcl']; exact hkl)
  have hzb := hc'.at_ k f z hW.fat hz
  have ek : (facI y b.soil).toNat = k := by rw [hW.ixk]; rfl
  have ef : bkAt y k = f := by rw [bkAt, List.getD, hW.fat]; rfl
  have ec : c'.getD k 0 = z := by rw [List.getD, hz]; rfl
  rw [drop_of hbt, volsGo, ek, ef, ec] at hv
  have hcar := carN_bd (b := b) (f := f) (c := z) hW.bok hW.fo hzb
  have w1 : Ev Tryz.prog 77 [.sl 3 (y.bulk.map bkD), .str b.soil] (iD (facI y b.soil)) := ev_Factor9 y.bulk b.soil (by omega)
  rw [hW.ixk] at w1
  have w2 := ev_Bulked9c hW hzb
  generalize volN b f z = v at *
  generalize carN b f z = cn at *
  have hmp1 : (c'.map iD).set (k : Int).toNat (iD cn) = (c'.set k cn).map iD := by rw [Int.toNat_natCast, List.map_set]
  conv => whnf
  repeat' (first|((refine PickE.map k hz (by omega) ?_);conv=>whnf)|((refine PickE.map i hbt (by omega) ?_);conv=>whnf)|((with_reducible refine Split.dec (fun _=>?_) (fun _=>?_))<;>conv=>whnf)|((with_reducible refine Need.mk ?_ ?_);(first|omega|rfl|decide|(refine ⟨?_,?_⟩<;>simp<;>omega)|(simp;omega));conv=>whnf)|((with_reducible refine Wr.inr ?_ ?_);(first|omega|(simp;omega));conv=>whnf)|((with_reducible refine AltK.l ?_);(conv=>whnf);(first|(refine CallK.mk _ (w1) ?_)|(refine CallK.mk _ (w2) ?_));conv=>whnf)|(exfalso;first|omega|contradiction)|fail)
  refine Again.au (i + 1, c'.set k cn, pre ++ [v]) ⟨by dsimp only; omega, by rw [hv]; simp, by simp only [List.length_append, List.length_singleton]; omega, hc'.set hW.fat hcar⟩ (by dsimp only; omega) ?_
  dsimp only
  exact (by refine ⟨?_, ?_, rfl⟩<;>(repeat' (first|exact True.intro|exact rfl|(refine ⟨?_,?_⟩)|(intro h;cases h;done)|exact map_snoc|(refine own_congr ?_;simp;done)|(simp;done)|fail));done)
 ·have hie : i = l.length := by omega
  subst hie
  rw [List.drop_length, volsGo, List.append_nil] at hv
  rw [hv]
  conv => whnf
  repeat' (first|((with_reducible refine Split.dec (fun _=>?_) (fun _=>?_))<;>conv=>whnf)|((with_reducible refine Need.mk ?_ ?_);(first|omega|rfl|decide|(refine ⟨?_,?_⟩<;>simp<;>omega)|(simp;omega));conv=>whnf)|(exfalso;first|omega|contradiction)|fail)
  exact ⟨⟨[(9, some 200)], (by refine ⟨?_, ?_, rfl⟩<;>(repeat' (first|exact True.intro|exact rfl|(refine ⟨?_,?_⟩)|(intro h;cases h;done)|fail));done)⟩, rfl⟩
theorem raGo_at {acc : Nat → Nat → Bool} {ib : Int → Int} {ip : ByteArray → Int} {v tk : List Int} {x : List Al} {i : Nat} {a : Al} (h : x[i]? = some a) : raGo acc ib ip v tk (x.take i) (x.drop i) =
 if ib a.n < 0 ∨ ip a.pit < 0 then none
 else if acc (ip a.pit).toNat (ib a.n).toNat = false then none
 else if a.vol < 1 ∨ v.getD (ib a.n).toNat 0 < a.vol then none
 else if (x.take i).any (fun x => x.n == a.n && sEq x.pit a.pit) = true then none
 else raGo acc ib ip (v.set (ib a.n).toNat (v.getD (ib a.n).toNat 0 - a.vol)) (tk.set (ip a.pit).toNat (tk.getD (ip a.pit).toNat 0 + a.vol)) (x.take (i + 1)) (x.drop (i + 1)) := by
 rw [drop_of h, raGo, take_snoc h]
theorem any_no9 {α : Type} {p : α → Bool} {l : List α} (h : ∀ c ∈ l, p c = false) : ¬ l.any p = true := by
 rw [Bool.not_eq_true, List.any_eq_false]
 intro c hc
 rw [h c hc]; decide
theorem ev_Assigned9 {y : Yd} {l : List Bt} (hO : LsOk y l) (hcl : ∀ p ∈ y.pits, p.cls.length ≤ 1000000) (x : List Al) (hn : x.length ≤ 200) :
 Ev Tryz.prog 24 [ydD y, .sl 5 (l.map btD), .sl 3 (x.map alD)] (.bool (raB (accF y l) (atI l) (pitI y) y.pits.length (volF y l) (roomF y) x)) := by
 have hy := yd_ok hO.yd
 have hlen := hO.len
 have hP8 := hy.pits
 have hb20 := hy.bulk
 have hlp : (y.pits.map ptD).length = y.pits.length := List.length_map _
 have hll : (l.map btD).length = l.length := List.length_map _
 have hlx : (x.map alD).length = x.length := List.length_map _
 have hV := EvX.new1 (xs := [ydD y, .sl 5 (l.map btD), .sl 1 (y.carry.map iD)]) (xv_Volumes y l y.carry (by omega) (by omega) hO.wok ⟨hy.carL, hy.car⟩) 19
 obtain ⟨hvl, hvb⟩ := volsGo_spec hO.wok ⟨hy.carL, hy.car⟩
 have hro : ∀ p, (h : p < y.pits.length) → Ev Tryz.prog 43 [ydD y, iD p] (iD ((roomF y).getD p 0)) := fun p h => by
  obtain ⟨q, hq⟩ := some_of_lt h
  have h1 := ev_Room9 y hq (hy.pit q (List.mem_of_getElem? hq)).1 hy.vol (by have := hy.deps; omega)
  have e : (roomF y).getD p 0 = roomS y q := by rw [roomF, List.getD, List.getElem?_map, hq]; rfl
  rw [e]; exact h1
 have hrb := room_bd hy
 rw [show volsGo y y.carry l = volF y l from rfl] at hV hvl hvb
 generalize volF y l = vol at *
 generalize roomF y = room at *
 have hvm : (vol.map iD).length = vol.length := List.length_map _
 have hres : ∀ r, raGo (accF y l) (atI l) (pitI y) vol (List.replicate y.pits.length 0) [] x = r → raB (accF y l) (atI l) (pitI y) y.pits.length vol room x = match r with
  | none => false
  | some r => (!r.1.any fun z => z != 0) && !(List.range y.pits.length).any fun p => decide (room.getD p 0 < r.2.getD p 0) := fun r hr => by subst hr; rfl
 generalize raB (accF y l) (atI l) (pitI y) y.pits.length vol room x = res at *
 have hrp0 : ∀ q ∈ List.replicate y.pits.length (0 : Int), 0 ≤ q ∧ q ≤ ((0 : Nat) : Int) * 10000000000001000 := fun q hq => by rw [(List.mem_replicate.1 hq).2]; simp
 have hmp0 : List.replicate ((y.pits.map ptD).length : Int).toNat (D.int .i64 0) = (List.replicate y.pits.length (0 : Int)).map iD := by rw [Int.toNat_natCast, List.length_map, List.map_replicate]; rfl
 refine ev_of_awp tysOk mixed (fn := Tryz.f24) Tryz.func24 rfl rfl rfl ?_
 conv => whnf
 repeat' (first|((with_reducible refine Need.mk ?_ ?_);(first|omega|rfl|decide|(refine ⟨?_,?_⟩<;>simp<;>omega)|(simp;omega));conv=>whnf)|((with_reducible refine AltK.r ?_);(conv=>whnf);(first|(refine CallX.mk _ _ (hV) rfl ?_));conv=>whnf)|fail)
 refine LoopK.o3 (fun z : Nat × List Int × List Int => z.1 ≤ x.length ∧ raGo (accF y l) (atI l) (pitI y) vol (List.replicate y.pits.length 0) [] x = raGo (accF y l) (atI l) (pitI y) z.2.1 z.2.2 (x.take z.1) (x.drop z.1) ∧ z.2.1.length = l.length ∧ z.2.2.length = y.pits.length ∧ (∀ q ∈ z.2.1, 0 ≤ q ∧ q ≤ 10000000000001000) ∧ (∀ q ∈ z.2.2, 0 ≤ q ∧ q ≤ (z.1 : Int) * 10000000000001000))
  (fun z => [(9, .d (iD z.1)), (7, .own 19 1 l.length), (8, .own 23 1 y.pits.length)]) (fun z => [(19, .row 3 1 (z.2.1.map iD) false), (23, .row 3 1 (z.2.2.map iD) false)]) (fun z => x.length - z.1)
  (0, vol, List.replicate y.pits.length 0) ⟨by omega, rfl, hvl, List.length_replicate .., hvb, hrp0⟩ (by refine ⟨?_, ?_, rfl⟩<;>(repeat' (first|exact True.intro|exact rfl|(refine ⟨?_,?_⟩)|(intro h;cases h;done)|(refine own_congr ?_;simp;done)|exact hmp0|((first|refine own_congr ?_|refine int_congr ?_|skip);simp [hvl];done)|fail));done) ?_
 clear hmp0 hrp0
 rintro ⟨i, v, tk⟩ ⟨hi, hgo, hvl', htl, hvb', htb⟩
 dsimp only at hi hgo hvl' htl hvb' htb ⊢
 have hvm' : (v.map iD).length = v.length := List.length_map _
 have htm : (tk.map iD).length = tk.length := List.length_map _
 by_cases hil : i < x.length
 ·obtain ⟨a, ha⟩ := some_of_lt hil
  have hxD : (x.map alD)[(i : Int).toNat]? = some (D.agg [iD a.n, .str a.pit, iD a.vol]) := by rw [Int.toNat_natCast, List.getElem?_map, ha]; rfl
  have w1 := ev_At9 l a.n (by omega)
  have w2 : Ev Tryz.prog 45 [.sl 6 (y.pits.map ptD), .str a.pit] (iD (pitI y a.pit)) := ev_Find9 y.pits a.pit (by omega)
  rw [raGo_at ha] at hgo
  have l1 : atI l a.n < l.length := ix_lt
  have l2 : pitI y a.pit < y.pits.length := ix_lt
  by_cases hc0 : atI l a.n < 0 ∨ pitI y a.pit < 0
  ·rw [if_pos hc0] at hgo
   rw [hres _ hgo]
   clear hgo hres
   generalize atI l a.n = bi at *
   generalize pitI y a.pit = pi at *
   conv => whnf
   repeat' (first|((refine PickE.mk _ hxD ?_);conv=>whnf)|((with_reducible refine Split.of_true ?_);conv=>whnf)|((with_reducible refine Split.dec (fun _=>?_) (fun _=>?_))<;>conv=>whnf)|((with_reducible refine Need.mk ?_ ?_);(first|omega|rfl|decide|(refine ⟨?_,?_⟩<;>simp<;>omega)|(simp;omega));conv=>whnf)|((with_reducible refine AltK.l ?_);(conv=>whnf);(first|(refine CallK.mk _ (w1) ?_)|(refine CallK.mk _ (w2) ?_));conv=>whnf)|(exfalso;first|omega|contradiction)|fail)
   all_goals first
    | rfl
    |(exfalso; omega)
  rw [if_neg hc0] at hgo
  obtain ⟨b, hb⟩ : ∃ b : Nat, atI l a.n = b := ⟨(atI l a.n).toNat, by omega⟩
  obtain ⟨p, hp⟩ : ∃ p : Nat, pitI y a.pit = p := ⟨(pitI y a.pit).toNat, by omega⟩
  rw [hb, hp] at hgo hc0
  rw [hb] at w1 l1
  rw [hp] at w2 l2
  simp only [Int.toNat_natCast] at hgo
  clear hb hp
  obtain ⟨q, hq⟩ := some_of_lt (show p < y.pits.length by omega)
  obtain ⟨bt, hbt⟩ := some_of_lt (show b < l.length by omega)
  have w3 := ev_Accepts9 q bt.cls (hcl q (List.mem_of_getElem? hq))
  have eA : accF y l p b = accB q bt.cls := by rw [accF, hq, hbt]
  rw [eA] at hgo
  obtain ⟨vb, hvb1⟩ := some_of_lt (show b < v.length by omega)
  obtain ⟨tp, htp1⟩ := some_of_lt (show p < tk.length by omega)
  have k1 := hvb' vb (List.mem_of_getElem? hvb1)
  have k2 := htb tp (List.mem_of_getElem? htp1)
  rw [show v.getD b 0 = vb by rw [List.getD, hvb1]; rfl, show tk.getD p 0 = tp by rw [List.getD, htp1]; rfl] at hgo
  cases hac : accB q bt.cls with
  | false =>
   rw [hac, if_pos rfl] at hgo
   rw [hac] at w3
   rw [hres _ hgo]
   clear hgo hres
   conv => whnf
   repeat' (first|((refine PickE.map b hbt (by omega) ?_);conv=>whnf)|((refine PickE.map p hq (by omega) ?_);conv=>whnf)|((refine PickE.mk _ hxD ?_);conv=>whnf)|((with_reducible first|refine Split.of_true ?_|refine Split.of_false ?_);conv=>whnf)|(with_reducible refine Split.neg ?_)|((with_reducible refine Split.dec (fun _=>?_) (fun _=>?_))<;>conv=>whnf)|((with_reducible refine Need.mk ?_ ?_);(first|omega|rfl|decide|(refine ⟨?_,?_⟩<;>simp<;>omega)|(simp;omega));conv=>whnf)|((with_reducible refine AltK.l ?_);(conv=>whnf);(first|(refine CallK.mk _ (w1) ?_)|(refine CallK.mk _ (w2) ?_)|(refine CallK.mk _ (w3) ?_));conv=>whnf)|(exfalso;first|omega|contradiction)|fail)
   all_goals first
    | rfl
    |(exfalso; omega)
  | true =>
  rw [hac, if_neg (by decide)] at hgo
  rw [hac] at w3
  by_cases hbig : a.vol < 1 ∨ vb < a.vol
  ·rw [if_pos hbig] at hgo
   rw [hres _ hgo]
   clear hgo hres
   conv => whnf
   repeat' (first|((refine PickE.map b hvb1 (by omega) ?_);conv=>whnf)|((refine PickE.map b hbt (by omega) ?_);conv=>whnf)|((refine PickE.map p hq (by omega) ?_);conv=>whnf)|((refine PickE.mk _ hxD ?_);conv=>whnf)|((with_reducible refine Split.of_true ?_);conv=>whnf)|(with_reducible refine Split.neg ?_)|((with_reducible refine Split.dec (fun _=>?_) (fun _=>?_))<;>conv=>whnf)|((with_reducible refine Need.mk ?_ ?_);(first|omega|rfl|decide|(refine ⟨?_,?_⟩<;>simp<;>omega)|(simp;omega));conv=>whnf)|((with_reducible refine AltK.l ?_);(conv=>whnf);(first|(refine CallK.mk _ (w1) ?_)|(refine CallK.mk _ (w2) ?_)|(refine CallK.mk _ (w3) ?_));conv=>whnf)|(exfalso;first|omega|contradiction)|fail)
   all_goals first
    | rfl
    |(exfalso; omega)
  rw [if_neg hbig] at hgo
  conv => whnf
  repeat' (first|((refine PickE.map b hvb1 (by omega) ?_);conv=>whnf)|((refine PickE.map b hbt (by omega) ?_);conv=>whnf)|((refine PickE.map p hq (by omega) ?_);conv=>whnf)|((refine PickE.mk _ hxD ?_);conv=>whnf)|((with_reducible refine Split.of_true ?_);conv=>whnf)|(with_reducible refine Split.neg ?_)|((with_reducible refine Split.dec (fun _=>?_) (fun _=>?_))<;>conv=>whnf)|((with_reducible refine Need.mk ?_ ?_);(first|omega|rfl|decide|(refine ⟨?_,?_⟩<;>simp<;>omega)|(simp;omega));conv=>whnf)|((with_reducible refine AltK.l ?_);(conv=>whnf);(first|(refine CallK.mk _ (w1) ?_)|(refine CallK.mk _ (w2) ?_)|(refine CallK.mk _ (w3) ?_));conv=>whnf)|(exfalso;first|omega|contradiction)|fail)
  all_goals first
   |(exfalso; omega)
   | skip
  refine LoopK.o3 (fun j : Nat => j ≤ i ∧ ∀ c ∈ x.take j, (c.n == a.n && sEq c.pit a.pit) = false) (fun j => [(12, .d (iD j))]) (fun _ => []) (fun j => i - j) 0 ⟨by omega, by simp⟩ (by refine ⟨?_, ?_, rfl⟩<;>(repeat' (first|exact True.intro|exact rfl|(refine ⟨?_,?_⟩)|(intro h;cases h;done)|fail));done) ?_
  rintro j ⟨hj, hjn⟩
  by_cases hjl : j < i
  ·obtain ⟨c, hc⟩ := some_of_lt (show j < x.length by omega)
   have hcD : (x.map alD)[(j : Int).toNat]? = some (D.agg [iD c.n, .str c.pit, iD c.vol]) := by rw [Int.toNat_natCast, List.getElem?_map, hc]; rfl
   have hcm : c ∈ x.take i := List.mem_take_iff_getElem.2 ⟨j, by omega, (List.getElem?_eq_some_iff.1 hc).2⟩
   by_cases hce : c.n = a.n ∧ c.pit = a.pit
   ·have hin : (x.take i).any (fun x => x.n == a.n && sEq x.pit a.pit) = true := List.any_eq_true.2 ⟨c, hcm, by rw [hce.1, hce.2, sEq_self]; simp⟩
    rw [if_pos hin] at hgo
    rw [hres _ hgo]
    clear hgo hres
    obtain ⟨h3, h4⟩ := hce
    conv => whnf
    repeat' (first|((refine PickE.mk _ hxD ?_);conv=>whnf)|((refine PickE.mk _ hcD ?_);conv=>whnf)|((with_reducible refine Split.of_false ?_);conv=>whnf)|((with_reducible refine Split.eqz (fun _=>?_) (fun _=>?_))<;>conv=>whnf)|((with_reducible refine Split.streq (fun _=>?_) (fun _=>?_))<;>conv=>whnf)|((with_reducible refine Split.dec (fun _=>?_) (fun _=>?_))<;>conv=>whnf)|((with_reducible refine Need.mk ?_ ?_);(first|omega|rfl|decide|(refine ⟨?_,?_⟩<;>simp<;>omega)|(simp;omega));conv=>whnf)|((with_reducible refine Wr.inr ?_ ?_);(first|omega|(simp;omega));conv=>whnf)|(exfalso;first|omega|contradiction)|fail)
    all_goals first
     | rfl
     | contradiction
     |(exfalso; omega)
   ·have hcf : (c.n == a.n && sEq c.pit a.pit) = false := by
     by_cases h3 : c.n = a.n
     ·rw [sEq_ne (fun h => hce ⟨h3, h⟩), Bool.and_false]
     ·rw [show (c.n == a.n) = false by simpa using h3, Bool.false_and]
    conv => whnf
    repeat' (first|((refine PickE.mk _ hxD ?_);conv=>whnf)|((refine PickE.mk _ hcD ?_);conv=>whnf)|((with_reducible refine Split.of_false ?_);conv=>whnf)|((with_reducible refine Split.eqz (fun _=>?_) (fun _=>?_))<;>conv=>whnf)|((with_reducible refine Split.streq (fun _=>?_) (fun _=>?_))<;>conv=>whnf)|((with_reducible refine Split.dec (fun _=>?_) (fun _=>?_))<;>conv=>whnf)|((with_reducible refine Need.mk ?_ ?_);(first|omega|rfl|decide|(refine ⟨?_,?_⟩<;>simp<;>omega)|(simp;omega));conv=>whnf)|((with_reducible refine Wr.inr ?_ ?_);(first|omega|(simp;omega));conv=>whnf)|(exfalso;first|omega|contradiction)|fail)
    all_goals first
     |(exfalso; exact hce ⟨by assumption, by assumption⟩)
     | skip
    all_goals refine Again.av (j + 1) ⟨by omega, fun z hz => ?_⟩ (by omega) (by refine ⟨?_, ?_, rfl⟩<;>(repeat' (first|exact True.intro|exact rfl|(refine ⟨?_,?_⟩)|(intro h;cases h;done)|fail));done)
    all_goals
     rw [take_snoc hc] at hz
     rcases List.mem_append.1 hz with hz | hz
     ·exact hjn z hz
     ·rw [List.mem_singleton.1 hz]; exact hcf
  ·have hje : j = i := by omega
   subst hje
   rw [if_neg (any_no9 hjn)] at hgo
   have hmp2 : (v.map iD).set (b : Int).toNat (iD (vb - a.vol)) = (v.set b (vb - a.vol)).map iD := by rw [Int.toNat_natCast, List.map_set]
   have hmp3 : (tk.map iD).set (p : Int).toNat (iD (tp + a.vol)) = (tk.set p (tp + a.vol)).map iD := by rw [Int.toNat_natCast, List.map_set]
   conv => whnf
   repeat' (first|((refine PickE.map p htp1 (by omega) ?_);conv=>whnf)|((refine PickE.map b hvb1 (by omega) ?_);conv=>whnf)|((refine PickE.mk _ hxD ?_);conv=>whnf)|((with_reducible refine Split.of_false ?_);conv=>whnf)|((with_reducible refine Split.eqz (fun _=>?_) (fun _=>?_))<;>conv=>whnf)|((with_reducible refine Split.streq (fun _=>?_) (fun _=>?_))<;>conv=>whnf)|((with_reducible refine Split.dec (fun _=>?_) (fun _=>?_))<;>conv=>whnf)|((with_reducible refine Need.mk ?_ ?_);(first|omega|rfl|decide|(refine ⟨?_,?_⟩<;>simp<;>omega)|(simp;omega));conv=>whnf)|((with_reducible refine Wr.inr ?_ ?_);(first|omega|(simp;omega));conv=>whnf)|(exfalso;first|omega|contradiction)|fail)
   all_goals first
    |(exfalso; omega)
    | skip
   refine Again.av (j + 1, v.set b (vb - a.vol), tk.set p (tp + a.vol)) ⟨by dsimp only;omega, hgo, by rw [List.length_set];exact hvl', by rw [List.length_set];exact htl, fun q hq => ?_, fun q hq => ?_⟩ (by dsimp only;omega) (by refine ⟨?_, ?_, rfl⟩<;>(repeat' (first|exact True.intro|exact rfl|(refine ⟨?_,?_⟩)|(intro h;cases h;done)|exact hmp2|exact hmp3|fail));done)
   ·rcases List.mem_or_eq_of_mem_set hq with h1 | h1
    ·exact hvb' q h1
    ·omega
   ·dsimp only
    rcases List.mem_or_eq_of_mem_set hq with h1 | h1
    ·have := htb q h1; omega
    ·omega
 ·rw [List.drop_eq_nil_of_le (show x.length ≤ i by omega), raGo] at hgo
  rw [hres _ hgo]
  clear hgo hres
  dsimp only
  conv => whnf
  repeat' (first|((with_reducible refine Split.dec (fun _=>?_) (fun _=>?_))<;>conv=>whnf)|((with_reducible refine Need.mk ?_ ?_);(first|omega|rfl|decide|(refine ⟨?_,?_⟩<;>simp<;>omega)|(simp;omega));conv=>whnf)|(exfalso;first|omega|contradiction)|fail)
  refine LoopK.o3 (fun j : Nat => j ≤ v.length ∧ ∀ c ∈ v.take j, (c != 0) = false) (fun j => [(13, .d (iD j))]) (fun _ => []) (fun j => v.length - j) 0 ⟨by omega, by simp⟩ (by refine ⟨?_, ?_, rfl⟩<;>(repeat' (first|exact True.intro|exact rfl|(refine ⟨?_,?_⟩)|(intro h;cases h;done)|fail));done) ?_
  rintro j ⟨hj, hjn⟩
  by_cases hjl : j < v.length
  ·obtain ⟨c, hc⟩ := some_of_lt hjl
   by_cases hc0 : c = 0
   ·subst hc0
    conv => whnf
    repeat' (first|((refine PickE.map j hc (by omega) ?_);conv=>whnf)|((with_reducible refine Split.is_false ?_ ?_);decide;conv=>whnf)|((with_reducible refine Split.dec (fun _=>?_) (fun _=>?_))<;>conv=>whnf)|((with_reducible refine Need.mk ?_ ?_);(first|omega|rfl|decide|(refine ⟨?_,?_⟩<;>simp<;>omega)|(simp;omega));conv=>whnf)|((with_reducible refine Wr.inr ?_ ?_);(first|omega|(simp;omega));conv=>whnf)|(exfalso;first|omega|contradiction)|fail)
    all_goals first
     |(exfalso; omega)
     | skip
    refine Again.av (j + 1) ⟨by omega, fun z hz => ?_⟩ (by omega) (by refine ⟨?_, ?_, rfl⟩<;>(repeat' (first|exact True.intro|exact rfl|(refine ⟨?_,?_⟩)|(intro h;cases h;done)|fail));done)
    rw [take_snoc hc] at hz
    rcases List.mem_append.1 hz with hz | hz
    ·exact hjn z hz
    ·rw [List.mem_singleton.1 hz]; rfl
   ·have : (v.any fun z => z != 0) = true := List.any_eq_true.2 ⟨c, List.mem_of_getElem? hc, by simpa using hc0⟩
    rw [this, Bool.not_true, Bool.false_and]
    conv => whnf
    repeat' (first|((refine PickE.map j hc (by omega) ?_);conv=>whnf)|((with_reducible refine Split.nez (fun _=>?_) (fun _=>?_))<;>conv=>whnf)|((with_reducible refine Split.dec (fun _=>?_) (fun _=>?_))<;>conv=>whnf)|((with_reducible refine Need.mk ?_ ?_);(first|omega|rfl|decide|(refine ⟨?_,?_⟩<;>simp<;>omega)|(simp;omega));conv=>whnf)|((with_reducible refine Wr.inr ?_ ?_);(first|omega|(simp;omega));conv=>whnf)|(exfalso;first|omega|contradiction)|fail)
    all_goals first
     | rfl
     |(exfalso; omega)
  ·rw [List.take_of_length_le (show v.length ≤ j by omega)] at hjn
   rw [show (v.any fun z => z != 0) = false from by simpa using any_no9 hjn, Bool.not_false, Bool.true_and]
   conv => whnf
   repeat' (first|((with_reducible refine Split.dec (fun _=>?_) (fun _=>?_))<;>conv=>whnf)|((with_reducible refine Need.mk ?_ ?_);(first|omega|rfl|decide|(refine ⟨?_,?_⟩<;>simp<;>omega)|(simp;omega));conv=>whnf)|(exfalso;first|omega|contradiction)|fail)
   refine LoopK.o3 (fun p : Nat => p ≤ y.pits.length ∧ ∀ c ∈ (List.range y.pits.length).take p, decide (room.getD c 0 < tk.getD c 0) = false) (fun j => [(14, .d (iD j))]) (fun _ => []) (fun j => y.pits.length - j) 0 ⟨by omega, by simp⟩ (by refine ⟨?_, ?_, rfl⟩<;>(repeat' (first|exact True.intro|exact rfl|(refine ⟨?_,?_⟩)|(intro h;cases h;done)|fail));done) ?_
   rintro p ⟨hp, hpn⟩
   by_cases hpl : p < y.pits.length
   ·obtain ⟨c, hc⟩ := some_of_lt (show p < tk.length by omega)
    have w5 := hro p hpl
    have hrp := hrb p
    have hcd : tk.getD p 0 = c := by rw [List.getD, hc]; rfl
    by_cases hb : room.getD p 0 < c
    ·have : ((List.range y.pits.length).any fun p => decide (room.getD p 0 < tk.getD p 0)) = true := List.any_eq_true.2 ⟨p, List.mem_range.2 hpl, by rw [hcd]; simpa using hb⟩
     rw [this]
     generalize room.getD p 0 = rp at *
     conv => whnf
     repeat' (first|((refine PickE.map p hc (by omega) ?_);conv=>whnf)|((with_reducible refine Split.dec (fun _=>?_) (fun _=>?_))<;>conv=>whnf)|((with_reducible refine Need.mk ?_ ?_);(first|omega|rfl|decide|(refine ⟨?_,?_⟩<;>simp<;>omega)|(simp;omega));conv=>whnf)|((with_reducible refine Wr.inr ?_ ?_);(first|omega|(simp;omega));conv=>whnf)|((with_reducible refine AltK.l ?_);(conv=>whnf);(first|(refine CallK.mk _ (w5) ?_));conv=>whnf)|(exfalso;first|omega|contradiction)|fail)
     all_goals first
      | rfl
      |(exfalso; omega)
    ·have hnb : decide (room.getD p 0 < tk.getD p 0) = false := by rw [hcd]; simpa using hb
     have hpr : (List.range y.pits.length)[p]? = some p := List.getElem?_range hpl
     have hsn := take_snoc hpr
     generalize hrpe : room.getD p 0 = rp at *
     conv => whnf
     repeat' (first|((refine PickE.map p hc (by omega) ?_);conv=>whnf)|((with_reducible refine Split.dec (fun _=>?_) (fun _=>?_))<;>conv=>whnf)|((with_reducible refine Need.mk ?_ ?_);(first|omega|rfl|decide|(refine ⟨?_,?_⟩<;>simp<;>omega)|(simp;omega));conv=>whnf)|((with_reducible refine Wr.inr ?_ ?_);(first|omega|(simp;omega));conv=>whnf)|((with_reducible refine AltK.l ?_);(conv=>whnf);(first|(refine CallK.mk _ (w5) ?_));conv=>whnf)|(exfalso;first|omega|contradiction)|fail)
     all_goals first
      |(exfalso; omega)
      | skip
     refine Again.av (p + 1) ⟨by omega, fun z hz => ?_⟩ (by omega) (by refine ⟨?_, ?_, rfl⟩<;>(repeat' (first|exact True.intro|exact rfl|(refine ⟨?_,?_⟩)|(intro h;cases h;done)|fail));done)
     rw [hsn] at hz
     rcases List.mem_append.1 hz with hz | hz
     ·exact hpn z hz
     ·rw [List.mem_singleton.1 hz, hrpe]; exact hnb
   ·rw [List.take_of_length_le (show (List.range y.pits.length).length ≤ p by rw [List.length_range]; omega)] at hpn
    rw [show ((List.range y.pits.length).any fun p => decide (room.getD p 0 < tk.getD p 0)) = false from by simpa only [Bool.not_eq_true] using any_no9 hpn]
    conv => whnf
    repeat' (first|((with_reducible refine Split.dec (fun _=>?_) (fun _=>?_))<;>conv=>whnf)|((with_reducible refine Need.mk ?_ ?_);(first|omega|rfl|decide|(refine ⟨?_,?_⟩<;>simp<;>omega)|(simp;omega));conv=>whnf)|(exfalso;first|omega|contradiction)|fail)
    rfl
end Go.Proofs.Tryz
end

section
namespace Go.Proofs.Tryz
open Go Go.Vm
set_option maxRecDepth 20000
set_option maxHeartbeats 8000000
theorem ev_CheckShares {y : Yd} {l : List Bt} (hs : smallP y) (h0 : lstE y l = 0) (x : List Al) (hn : x.length ≤ 1000) :
 Ev Tryz.prog 23 [ydD y, .sl 5 (l.map btD), .sl 3 (x.map alD)] (iD (if asgB (accF y l) (atI l) (pitI y) (volF y l) (roomF y) x = true then 0 else 21)) := by
 have hO := ls_ok h0
 have hlen := hO.len
 have hB := ev_begin hs (show l.length ≤ 1000000 by omega) h0
 have hA := ev_assigned (tk_ok hs hO) x hn
 have hJ := ev_judged (asgB (accF y l) (atI l) (pitI y) (volF y l) (roomF y) x)
 unfold tkC at hB hA
 generalize asgB (accF y l) (atI l) (pitI y) (volF y l) (roomF y) x = b at *
 refine ev_of_awp tysOk mixed (fn := Tryz.f23) Tryz.func23 rfl rfl rfl ?_
 conv => whnf
 repeat' (first|((with_reducible refine Split.is_false ?_ ?_);decide;conv=>whnf)|((with_reducible refine AltK.l ?_);(conv=>whnf);(first|(refine CallK.mk _ (hB) ?_)|(refine CallK.mk _ (hA) ?_)|(refine CallK.mk _ (hJ) ?_));conv=>whnf)|fail)
 all_goals first
  | rfl
  |(exfalso; omega)
end Go.Proofs.Tryz
end

section
namespace Go.Proofs.Tryz
open Go Go.Vm
set_option maxRecDepth 20000
set_option maxHeartbeats 8000000
theorem ev_ordered {y : Yd} {l : List Bt} {x : List Al} (hl : l.length ≤ 1000000) (hP : y.pits.length ≤ 1000000) (hn : x.length ≤ 1000000) (h : x.Pairwise fun a c => lexL (prL y l a) (prL y l c)) :
 Ev Tryz.prog 16 [ydD y, .sl 5 (l.map btD), .sl 3 (x.map alD)] (.bool true) := by
 have hlp : (y.pits.map ptD).length = y.pits.length := List.length_map _
 have hll : (l.map btD).length = l.length := List.length_map _
 have hlx : (x.map alD).length = x.length := List.length_map _
 refine ev_of_awp tysOk mixed (fn := Tryz.f16) Tryz.func16 rfl rfl rfl ?_
 conv => whnf
 skip
 refine LoopK.o3 (fun i : Nat => 1 ≤ i ∧ (i = 1 ∨ i ≤ x.length)) (fun i => [(7, .d (iD i))]) (fun _ => []) (fun i => x.length + 1 - i) 1 ⟨Nat.le_refl _, .inl rfl⟩ (by refine ⟨?_, ?_, rfl⟩<;>(repeat' (first|exact True.intro|exact rfl|(refine ⟨?_,?_⟩)|(intro h;cases h;done)|fail));done) ?_
 rintro i hi
 by_cases hil : i < x.length ∧ 1 ≤ i
 ·obtain ⟨a, ha⟩ := some_of_lt hil.1
  obtain ⟨c, hc⟩ := some_of_lt (show i - 1 < x.length by omega)
  have haD : (x.map alD)[(i : Int).toNat]? = some (D.agg [iD a.n, .str a.pit, iD a.vol]) := by rw [Int.toNat_natCast, List.getElem?_map, ha]; rfl
  have hcD : (x.map alD)[((i : Int) - 1).toNat]? = some (D.agg [iD c.n, .str c.pit, iD c.vol]) := by rw [show ((i : Int) - 1).toNat = i - 1 by omega, List.getElem?_map, hc]; rfl
  have w1 := ev_At9 l a.n hl
  have w2 := ev_At9 l c.n hl
  have w3 : Ev Tryz.prog 45 [.sl 6 (y.pits.map ptD), .str a.pit] (iD (pitI y a.pit)) := ev_Find9 y.pits a.pit hP
  have w4 : Ev Tryz.prog 45 [.sl 6 (y.pits.map ptD), .str c.pit] (iD (pitI y c.pit)) := ev_Find9 y.pits c.pit hP
  have hlex : lexL (prL y l c) (prL y l a) := by
   obtain ⟨k1, e1⟩ := List.getElem?_eq_some_iff.1 ha
   obtain ⟨k2, e2⟩ := List.getElem?_eq_some_iff.1 hc
   rw [← e1, ← e2]
   exact List.pairwise_iff_getElem.1 h (i - 1) i k2 k1 (by omega)
  unfold lexL prL at hlex
  dsimp only at hlex
  generalize atI l a.n = a1 at *
  generalize atI l c.n = c1 at *
  generalize pitI y a.pit = a2 at *
  generalize pitI y c.pit = c2 at *
  rcases hlex with hlt | ⟨heq, hlt⟩
  ·conv => whnf
   repeat' (first|((refine PickE.mk _ hcD ?_);conv=>whnf)|((refine PickE.mk _ haD ?_);conv=>whnf)|((with_reducible first|refine Split.of_true ?_|refine Split.of_false ?_);conv=>whnf)|((with_reducible refine Split.eqz (fun _=>?_) (fun _=>?_))<;>conv=>whnf)|((with_reducible refine Split.dec (fun _=>?_) (fun _=>?_))<;>conv=>whnf)|((with_reducible refine Need.mk ?_ ?_);(first|omega|rfl|decide|(refine ⟨?_,?_⟩<;>simp<;>omega)|(simp;omega));conv=>whnf)|((with_reducible refine Wr.inr ?_ ?_);(first|omega|(simp;omega));conv=>whnf)|((with_reducible refine AltK.l ?_);(conv=>whnf);(first|(refine CallK.mk _ (w2) ?_)|(refine CallK.mk _ (w1) ?_)|(refine CallK.mk _ (w4) ?_)|(refine CallK.mk _ (w3) ?_));conv=>whnf)|(exfalso;first|omega|contradiction)|fail)
   all_goals first
    |(exfalso; omega)
    | skip
   all_goals exact Again.av (i + 1) (by omega) (by omega) (by refine ⟨?_, ?_, rfl⟩<;>(repeat' (first|exact True.intro|exact rfl|(refine ⟨?_,?_⟩)|(intro h;cases h;done)|fail));done)
  ·subst heq
   conv => whnf
   repeat' (first|((refine PickE.mk _ hcD ?_);conv=>whnf)|((refine PickE.mk _ haD ?_);conv=>whnf)|((with_reducible first|refine Split.of_true ?_|refine Split.of_false ?_);conv=>whnf)|((with_reducible refine Split.eqz (fun _=>?_) (fun _=>?_))<;>conv=>whnf)|((with_reducible refine Split.dec (fun _=>?_) (fun _=>?_))<;>conv=>whnf)|((with_reducible refine Need.mk ?_ ?_);(first|omega|rfl|decide|(refine ⟨?_,?_⟩<;>simp<;>omega)|(simp;omega));conv=>whnf)|((with_reducible refine Wr.inr ?_ ?_);(first|omega|(simp;omega));conv=>whnf)|((with_reducible refine AltK.l ?_);(conv=>whnf);(first|(refine CallK.mk _ (w2) ?_)|(refine CallK.mk _ (w1) ?_)|(refine CallK.mk _ (w4) ?_)|(refine CallK.mk _ (w3) ?_));conv=>whnf)|(exfalso;first|omega|contradiction)|fail)
   all_goals first
    |(exfalso; omega)
    | skip
   all_goals exact Again.av (i + 1) (by omega) (by omega) (by refine ⟨?_, ?_, rfl⟩<;>(repeat' (first|exact True.intro|exact rfl|(refine ⟨?_,?_⟩)|(intro h;cases h;done)|fail));done)
 ·conv => whnf
  repeat' (first|((with_reducible refine Split.dec (fun _=>?_) (fun _=>?_))<;>conv=>whnf)|((with_reducible refine Need.mk ?_ ?_);(first|omega|rfl|decide|(refine ⟨?_,?_⟩<;>simp<;>omega)|(simp;omega));conv=>whnf)|((with_reducible refine Wr.inr ?_ ?_);(first|omega|(simp;omega));conv=>whnf)|(exfalso;first|omega|contradiction)|fail)
  all_goals first
   | rfl
   |(exfalso; omega)
theorem ev_ascending {l : List Int} (hn : l.length ≤ 1000000) (h : l.Pairwise fun a c => a < c) : Ev Tryz.prog 25 [.sl 1 (l.map iD)] (.bool true) := by
 have hll : (l.map iD).length = l.length := List.length_map _
 refine ev_of_awp tysOk mixed (fn := Tryz.f25) Tryz.func25 rfl rfl rfl ?_
 conv => whnf
 skip
 refine LoopK.o3 (fun i : Nat => 1 ≤ i ∧ (i = 1 ∨ i ≤ l.length)) (fun i => [(3, .d (iD i))]) (fun _ => []) (fun i => l.length + 1 - i) 1 ⟨Nat.le_refl _, .inl rfl⟩ (by refine ⟨?_, ?_, rfl⟩<;>(repeat' (first|exact True.intro|exact rfl|(refine ⟨?_,?_⟩)|fail));done) ?_
 rintro i hi
 by_cases hil : i < l.length ∧ 1 ≤ i
 ·obtain ⟨a, ha⟩ := some_of_lt hil.1
  obtain ⟨c, hc⟩ := some_of_lt (show i - 1 < l.length by omega)
  have hlt : c < a := by
   obtain ⟨k1, e1⟩ := List.getElem?_eq_some_iff.1 ha
   obtain ⟨k2, e2⟩ := List.getElem?_eq_some_iff.1 hc
   rw [← e1, ← e2]
   exact List.pairwise_iff_getElem.1 h (i - 1) i k2 k1 (by omega)
  conv => whnf
  repeat' (first|((refine PickE.map (i - 1) hc (by omega) ?_);conv=>whnf)|((refine PickE.map i ha (by omega) ?_);conv=>whnf)|((with_reducible refine Split.dec (fun _=>?_) (fun _=>?_))<;>conv=>whnf)|((with_reducible refine Need.mk ?_ ?_);(first|omega|rfl|decide|(refine ⟨?_,?_⟩<;>simp<;>omega)|(simp;omega));conv=>whnf)|((with_reducible refine Wr.inr ?_ ?_);(first|omega|(simp;omega));conv=>whnf)|(exfalso;first|omega|contradiction)|fail)
  all_goals first
   |(exfalso; omega)
   | skip
  all_goals exact Again.av (i + 1) (by omega) (by omega) (by refine ⟨?_, ?_, rfl⟩<;>(repeat' (first|exact True.intro|exact rfl|(refine ⟨?_,?_⟩)|fail));done)
 ·conv => whnf
  repeat' (first|((with_reducible refine Split.dec (fun _=>?_) (fun _=>?_))<;>conv=>whnf)|((with_reducible refine Need.mk ?_ ?_);(first|omega|rfl|decide|(refine ⟨?_,?_⟩<;>simp<;>omega)|(simp;omega));conv=>whnf)|(exfalso;first|omega|contradiction)|fail)
  all_goals first
   | rfl
   |(exfalso; omega)
theorem rcGo_is {vol : List Int} {ix : Int → Int} : ∀ {r o : List Int} {need : Int}, (∀ n ∈ r, 0 ≤ ix n) → (o ++ r).Nodup → ∃ z, rcGo vol ix o need r = some z
 | [], o, need, _, _ => ⟨need, rfl⟩
 | n :: r, o, need, h1, h2 => by
  have h3 := h1 n List.mem_cons_self
  have h4 : ¬ o.any (fun c => c == n) = true := by
   rw [List.any_eq_true]
   rintro ⟨c, hc, he⟩
   have := (List.nodup_append.1 h2).2.2 c hc n List.mem_cons_self
   exact this (eq_of_beq he)
  rw [rcGo, if_neg (by omega), if_neg h4]
  exact rcGo_is (fun m hm => h1 m (List.mem_cons_of_mem _ hm)) (by rw [List.append_assoc]; exact h2)
theorem cut_is {acc : Nat → Nat → Bool} {P L : Nat} {vol room : List Int} {ix : Int → Int} (hix : IxOk ix L) {cut : List Int} (h1 : ∀ n ∈ cut, 0 ≤ ix n) (h2 : cut.Nodup) (h : haveS acc P L room (inC ix cut) < needS L vol (inC ix cut)) : cutB acc P vol room ix cut = true := by
 rw [cut_eq hix]
 have hJ : CutJ P room (openB acc L (inC ix [])) ([], 0) := by
  have e : ∀ p, openB acc L (inC ix []) p = false := fun p => by
   rw [openB, List.any_eq_false]; intro b _; simp [inC]
  refine ⟨fun p _ => by rw [e]; simp, ?_⟩
  simp only [e]
  exact sumN_zero.symm
 have h0 : (0 : Int) = needS L vol (inC ix []) := by
  unfold needS
  have e : ∀ b, inC ix [] b = false := fun b => rfl
  simp only [e]
  exact sumN_zero.symm
 have h3 := (cutGo_eq (acc := acc) (P := P) (room := room) hix (r := cut) h0 hJ).2
 obtain ⟨z, hz⟩ := rcGo_is (vol := vol) (ix := ix) (r := cut) (o := []) (need := 0) h1 (by simpa using h2)
 have h4 := h3 z hz
 rw [List.nil_append] at h4
 rw [rcB, hz]
 dsimp only
 rw [← have_opn hix h1, h4]
 exact decide_eq_true h
section
variable {y : Yd} {l : List Bt} {w : Rs}
theorem sortZ_mem {l : List Int} {n : Int} : n ∈ sortZ l ↔ n ∈ l := (List.mergeSort_perm l _).mem_iff
theorem cutN_mem {n : Int} : n ∈ cutN l w ↔ ∃ e ∈ w.bs, numF l e.1 = n := by simp [cutN, List.mem_map]
theorem cutN_nodup (hO : LsOk y l) (hb : ∀ e ∈ w.bs, e.1 < l.length) (hn : (w.bs.map fun e => e.1).Nodup) : (cutN l w).Nodup := by
 rw [cutN]
 rw [List.Nodup, List.pairwise_map] at hn ⊢
 refine hn.imp_of_mem fun {a c} ha hc hne he => hne ?_
 have h1 := atI_self hO (hb a ha)
 have h2 := atI_self hO (hb c hc)
 rw [he, h2] at h1
 omega
theorem cut_asc (h : (cutN l w).Nodup) : (sortZ (cutN l w)).Pairwise fun a c => a < c := by
 have h1 : (sortZ (cutN l w)).Nodup := (List.mergeSort_perm (cutN l w) _).nodup_iff.2 h
 have h2 : (sortZ (cutN l w)).Pairwise fun a b => a ≤ b := by
  have := List.pairwise_mergeSort (le := fun x y : Int => decide (x ≤ y)) (fun a b c h1 h2 => by simp only [decide_eq_true_eq] at *; omega) (fun a b => by simp; omega) (cutN l w)
  exact this.imp fun h => by simpa using h
 exact h2.imp₂ (fun a b h3 h4 => by omega) h1
theorem inC_cut (hO : LsOk y l) (hb : ∀ e ∈ w.bs, e.1 < l.length) {b : Nat} : inC (atI l) (sortZ (cutN l w)) b = hasN w.bs b := by
 rw [Bool.eq_iff_iff, inC, hasN, List.any_eq_true, List.any_eq_true]
 constructor
 ·rintro ⟨n, hn, he⟩
  rw [sortZ_mem, cutN_mem] at hn
  obtain ⟨e, hm, rfl⟩ := hn
  rw [atI_self hO (hb e hm)] at he
  exact ⟨e, hm, by have := eq_of_beq he; simp; omega⟩
 ·rintro ⟨e, hm, he⟩
  refine ⟨numF l e.1, by rw [sortZ_mem, cutN_mem]; exact ⟨e, hm, rfl⟩, ?_⟩
  rw [atI_self hO (hb e hm)]
  have : e.1 = b := by simpa using he
  rw [this]; simp
end
end Go.Proofs.Tryz
end

section
namespace Go.Proofs.Tryz
open Go Go.Vm
set_option maxRecDepth 20000
set_option maxHeartbeats 8000000
theorem few_len {l : List Bt} {most lim : Nat} (h : fewB l most lim = true) : l.length ≤ lim + 5 := by
 unfold fewB at h
 rw [Bool.and_eq_true, Bool.not_eq_true'] at h
 have := h.1
 rw [Bool.or_eq_false_iff] at this
 simpa using this.2
end Go.Proofs.Tryz
end
