/- Texts DqH TwZ DqZ DqJ, joined; what is not needed is left out. -/
import Derived.Test.YtahnaobdihhppaaMgI
import Derived.Test.YtahnaobdihhppaaProg
import Derived.Test.YtahnaobdihhppaaMgH
import Derived.Test.YtahnaobdihhppaaMgJ
import Derived.Test.YtahnaobdihhppaaMpa
section
namespace Go.Proofs.Try
open Go Go.Vm
set_option maxRecDepth 20000
set_option maxHeartbeats 8000000
structure Bl where
 bed : Int
 over : Int
 bulk : Int
 plc : Int
def blD (b : Bl) : D := .agg [iD b.bed, iD b.over, iD b.bulk, iD b.plc]
def bl0 : Bl := ⟨0, 0, 0, 0⟩
def bedS (l : List Bt) : Int := (l.map Bt.bed).sum
def overS (l : List Bt) : Int := (l.map Bt.over).sum
def plcS (n : Int) (ds : List Dp) : Int := (ds.map fun d => if d.batch = n then d.vol else 0).sum
def plS (ds : List Dp) (l : List Bt) : Int := (l.map fun b => plcS b.n ds).sum
def plR (l : List Bt) (ds : List Dp) : Int := (ds.map fun d => if l.any (fun b => b.n == d.batch) = true then d.vol else 0).sum
theorem sum_snoc {α : Type} {f : α → Int} {l : List α} {i : Nat} {a : α} (h : l[i]? = some a) : ((l.take (i + 1)).map f).sum = ((l.take i).map f).sum + f a := by
 rw [List.take_add_one, h]; simp
theorem sum_zip {α : Type} {f g h : α → Int} : ∀ {l : List α}, (∀ x ∈ l, f x = g x + h x) → (l.map f).sum = (l.map g).sum + (l.map h).sum
 | [], _ => by simp
 | x :: r, hx => by
  have h1 := hx x (by simp)
  have h2 := sum_zip (l := r) fun z hz => hx z (by simp [hz])
  simp only [List.map_cons, List.sum_cons, h1, h2]; omega
theorem plS_plR (ds : List Dp) : ∀ {l : List Bt}, (l.Pairwise fun a b => a.n ≠ b.n) → plS ds l = plR l ds
 | [], _ => by
  have : ∀ ds : List Dp, (ds.map fun _ => (0 : Int)).sum = 0 := fun ds => by
   induction ds with
   | nil => rfl
   | cons d r ih => simpa using ih
  simp [plS, plR, this]
 | b :: l, h => by
  rw [List.pairwise_cons] at h
  have ih := plS_plR ds h.2
  have e : plR (b :: l) ds = plcS b.n ds + plR l ds := sum_zip fun d _ => by
   by_cases hd : d.batch = b.n
   ·have : l.any (fun x => x.n == d.batch) = false := by
     rw [List.any_eq_false]; intro x hx; have := h.1 x hx; simp; omega
    rw [if_pos (by rw [List.any_cons]; simp [hd]), if_pos hd, if_neg (by rw [this]; decide), Int.add_zero]
   ·have hd' : (b.n == d.batch) = false := by simp; omega
    rw [List.any_cons, hd', Bool.false_or, if_neg hd, Int.zero_add]
  rw [e, ← ih]
  simp [plS]
def zeroC (y : Yd) : List Int := List.replicate y.bulk.length 0
theorem zero_car {y : Yd} (h : YdOk y) : CarOk y (zeroC y) := by
 refine ⟨List.length_replicate .., fun i b z hb hz => ?_⟩
 have := h.bk b (List.mem_of_getElem? hb)
 have hd := this.den
 have hz' := (List.mem_replicate.1 (List.mem_of_getElem? hz)).2
 omega
def balY (y : Yd) (l : List Bt) : Bl := ⟨bedS l, overS l, (volsGo y (zeroC y) l).sum, plS y.deps l⟩
def balE (y : Yd) (l : List Bt) : Int := lsErr y l 200 fun _ => false
structure LbOk (y : Yd) (l : List Bt) : Prop where
 yd : ydErr y = 0
 len : l.length ≤ 200
 wok : ∀ b ∈ l, ∃ k f c, Wok y b k f c
 dist : l.Pairwise fun a b => a.n ≠ b.n
theorem lb_ok {y : Yd} {l : List Bt} (h : balE y l = 0) : LbOk y l := by
 unfold balE lsErr at h
 split at h
 ·contradiction
 rename_i h1
 split at h
 ·cases h
 rename_i h2
 have h1 : ydErr y = 0 := by simpa using h1
 obtain ⟨k1, k2⟩ := lsGo_zero h
 exact ⟨h1, by omega, fun b hb => with_ok (by rw [withErr, if_neg (by simp [h1])]; exact (k1 b hb).1), k2⟩
theorem volsGo_spec9 {y : Yd} : ∀ {l : List Bt} {c : List Int}, (∀ b ∈ l, ∃ k f z, Wok y b k f z) → CarOk y c → (volsGo y c l).length = l.length ∧ ∀ v ∈ volsGo y c l, 0 ≤ v ∧ v ≤ 10000000000001000
 | [], _, _, _ => ⟨rfl, by simp [volsGo]⟩
 | b :: r, c, h, hc => by
  obtain ⟨k, f, z0, hW⟩ := h b (by simp)
  obtain ⟨z, hz⟩ := some_of_lt (show k < c.length by rw [hc.len]; exact lt_of_some hW.fat)
  have hzb := hc.at_ k f z hW.fat hz
  have hden := hW.fo.den
  have ek : (facI y b.soil).toNat = k := by rw [hW.ixk]; rfl
  have ef : bkAt y k = f := by rw [bkAt, List.getD, hW.fat]; rfl
  have ec : c.getD k 0 = z := by rw [List.getD, hz]; rfl
  have hcar := carN_bd (b := b) (f := f) (c := z) hW.bok hW.fo hzb
  obtain ⟨i1, i2⟩ := volsGo_spec9 (l := r) (c := c.set k (carN b f z)) (fun x hx => h x (List.mem_cons_of_mem _ hx)) (hc.set hW.fat hcar)
  rw [volsGo, ek, ef, ec]
  refine ⟨by rw [List.length_cons, i1, List.length_cons], fun v hv => ?_⟩
  rcases List.mem_cons.1 hv with rfl | hv
  ·obtain ⟨m1, m2⟩ := bulkN_bd hW.bok hW.fo (c := z) (by omega)
   have d1 := Int.ediv_nonneg (a := (b.bed - b.over) * f.num + z) (b := f.den) (by omega) (by omega)
   have d2 := Int.ediv_le_self (a := (b.bed - b.over) * f.num + z) f.den (by omega)
   unfold volN
   omega
  ·exact i2 v hv
theorem sum_bd9 {α : Type} {f : α → Int} {M : Int} {l : List α} (h : ∀ x ∈ l, 0 ≤ f x ∧ f x ≤ M) : 0 ≤ (l.map f).sum ∧ (l.map f).sum ≤ l.length * M := by
 have := sum_bd (M := M) (r := l.map f) fun z hz => by
  obtain ⟨x, hx, rfl⟩ := List.mem_map.1 hz
  exact h x hx
 rwa [List.length_map] at this
theorem plc_bd {ds : List Dp} (hv : volOk ds) (hd : ds.length ≤ 200) (n : Int) : 0 ≤ plcS n ds ∧ plcS n ds ≤ 20000000000000000 := by
 have := sum_bd9 (f := fun d : Dp => if d.batch = n then d.vol else 0) (M := 100000000000000) (l := ds) fun d hx => by
  have := hv d hx
  split <;> omega
 unfold plcS
 omega
theorem ev_Bal1 (n : Int) : Ev Try.prog 82 [iD n] (.bool false) := by
 refine ev_of_awp tysOk mixed (fn := Try.f82) Try.func82 rfl rfl rfl ?_
 conv => whnf
 skip
 rfl
theorem ev_BalanceNo {y : Yd} {l : List Bt} (hs : smallP y) (hl : l.length ≤ 1000000) (h0 : balE y l ≠ 0) : Ev Try.prog 33 [ydD y, .sl 5 (l.map btD)] (.tup [blD bl0, iD (balE y l)]) := by
 have h1 := ev_checkList y l 200 82 [] (fun _ => false) hs hl (fun b _ => ev_Bal1 b.n)
 rw [show lsErr y l 200 (fun _ => false) = balE y l from rfl] at h1
 generalize balE y l = e at *
 refine ev_of_awp tysOk mixed (fn := Try.f33) Try.func33 rfl rfl rfl ?_
 conv => whnf
 repeat' (first|((with_reducible refine Split.nez (fun _=>?_) (fun _=>?_))<;>conv=>whnf)|((with_reducible refine Need.mk ?_ ?_);(first|omega|rfl|decide|(refine ⟨?_,?_⟩<;>simp<;>omega)|(simp;omega));conv=>whnf)|((with_reducible refine AltK.l ?_);(conv=>whnf);(first|(refine CallK.mk _ (h1) ?_));conv=>whnf)|(exfalso;first|omega|contradiction)|fail)
 all_goals first
  | rfl
  |(exfalso; omega)
theorem ev_BalanceOk {y : Yd} {l : List Bt} (hs : smallP y) (h0 : balE y l = 0) : Ev Try.prog 33 [ydD y, .sl 5 (l.map btD)] (.tup [blD (balY y l), iD 0]) := by
 have hO := lb_ok h0
 have hy := yd_ok hO.yd
 have hlen := hO.len
 have hb20 := hy.bulk
 have hd200 := hy.deps
 have hll : (l.map btD).length = l.length := List.length_map _
 have hld : (y.deps.map dpD).length = y.deps.length := List.length_map _
 have hlb : (y.bulk.map bkD).length = y.bulk.length := List.length_map _
 have h1 := ev_checkList y l 200 82 [] (fun _ => false) hs (by omega) (fun b _ => ev_Bal1 b.n)
 rw [show lsErr y l 200 (fun _ => false) = 0 from h0] at h1
 have hmpz0 : List.replicate ((y.bulk.map bkD).length : Int).toNat (D.int .i64 0) = (zeroC y).map iD := by simp [zeroC, iD]
 obtain ⟨v1, v2⟩ := volsGo_spec9 hO.wok (zero_car hy)
 have hV : ∃ V, volsGo y (zeroC y) l = V := ⟨_, rfl⟩
 obtain ⟨V, hV⟩ := hV
 unfold balY
 rw [hV] at v1 v2 ⊢
 refine ev_of_awp tysOk mixed (fn := Try.f33) Try.func33 rfl rfl rfl ?_
 conv => whnf
 repeat' (first|((with_reducible refine Split.is_false ?_ ?_);decide;conv=>whnf)|((with_reducible refine Need.mk ?_ ?_);(first|omega|rfl|decide|(refine ⟨?_,?_⟩<;>simp<;>omega)|(simp;omega));conv=>whnf)|((with_reducible refine AltK.l ?_);(conv=>whnf);(first|(refine CallK.mk _ (h1) ?_));conv=>whnf)|fail)
 refine LoopK.o2 (fun x : Nat × List Int × List Int => x.1 ≤ l.length ∧ V = x.2.2 ++ volsGo y x.2.1 (l.drop x.1) ∧ x.2.2.length = x.1 ∧ CarOk y x.2.1) (fun x => [(26, .d (iD x.1))])
  (fun x => [(7, .var [.d (iD (bedS (l.take x.1))), .d (iD (overS (l.take x.1))), .d (iD x.2.2.sum), .d (iD (plS y.deps (l.take x.1)))] false), (23, .row 3 1 (x.2.1.map iD) false)]) (fun x => l.length - x.1) (0, zeroC y, []) ⟨by omega, hV.symm, rfl, zero_car hy⟩ (by refine ⟨?_, ?_, rfl⟩<;>(repeat' (first|exact True.intro|exact rfl|(refine ⟨?_,?_⟩)|(intro h;cases h;done)|exact hmpz0|fail));done) ?_
 rintro ⟨i, c, pre⟩ ⟨hi, hv, hpl, hc⟩
 dsimp only at hi hv hpl hc ⊢
 have hcl := hc.len
 have hcm : (c.map iD).length = c.length := List.length_map _
 have htl : (l.take i).length = i := by rw [List.length_take]; omega
 have b1 := sum_bd9 (f := Bt.bed) (M := 1000000000000) (l := l.take i) fun b hb => by
  obtain ⟨k, f, z, hW⟩ := hO.wok b (List.mem_of_mem_take hb)
  exact hW.bok.bed
 have b2 := sum_bd9 (f := Bt.over) (M := 1000000000000) (l := l.take i) fun b hb => by
  obtain ⟨k, f, z, hW⟩ := hO.wok b (List.mem_of_mem_take hb)
  have := hW.bok.bed
  have := hW.bok.over
  omega
 have b3 := sum_bd (M := 10000000000001000) (r := pre) fun x hx => v2 x (by rw [hv]; exact List.mem_append_left _ hx)
 have b4 := sum_bd9 (f := fun b : Bt => plcS b.n y.deps) (M := 20000000000000000) (l := l.take i) fun b _ => plc_bd hy.vol hd200 b.n
 rw [htl] at b1 b2 b4
 by_cases hil : i < l.length
 ·obtain ⟨b, hb⟩ := some_of_lt hil
  obtain ⟨k, f, z0, hW⟩ := hO.wok b (List.mem_of_getElem? hb)
  obtain ⟨z, hz⟩ := some_of_lt (show k < c.length by rw [hcl]; exact lt_of_some hW.fat)
  have hzb := hc.at_ k f z hW.fat hz
  have hden := hW.fo.den
  have hB := xv_bulked y b c hb20 hW.ixk hW.fat hz hW.bok hW.fo (by omega)
  rw [show (c.map iD).length = ((y.bulk.map bkD).length : Int).toNat by rw [List.length_map, hcl, Int.toNat_natCast, List.length_map]] at hB
  have hB := hB.rn [(1000, 23)] rfl
  have ek : (facI y b.soil).toNat = k := by rw [hW.ixk]; rfl
  have ef : bkAt y k = f := by rw [bkAt, List.getD, hW.fat]; rfl
  have ec : c.getD k 0 = z := by rw [List.getD, hz]; rfl
  rw [drop_of hb, volsGo, ek, ef, ec] at hv
  have hcar := carN_bd (b := b) (f := f) (c := z) hW.bok hW.fo hzb
  rw [show ((b.bed - b.over) * f.num + z) / f.den = volN b f z from rfl, show ((b.bed - b.over) * f.num + z) % f.den = carN b f z from rfl] at hB
  have hvb := v2 (volN b f z) (by rw [hv]; simp)
  have hbed := hW.bok.bed
  have hov := hW.bok.over
  have s1 : bedS (l.take (i + 1)) = bedS (l.take i) + b.bed := sum_snoc hb
  have s2 : overS (l.take (i + 1)) = overS (l.take i) + b.over := sum_snoc hb
  have s4 : plS y.deps (l.take (i + 1)) = plS y.deps (l.take i) + plcS b.n y.deps := sum_snoc (f := fun b : Bt => plcS b.n y.deps) hb
  have b1 : 0 ≤ bedS (l.take i) ∧ bedS (l.take i) ≤ i * 1000000000000 := b1
  have b2 : 0 ≤ overS (l.take i) ∧ overS (l.take i) ≤ i * 1000000000000 := b2
  have b4 : 0 ≤ plS y.deps (l.take i) ∧ plS y.deps (l.take i) ≤ i * 20000000000000000 := b4
  generalize bedS (l.take i) = q1 at *
  generalize overS (l.take i) = q2 at *
  generalize plS y.deps (l.take i) = q4 at *
  generalize volN b f z = v at *
  generalize carN b f z = cn at *
  have hq0 : q4 + plcS b.n (y.deps.take 0) = q4 := by simp [plcS]
  conv => whnf
  repeat' (first|((refine PickE.map i hb (by omega) ?_);conv=>whnf)|((with_reducible refine Split.dec (fun _=>?_) (fun _=>?_))<;>conv=>whnf)|((with_reducible refine Need.mk ?_ ?_);(first|omega|rfl|decide|(refine ⟨?_,?_⟩<;>simp<;>omega)|(simp;omega));conv=>whnf)|((with_reducible refine Wr.inr ?_ ?_);(first|omega|(simp;omega));conv=>whnf)|((with_reducible refine AltK.r ?_);(conv=>whnf);(first|(refine CallX.mk _ _ (hB) rfl ?_));conv=>whnf)|(exfalso;first|omega|contradiction)|fail)
  refine LoopK.o2 (fun j : Nat => j ≤ y.deps.length) (fun j => [(53, .d (iD j))]) (fun j => [(7, .var [.d (iD (q1 + b.bed)), .d (iD (q2 + b.over)), .d (iD (pre.sum + v)), .d (iD (q4 + plcS b.n (y.deps.take j)))] false)]) (fun j => y.deps.length - j) 0 (by omega) (by refine ⟨?_, ?_, rfl⟩<;>(repeat' (first|exact True.intro|exact rfl|(refine ⟨?_,?_⟩)|(intro h;cases h;done)|(refine int_congr ?_;(first|omega|(simp;omega)))|fail));done) ?_
  rintro j hj
  dsimp only at hj ⊢
  have hpj := plc_bd (ds := y.deps.take j) (fun d hd => hy.vol d (List.mem_of_mem_take hd)) (by rw [List.length_take]; omega) b.n
  by_cases hjl : j < y.deps.length
  ·obtain ⟨d, hd⟩ := some_of_lt hjl
   have hdv := hy.vol d (List.mem_of_getElem? hd)
   have sj : plcS b.n (y.deps.take (j + 1)) = plcS b.n (y.deps.take j) + if d.batch = b.n then d.vol else 0 := sum_snoc (f := fun d : Dp => if d.batch = b.n then d.vol else 0) hd
   generalize plcS b.n (y.deps.take j) = pj at *
   by_cases hdb : d.batch = b.n
   ·rw [if_pos hdb] at sj
    have sj' : q4 + plcS b.n (y.deps.take (j + 1)) = q4 + pj + d.vol := by rw [sj]; omega
    conv => whnf
    repeat' (first|((refine PickE.map j hd (by omega) ?_);conv=>whnf)|((with_reducible refine Split.eqz (fun _=>?_) (fun _=>?_))<;>conv=>whnf)|((with_reducible refine Split.dec (fun _=>?_) (fun _=>?_))<;>conv=>whnf)|((with_reducible refine Need.mk ?_ ?_);(first|omega|rfl|decide|(refine ⟨?_,?_⟩<;>simp<;>omega)|(simp;omega));conv=>whnf)|((with_reducible refine Wr.inr ?_ ?_);(first|omega|(simp;omega));conv=>whnf)|(exfalso;first|omega|contradiction)|fail)
    all_goals first
     |(exfalso; omega)
     | skip
    refine Again.au (j + 1) (by omega) (by omega) ?_
    rw [sj']
    exact (by refine ⟨?_, ?_, rfl⟩<;>(repeat' (first|exact True.intro|exact rfl|(refine ⟨?_,?_⟩)|(intro h;cases h;done)|fail));done)
   ·rw [if_neg hdb, Int.add_zero] at sj
    conv => whnf
    repeat' (first|((refine PickE.map j hd (by omega) ?_);conv=>whnf)|((with_reducible refine Split.eqz (fun _=>?_) (fun _=>?_))<;>conv=>whnf)|((with_reducible refine Split.dec (fun _=>?_) (fun _=>?_))<;>conv=>whnf)|((with_reducible refine Need.mk ?_ ?_);(first|omega|rfl|decide|(refine ⟨?_,?_⟩<;>simp<;>omega)|(simp;omega));conv=>whnf)|((with_reducible refine Wr.inr ?_ ?_);(first|omega|(simp;omega));conv=>whnf)|(exfalso;first|omega|contradiction)|fail)
    all_goals first
     |(exfalso; omega)
     | skip
    refine Again.au (j + 1) (by omega) (by omega) ?_
    rw [sj]
    exact (by refine ⟨?_, ?_, rfl⟩<;>(repeat' (first|exact True.intro|exact rfl|(refine ⟨?_,?_⟩)|(intro h;cases h;done)|fail));done)
  ·rw [List.take_of_length_le (show y.deps.length ≤ j by omega)]
   conv => whnf
   repeat' (first|((with_reducible refine Split.dec (fun _=>?_) (fun _=>?_))<;>conv=>whnf)|((with_reducible refine Need.mk ?_ ?_);(first|omega|rfl|decide|(refine ⟨?_,?_⟩<;>simp<;>omega)|(simp;omega));conv=>whnf)|((with_reducible refine Wr.inr ?_ ?_);(first|omega|(simp;omega));conv=>whnf)|(exfalso;first|omega|contradiction)|fail)
   refine Again.au (i + 1, c.set k cn, pre ++ [v]) ⟨by dsimp only; omega, by rw [hv]; simp, by simp only [List.length_append, List.length_singleton]; omega, hc.set hW.fat hcar⟩ (by dsimp only; omega) ?_
   dsimp only
   rw [s1, s2, s4, show (pre ++ [v]).sum = pre.sum + v by simp]
   exact (by refine ⟨?_, ?_, rfl⟩<;>(repeat' (first|exact True.intro|exact rfl|(refine ⟨?_,?_⟩)|(intro h;cases h;done)|fail));done)
 ·have hie : i = l.length := by omega
  subst hie
  rw [List.drop_length, volsGo, List.append_nil] at hv
  rw [List.take_length, ← hv]
  conv => whnf
  repeat' (first|((with_reducible refine Split.dec (fun _=>?_) (fun _=>?_))<;>conv=>whnf)|((with_reducible refine Need.mk ?_ ?_);(first|omega|rfl|decide|(refine ⟨?_,?_⟩<;>simp<;>omega)|(simp;omega));conv=>whnf)|(exfalso;first|omega|contradiction)|fail)
  rfl
theorem ev_Balance9 {y : Yd} {l : List Bt} (h0 : balE y l = 0) : Ev Try.prog 35 [ydD y, .sl 5 (l.map btD)] (blD (balY y l)) := by
 have hO := lb_ok h0
 have hy := yd_ok hO.yd
 have hlen := hO.len
 have hb20 := hy.bulk
 have hd200 := hy.deps
 have hll : (l.map btD).length = l.length := List.length_map _
 have hld : (y.deps.map dpD).length = y.deps.length := List.length_map _
 have hlb : (y.bulk.map bkD).length = y.bulk.length := List.length_map _
 have hmpz0 : List.replicate ((y.bulk.map bkD).length : Int).toNat (D.int .i64 0) = (zeroC y).map iD := by simp [zeroC, iD]
 obtain ⟨v1, v2⟩ := volsGo_spec9 hO.wok (zero_car hy)
 have hV := ev_Volumes y l (zeroC y) (by omega) (by omega) hO.wok (zero_car hy)
 rw [← hmpz0] at hV
 unfold balY
 rw [plS_plR y.deps hO.dist]
 generalize volsGo y (zeroC y) l = V at *
 have hlv : (V.map iD).length = V.length := List.length_map _
 have hq0 : (V.take 0).sum = 0 := by simp
 have hq1 : plR l (y.deps.take 0) = 0 := by simp [plR]
 refine ev_of_awp tysOk mixed (fn := Try.f35) Try.func35 rfl rfl rfl ?_
 conv => whnf
 repeat' (first|((with_reducible refine Need.mk ?_ ?_);(first|omega|rfl|decide|(refine ⟨?_,?_⟩<;>simp<;>omega)|(simp;omega));conv=>whnf)|((with_reducible refine AltK.l ?_);(conv=>whnf);(first|(refine CallK.mk _ (hV) ?_));conv=>whnf)|fail)
 refine LoopK.o2 (fun i : Nat => i ≤ l.length) (fun i => [(7, .d (iD i))]) (fun i => [(5, .var [.d (iD (bedS (l.take i))), .d (iD (overS (l.take i))), .d (iD (V.take i).sum), .d (iD 0)] false)]) (fun i => l.length - i) 0 (by omega) (by refine ⟨?_, ?_, rfl⟩<;>(repeat' (first|exact True.intro|exact rfl|(refine ⟨?_,?_⟩)|(intro h;cases h;done)|(intro h;exact h)|fail));done) ?_
 rintro i hi
 dsimp only at hi ⊢
 have htl : (l.take i).length = i := by rw [List.length_take]; omega
 have b1 : 0 ≤ bedS (l.take i) ∧ bedS (l.take i) ≤ (l.take i).length * 1000000000000 := sum_bd9 (f := Bt.bed) (M := 1000000000000) (l := l.take i) fun b hb => by
  obtain ⟨k, f, z, hW⟩ := hO.wok b (List.mem_of_mem_take hb)
  exact hW.bok.bed
 have b2 : 0 ≤ overS (l.take i) ∧ overS (l.take i) ≤ (l.take i).length * 1000000000000 := sum_bd9 (f := Bt.over) (M := 1000000000000) (l := l.take i) fun b hb => by
  obtain ⟨k, f, z, hW⟩ := hO.wok b (List.mem_of_mem_take hb)
  have := hW.bok.bed
  have := hW.bok.over
  omega
 have b3 := sum_bd (M := 10000000000001000) (r := V.take i) fun x hx => v2 x (List.mem_of_mem_take hx)
 rw [htl] at b1 b2
 rw [show (V.take i).length = i by rw [List.length_take]; omega] at b3
 by_cases hil : i < l.length
 ·obtain ⟨b, hb⟩ := some_of_lt hil
  obtain ⟨k, f, z0, hW⟩ := hO.wok b (List.mem_of_getElem? hb)
  obtain ⟨v, hv⟩ := some_of_lt (show i < V.length by omega)
  have hvb := v2 v (List.mem_of_getElem? hv)
  have hbed := hW.bok.bed
  have hov := hW.bok.over
  have s1 : bedS (l.take (i + 1)) = bedS (l.take i) + b.bed := sum_snoc hb
  have s2 : overS (l.take (i + 1)) = overS (l.take i) + b.over := sum_snoc hb
  have s3 : (V.take (i + 1)).sum = (V.take i).sum + v := by rw [List.take_add_one, hv]; simp
  generalize bedS (l.take i) = q1 at *
  generalize overS (l.take i) = q2 at *
  generalize (V.take i).sum = q3 at *
  conv => whnf
  repeat' (first|((refine PickE.map i hv (by omega) ?_);conv=>whnf)|((refine PickE.map i hb (by omega) ?_);conv=>whnf)|((with_reducible refine Split.dec (fun _=>?_) (fun _=>?_))<;>conv=>whnf)|((with_reducible refine Need.mk ?_ ?_);(first|omega|rfl|decide|(refine ⟨?_,?_⟩<;>simp<;>omega)|(simp;omega));conv=>whnf)|((with_reducible refine Wr.inr ?_ ?_);(first|omega|(simp;omega));conv=>whnf)|(exfalso;first|omega|contradiction)|fail)
  refine Again.au (i + 1) (by omega) (by omega) ?_
  rw [s1, s2, s3]
  exact (by refine ⟨?_, ?_, rfl⟩<;>(repeat' (first|exact True.intro|exact rfl|(refine ⟨?_,?_⟩)|(intro h;cases h;done)|(intro h;exact h)|fail));done)
 ·have hie : i = l.length := by omega
  subst hie
  rw [List.take_length, show V.take l.length = V by rw [← v1, List.take_length]] at *
  generalize bedS l = q1 at *
  generalize overS l = q2 at *
  generalize V.sum = q3 at *
  conv => whnf
  repeat' (first|((with_reducible refine Split.dec (fun _=>?_) (fun _=>?_))<;>conv=>whnf)|((with_reducible refine Need.mk ?_ ?_);(first|omega|rfl|decide|(refine ⟨?_,?_⟩<;>simp<;>omega)|(simp;omega));conv=>whnf)|(exfalso;first|omega|contradiction)|fail)
  refine LoopK.o2 (fun j : Nat => j ≤ y.deps.length) (fun j => [(8, .d (iD j))]) (fun j => [(5, .var [.d (iD q1), .d (iD q2), .d (iD q3), .d (iD (plR l (y.deps.take j)))] false)]) (fun j => y.deps.length - j) 0 (by omega) (by refine ⟨?_, ?_, rfl⟩<;>(repeat' (first|exact True.intro|exact rfl|(refine ⟨?_,?_⟩)|(intro h;cases h;done)|(intro h;exact h)|fail));done) ?_
  rintro j hj
  dsimp only at hj ⊢
  have hpj : 0 ≤ plR l (y.deps.take j) ∧ plR l (y.deps.take j) ≤ (y.deps.take j).length * 100000000000000 := sum_bd9 (f := fun d : Dp => if l.any (fun b => b.n == d.batch) = true then d.vol else 0) (M := 100000000000000) (l := y.deps.take j) fun d hd => by
   have := hy.vol d (List.mem_of_mem_take hd)
   split <;> omega
  rw [show (y.deps.take j).length = j by rw [List.length_take]; omega] at hpj
  by_cases hjl : j < y.deps.length
  ·obtain ⟨d, hd⟩ := some_of_lt hjl
   have hdv := hy.vol d (List.mem_of_getElem? hd)
   have hat := ev_At9 l d.batch (by omega)
   have sj : plR l (y.deps.take (j + 1)) = plR l (y.deps.take j) + if l.any (fun b => b.n == d.batch) = true then d.vol else 0 := sum_snoc (f := fun d : Dp => if l.any (fun b => b.n == d.batch) = true then d.vol else 0) hd
   rw [any_at] at sj
   generalize plR l (y.deps.take j) = pj at *
   generalize atI l d.batch = ai at *
   by_cases ha : ai < 0
   ·rw [if_neg (by simpa using ha), Int.add_zero] at sj
    conv => whnf
    repeat' (first|((refine PickE.map j hd (by omega) ?_);conv=>whnf)|((with_reducible refine Split.dec (fun _=>?_) (fun _=>?_))<;>conv=>whnf)|((with_reducible refine Need.mk ?_ ?_);(first|omega|rfl|decide|(refine ⟨?_,?_⟩<;>simp<;>omega)|(simp;omega));conv=>whnf)|((with_reducible refine Wr.inr ?_ ?_);(first|omega|(simp;omega));conv=>whnf)|((with_reducible refine AltK.l ?_);(conv=>whnf);(first|(refine CallK.mk _ (hat) ?_));conv=>whnf)|(exfalso;first|omega|contradiction)|fail)
    all_goals first
     |(exfalso; omega)
     | skip
    refine Again.au (j + 1) (by omega) (by omega) ?_
    rw [sj]
    exact (by refine ⟨?_, ?_, rfl⟩<;>(repeat' (first|exact True.intro|exact rfl|(refine ⟨?_,?_⟩)|(intro h;cases h;done)|(intro h;exact h)|fail));done)
   ·rw [if_pos (by simpa using ha)] at sj
    conv => whnf
    repeat' (first|((refine PickE.map j hd (by omega) ?_);conv=>whnf)|((with_reducible refine Split.dec (fun _=>?_) (fun _=>?_))<;>conv=>whnf)|((with_reducible refine Need.mk ?_ ?_);(first|omega|rfl|decide|(refine ⟨?_,?_⟩<;>simp<;>omega)|(simp;omega));conv=>whnf)|((with_reducible refine Wr.inr ?_ ?_);(first|omega|(simp;omega));conv=>whnf)|((with_reducible refine AltK.l ?_);(conv=>whnf);(first|(refine CallK.mk _ (hat) ?_));conv=>whnf)|(exfalso;first|omega|contradiction)|fail)
    all_goals first
     |(exfalso; omega)
     | skip
    refine Again.au (j + 1) (by omega) (by omega) ?_
    rw [sj]
    exact (by refine ⟨?_, ?_, rfl⟩<;>(repeat' (first|exact True.intro|exact rfl|(refine ⟨?_,?_⟩)|(intro h;cases h;done)|(intro h;exact h)|fail));done)
  ·rw [List.take_of_length_le (show y.deps.length ≤ j by omega)]
   conv => whnf
   repeat' (first|((with_reducible refine Split.dec (fun _=>?_) (fun _=>?_))<;>conv=>whnf)|((with_reducible refine Need.mk ?_ ?_);(first|omega|rfl|decide|(refine ⟨?_,?_⟩<;>simp<;>omega)|(simp;omega));conv=>whnf)|(exfalso;first|omega|contradiction)|fail)
   rfl
theorem few_len {l : List Bt} {most lim : Nat} (h : fewB l most lim = true) : l.length ≤ lim + 5 := by
 unfold fewB at h
 rw [Bool.and_eq_true, Bool.not_eq_true'] at h
 have := h.1
 rw [Bool.or_eq_false_iff] at this
 simpa using this.2
theorem ev_DisposalBalances (hA : Ev Try.prog 11 [] (.bool true)) (y : Yd) (l : List Bt) : Ev Try.prog 8 [ydD y, .sl 5 (l.map btD)] (.bool true) := by
 have h1 := ev_Small y
 have h1' := ev_few l 8 200 (by decide) (by decide)
 cases hs : smallB y with
 | false =>
  rw [hs] at h1
  refine ev_of_awp tysOk mixed (fn := Try.f8) Try.func8 rfl rfl rfl ?_
  conv => whnf
  repeat' (first|((with_reducible first|refine Split.of_true ?_|refine Split.of_false ?_);conv=>whnf)|(with_reducible refine Split.neg ?_)|((with_reducible refine AltK.l ?_);(conv=>whnf);(first|(refine CallK.mk _ (hA) ?_)|(refine CallK.mk _ (h1) ?_)|(refine CallK.mk _ (h1') ?_));conv=>whnf)|fail)
  rfl
 | true =>
 rw [hs] at h1
 have hB := smB hs
 cases hfw : fewB l 8 200 with
 | false =>
  rw [hfw] at h1'
  refine ev_of_awp tysOk mixed (fn := Try.f8) Try.func8 rfl rfl rfl ?_
  conv => whnf
  repeat' (first|((with_reducible first|refine Split.of_true ?_|refine Split.of_false ?_);conv=>whnf)|(with_reducible refine Split.neg ?_)|((with_reducible refine AltK.l ?_);(conv=>whnf);(first|(refine CallK.mk _ (hA) ?_)|(refine CallK.mk _ (h1) ?_)|(refine CallK.mk _ (h1') ?_));conv=>whnf)|fail)
  rfl
 | true =>
 rw [hfw] at h1'
 have hfl := few_len hfw
 have h2 := hB.copied
 have b1 := hB.b
 have b3 := hB.d
 have hll : (l.map btD).length = l.length := List.length_map _
 have h4 := ev_DCheckR y hB.sp
 have h5 := ev_ListErr y l 200 false (by omega) (by omega) (by omega)
 have eB : balE y l = if ydErr y ≠ 0 then ydErr y else (if 200 < l.length then 8 else lsGo y (fun n => false && depB y n) [] l) := by
  simp only [balE, lsErr, Bool.false_and]
 by_cases h0 : balE y l = 0
 ·have hO := lb_ok h0
  rw [hO.yd] at h4 eB
  rw [if_neg (by decide)] at eB
  rw [← eB, h0] at h5
  have h6 := ev_BalanceOk hB.sp h0
  have h7 := ev_Balance9 h0
  generalize balY y l = bl at *
  refine ev_of_awp tysOk mixed (fn := Try.f8) Try.func8 rfl rfl rfl ?_
  conv => whnf
  repeat' (first|((with_reducible refine Split.of_true ?_);conv=>whnf)|(with_reducible refine Split.neg ?_)|((with_reducible refine Split.is_true ?_ ?_);decide;conv=>whnf)|((with_reducible refine Split.is_false ?_ ?_);decide;conv=>whnf)|((with_reducible refine Need.mk ?_ ?_);(first|omega|rfl|decide|(refine ⟨?_,?_⟩<;>simp<;>omega)|(simp;omega));conv=>whnf)|((with_reducible refine AltK.l ?_);(conv=>whnf);(first|(refine CallK.mk _ (hA) ?_)|(refine CallK.mk _ (h1) ?_)|(refine CallK.mk _ (h1') ?_)|(refine CallK.mk _ (h2) ?_)|(refine CallK.mk _ (h4) ?_)|(refine CallK.mk _ (h5) ?_)|(refine CallK.mk _ (h6) ?_)|(refine CallK.mk _ (h7) ?_));conv=>whnf)|fail)
  all_goals first
   | rfl
   |(simp [retOf]; done)
   |(exfalso; first | omega | contradiction)
 ·have h6 := ev_BalanceNo (l := l) hB.sp (by omega) h0
  by_cases hy : ydErr y = 0
  ·rw [hy, if_neg (by decide)] at eB
   rw [← eB] at h5
   rw [hy] at h4
   generalize balE y l = e at *
   refine ev_of_awp tysOk mixed (fn := Try.f8) Try.func8 rfl rfl rfl ?_
   conv => whnf
   repeat' (first|((with_reducible refine Split.of_true ?_);conv=>whnf)|(with_reducible refine Split.neg ?_)|((with_reducible refine Split.is_true ?_ ?_);decide;conv=>whnf)|((with_reducible refine Split.nez (fun _=>?_) (fun _=>?_))<;>conv=>whnf)|((with_reducible refine Split.eqz (fun _=>?_) (fun _=>?_))<;>conv=>whnf)|((with_reducible refine Need.mk ?_ ?_);(first|omega|rfl|decide|(refine ⟨?_,?_⟩<;>simp<;>omega)|(simp;omega));conv=>whnf)|((with_reducible refine AltK.l ?_);(conv=>whnf);(first|(refine CallK.mk _ (hA) ?_)|(refine CallK.mk _ (h1) ?_)|(refine CallK.mk _ (h1') ?_)|(refine CallK.mk _ (h2) ?_)|(refine CallK.mk _ (h4) ?_)|(refine CallK.mk _ (h5) ?_)|(refine CallK.mk _ (h6) ?_));conv=>whnf)|(exfalso;first|omega|contradiction)|fail)
   all_goals first
    | rfl
    |(exfalso; first | omega | contradiction)
  ·rw [if_pos hy] at eB
   rw [← eB] at h4
   generalize balE y l = e at *
   refine ev_of_awp tysOk mixed (fn := Try.f8) Try.func8 rfl rfl rfl ?_
   conv => whnf
   repeat' (first|((with_reducible refine Split.of_true ?_);conv=>whnf)|(with_reducible refine Split.neg ?_)|((with_reducible refine Split.nez (fun _=>?_) (fun _=>?_))<;>conv=>whnf)|((with_reducible refine Split.eqz (fun _=>?_) (fun _=>?_))<;>conv=>whnf)|((with_reducible refine Need.mk ?_ ?_);(first|omega|rfl|decide|(refine ⟨?_,?_⟩<;>simp<;>omega)|(simp;omega));conv=>whnf)|((with_reducible refine AltK.l ?_);(conv=>whnf);(first|(refine CallK.mk _ (hA) ?_)|(refine CallK.mk _ (h1) ?_)|(refine CallK.mk _ (h1') ?_)|(refine CallK.mk _ (h2) ?_)|(refine CallK.mk _ (h4) ?_)|(refine CallK.mk _ (h6) ?_));conv=>whnf)|(exfalso;first|omega|contradiction)|fail)
   all_goals first
    | rfl
    |(exfalso; first | omega | contradiction)
end Go.Proofs.Try
end

section
namespace Go.Proofs.Try
open Go Go.Vm
theorem int_of {k : IntKind} {d : D} (h : Ty (.int k) d) : ∃ n, d = .int k n ∧ (Lit.int k n).wf = true := by cases h; exact ⟨_, rfl, by assumption⟩
theorem str_of {d : D} (h : Ty .str d) : ∃ s, d = .str s ∧ s.size ≤ 9223372036854775807 := by
 cases h with
 | str s h => exact ⟨_, rfl, h⟩
theorem sl_of {agg : Bool} {cs : List Cs} {d : D} (h : Ty (.sl agg cs) d) : ∃ es, d = .sl cs.length es ∧ (∀ e ∈ es, TyV (agg, cs) e) ∧ es.length ≤ 9223372036854775807 := by
 cases h with
 | sl hk hl h hn => exact ⟨_, rfl, fun e he => ⟨hk e he, hl e he, h e he⟩, hn⟩
theorem agg_of {cs : List Cs} {d : D} (h : TyV (true, cs) d) : ∃ ds, d = .agg ds ∧ ds.length = cs.length ∧ ∀ (j : Nat) c e, cs[j]? = some c → ds[j]? = some e → Ty c e := by
 obtain ⟨ds, rfl⟩ := h.1.1 rfl
 exact ⟨ds, rfl, h.2.1, h.2.2⟩
theorem one_of {c : Cs} {d : D} (h : TyV (false, [c]) d) : Ty c d := by
 have h1 := h.1.2 rfl
 have := h.2.2 0 c d rfl
 rw [(one_cells h1).1] at this
 exact this rfl
theorem map_of {α : Type} {f : α → D} {Q : D → Prop} (hf : ∀ d, Q d → ∃ a, d = f a) : ∀ {es : List D}, (∀ e ∈ es, Q e) → ∃ l : List α, es = l.map f
 | [], _ => ⟨[], rfl⟩
 | e :: es, h => by
  obtain ⟨a, rfl⟩ := hf e (h e (List.mem_cons_self ..))
  obtain ⟨l, rfl⟩ := map_of hf (fun e he => h e (List.mem_cons_of_mem _ he))
  exact ⟨a :: l, rfl⟩
end Go.Proofs.Try
end

section
namespace Go.Proofs.Try
open Go Go.Vm
def cPit : List Cs := [.str, .int .i64, .int .i64, .int .i64, .sl false [.int .i64], .int .i64]
def cBulk : List Cs := [.str, .int .i64, .int .i64]
def cDep : List Cs := [.int .i64, .str, .int .i64]
def cYard : List Cs := [.sl true cPit, .sl true cBulk, .sl true cDep, .sl false [.int .i64]]
def cBat : List Cs := [.int .i64, .int .i64, .int .i64, .str, .int .i64]
theorem ints_of9 {d : D} (h : Ty (.sl false [.int .i64]) d) : ∃ l : List Int, d = .sl 1 (l.map iD) := by
 obtain ⟨es, rfl, he, -⟩ := sl_of h
 obtain ⟨l, rfl⟩ := map_of (f := iD) (fun d hd => by
  obtain ⟨n, rfl, -⟩ := int_of (one_of hd)
  exact ⟨n, rfl⟩) he
 exact ⟨l, rfl⟩
theorem pit_of {d : D} (h : TyV (true, cPit) d) : ∃ p, d = ptD p := by
 obtain ⟨ds, rfl, hl, hc⟩ := agg_of h
 match ds, hl with
 | [a, b, c, e, f, g], _ =>
  obtain ⟨s, rfl, -⟩ := str_of (hc 0 _ a rfl rfl)
  obtain ⟨x1, rfl, -⟩ := int_of (hc 1 _ b rfl rfl)
  obtain ⟨x2, rfl, -⟩ := int_of (hc 2 _ c rfl rfl)
  obtain ⟨x3, rfl, -⟩ := int_of (hc 3 _ e rfl rfl)
  obtain ⟨l, rfl⟩ := ints_of9 (hc 4 _ f rfl rfl)
  obtain ⟨x5, rfl, -⟩ := int_of (hc 5 _ g rfl rfl)
  exact ⟨⟨s, x1, x2, x3, l, x5⟩, rfl⟩
theorem bulk_of {d : D} (h : TyV (true, cBulk) d) : ∃ p, d = bkD p := by
 obtain ⟨ds, rfl, hl, hc⟩ := agg_of h
 match ds, hl with
 | [a, b, c], _ =>
  obtain ⟨s, rfl, -⟩ := str_of (hc 0 _ a rfl rfl)
  obtain ⟨x1, rfl, -⟩ := int_of (hc 1 _ b rfl rfl)
  obtain ⟨x2, rfl, -⟩ := int_of (hc 2 _ c rfl rfl)
  exact ⟨⟨s, x1, x2⟩, rfl⟩
theorem dep_of {d : D} (h : TyV (true, cDep) d) : ∃ p, d = dpD p := by
 obtain ⟨ds, rfl, hl, hc⟩ := agg_of h
 match ds, hl with
 | [a, b, c], _ =>
  obtain ⟨x1, rfl, -⟩ := int_of (hc 0 _ a rfl rfl)
  obtain ⟨s, rfl, -⟩ := str_of (hc 1 _ b rfl rfl)
  obtain ⟨x2, rfl, -⟩ := int_of (hc 2 _ c rfl rfl)
  exact ⟨⟨x1, s, x2⟩, rfl⟩
theorem bat_of {d : D} (h : TyV (true, cBat) d) : ∃ p, d = btD p := by
 obtain ⟨ds, rfl, hl, hc⟩ := agg_of h
 match ds, hl with
 | [a, b, c, e, f], _ =>
  obtain ⟨x0, rfl, -⟩ := int_of (hc 0 _ a rfl rfl)
  obtain ⟨x1, rfl, -⟩ := int_of (hc 1 _ b rfl rfl)
  obtain ⟨x2, rfl, -⟩ := int_of (hc 2 _ c rfl rfl)
  obtain ⟨s, rfl, -⟩ := str_of (hc 3 _ e rfl rfl)
  obtain ⟨x4, rfl, -⟩ := int_of (hc 4 _ f rfl rfl)
  exact ⟨⟨x0, x1, x2, s, x4⟩, rfl⟩
theorem bats_of {d : D} (h : Ty (.sl true cBat) d) : ∃ l : List Bt, d = .sl 5 (l.map btD) := by
 obtain ⟨es, rfl, he, -⟩ := sl_of h
 obtain ⟨l, rfl⟩ := map_of (fun d hd => bat_of hd) he
 exact ⟨l, rfl⟩
theorem yard_of {d : D} (h : TyV (true, cYard) d) : ∃ y, d = ydD y := by
 obtain ⟨ds, rfl, hl, hc⟩ := agg_of h
 match ds, hl with
 | [a, b, c, e], _ =>
  obtain ⟨es, rfl, he, -⟩ := sl_of (hc 0 _ a rfl rfl)
  obtain ⟨l0, rfl⟩ := map_of (fun d hd => pit_of hd) he
  obtain ⟨es, rfl, he, -⟩ := sl_of (hc 1 _ b rfl rfl)
  obtain ⟨l1, rfl⟩ := map_of (fun d hd => bulk_of hd) he
  obtain ⟨es, rfl, he, -⟩ := sl_of (hc 2 _ c rfl rfl)
  obtain ⟨l2, rfl⟩ := map_of (fun d hd => dep_of hd) he
  obtain ⟨l3, rfl⟩ := ints_of9 (hc 3 _ e rfl rfl)
  exact ⟨⟨l0, l1, l2, l3⟩, rfl⟩
end Go.Proofs.Try
end

section
namespace Go.Proofs.Try
open Go Go.Vm
theorem ev_DisposalBalances' (y : Yd) (l : List Bt) : Ev Try.prog 8 [ydD y, .sl 5 (l.map btD)] (.bool true) := ev_DisposalBalances ev_awake9 y l
end Go.Proofs.Try
end
