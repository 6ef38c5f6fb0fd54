/- Texts DqE DpM DpR DrA DrB DrC DrD DqF DrE DrL DrF DrG DrH DrI, joined; what is not needed is left out. -/
import Derived.Test.YtocplkidmjejbaaMgI
import Derived.Test.YtocplkidmjejbaaMgH
import Derived.Test.YtocplkidmjejbaaProg
import Derived.Test.YtocplkidmjejbaaMcc
section
namespace Go.Proofs.Try
open Go Go.Vm
set_option maxRecDepth 20000
set_option maxHeartbeats 8000000
/-! The task: checkList; begin. -/
def lsGo (y : Yd) (q : Int → Bool) : List Bt → List Bt → Int
 | _, [] => 0
 | o, b :: r => if batErr y b ≠ 0 then batErr y b else if o.any (fun x => x.n == b.n) = true then 5 else if q b.n = true then 5 else lsGo y q (o ++ [b]) r
def lsErr (y : Yd) (l : List Bt) (most : Nat) (q : Int → Bool) : Int := if ydErr y ≠ 0 then ydErr y else if most < l.length then 8 else lsGo y q [] l
theorem lsGo_at {y : Yd} {q : Int → Bool} {l : List Bt} {i : Nat} {b : Bt} (h : l[i]? = some b) : lsGo y q (l.take i) (l.drop i) =
 if batErr y b ≠ 0 then batErr y b else if (l.take i).any (fun x => x.n == b.n) = true then 5 else if q b.n = true then 5 else lsGo y q (l.take (i + 1)) (l.drop (i + 1)) := by
 rw [drop_of h, lsGo, take_snoc h]
theorem ev_checkList (y : Yd) (l : List Bt) (most : Nat) (f : Nat) (caps : List D) (q : Int → Bool) (hs : smallP y) (hl : l.length ≤ 1000000) (hq : ∀ b ∈ l, Ev Try.prog f ([iD b.n] ++ caps) (.bool (q b.n))) :
 Ev Try.prog 84 [ydD y, .sl 5 (l.map btD), iD most, .fn f caps] (iD (lsErr y l most q)) := by
 have hll : (l.map btD).length = l.length := List.length_map _
 have h1 := ev_DCheck y hs
 unfold lsErr
 by_cases h0 : ydErr y = 0
 case neg =>
  rw [if_pos h0]
  generalize ydErr y = er at *
  refine ev_of_awp tysOk mixed (fn := Try.f84) Try.func84 rfl rfl rfl ?_
  conv => whnf
  repeat' (first|((with_reducible refine Split.nez (fun _=>?_) (fun _=>?_))<;>conv=>whnf)|((with_reducible refine Split.dec (fun _=>?_) (fun _=>?_))<;>conv=>whnf)|((with_reducible refine AltK.l ?_);(conv=>whnf);(first|(refine CallK.mk _ (h1) ?_));conv=>whnf)|(exfalso;first|omega|contradiction)|fail)
  all_goals first
   | rfl
   |(exfalso; omega)
 rw [if_neg (by simpa using h0)]
 have hbk := bulk_few h0
 rw [h0] at h1
 by_cases hmo : most < l.length
 ·rw [if_pos hmo]
  refine ev_of_awp tysOk mixed (fn := Try.f84) Try.func84 rfl rfl rfl ?_
  conv => whnf
  repeat' (first|((with_reducible refine Split.is_false ?_ ?_);decide;conv=>whnf)|((with_reducible refine Split.dec (fun _=>?_) (fun _=>?_))<;>conv=>whnf)|((with_reducible refine AltK.l ?_);(conv=>whnf);(first|(refine CallK.mk _ (h1) ?_));conv=>whnf)|(exfalso;first|omega|contradiction)|fail)
  all_goals first
   | rfl
   |(exfalso; omega)
 rw [if_neg hmo]
 have e0 : lsGo y q [] l = lsGo y q (l.take 0) (l.drop 0) := rfl
 refine ev_of_awp tysOk mixed (fn := Try.f84) Try.func84 rfl rfl rfl ?_
 conv => whnf
 repeat' (first|((with_reducible refine Split.is_false ?_ ?_);decide;conv=>whnf)|((with_reducible refine Split.dec (fun _=>?_) (fun _=>?_))<;>conv=>whnf)|((with_reducible refine AltK.l ?_);(conv=>whnf);(first|(refine CallK.mk _ (h1) ?_));conv=>whnf)|(exfalso;first|omega|contradiction)|fail)
 refine LoopK.o2 (fun i : Nat => i ≤ l.length ∧ lsGo y q [] l = lsGo y q (l.take i) (l.drop i)) (fun i => [(26, .d (.int .i64 i))]) (fun i => [(23, .map 3 4 (.int .i64) (seenD Bt.n (l.take i)))]) (fun i => l.length - i) 0 ⟨by omega, e0⟩ (by refine ⟨?_, ?_, rfl⟩<;>(repeat' (first|exact True.intro|exact rfl|(refine ⟨?_,?_⟩)|(intro h;cases h;done)|fail));done) ?_
 rintro i ⟨hi, hp⟩
 by_cases hil : i < l.length
 ·obtain ⟨b, hb⟩ := some_of_lt hil
  rw [lsGo_at hb] at hp
  have w1 := ev_checkBatch y b (by omega)
  have w2 := hq b (List.mem_of_getElem? hb)
  have hm := mget_seen Bt.n b.n (l.take i)
  by_cases hz : batErr y b = 0
  case neg =>
   rw [if_pos hz] at hp
   rw [hp]
   generalize batErr y b = er at *
   conv => whnf
   repeat' (first|((refine PickE.map i hb (by omega) ?_);conv=>whnf)|((with_reducible refine Split.nez (fun _=>?_) (fun _=>?_))<;>conv=>whnf)|((with_reducible refine Split.dec (fun _=>?_) (fun _=>?_))<;>conv=>whnf)|((with_reducible refine Need.mk ?_ ?_);(first|omega|rfl|decide|(refine ⟨?_,?_⟩<;>simp<;>omega)|(simp;omega));conv=>whnf)|((with_reducible refine AltK.l ?_);(conv=>whnf);(first|(refine CallK.mk _ (w1) ?_));conv=>whnf)|(exfalso;first|omega|contradiction)|fail)
   all_goals first
    | rfl
    |(exfalso; omega)
  rw [if_neg (by simpa using hz)] at hp
  rw [hz] at w1
  conv => whnf
  repeat' (first|((refine PickE.map i hb (by omega) ?_);conv=>whnf)|((with_reducible refine Split.is_false ?_ ?_);decide;conv=>whnf)|((with_reducible refine Split.dec (fun _=>?_) (fun _=>?_))<;>conv=>whnf)|((with_reducible refine Need.mk ?_ ?_);(first|omega|rfl|decide|(refine ⟨?_,?_⟩<;>simp<;>omega)|(simp;omega));conv=>whnf)|((with_reducible refine AltK.l ?_);(conv=>whnf);(first|(refine CallK.mk _ (w1) ?_));conv=>whnf)|(exfalso;first|omega|contradiction)|fail)
  refine LookK.mk (fun v hv => ?_) (fun hv => ?_)
  ·rw [hm] at hv
   split at hv
   ·rename_i h3
    cases hv
    rw [if_pos h3] at hp
    rw [hp]
    conv => whnf
    repeat' (first|((with_reducible refine Split.of_true ?_);conv=>whnf)|fail)
    rfl
   ·cases hv
  ·have h3 : ¬ (l.take i).any (fun x => x.n == b.n) = true := fun h => by rw [hm, if_pos h] at hv; cases hv
   rw [if_neg h3] at hp
   have hs := seen_snoc hb hv
   cases hqb : q b.n with
   | true =>
    rw [hqb, if_pos rfl] at hp
    rw [hqb] at w2
    rw [hp]
    conv => whnf
    repeat' (first|((with_reducible first|refine Split.of_true ?_|refine Split.of_false ?_);conv=>whnf)|((with_reducible refine AltK.l ?_);(conv=>whnf);(first|(refine CallK.mk _ (w2) ?_));conv=>whnf)|fail)
    rfl
   | false =>
    rw [hqb, if_neg (by decide)] at hp
    rw [hqb] at w2
    conv => whnf
    repeat' (first|((with_reducible refine Split.of_false ?_);conv=>whnf)|((with_reducible refine Need.mk ?_ ?_);(first|omega|rfl|decide|(refine ⟨?_,?_⟩<;>simp<;>omega)|(simp;omega));conv=>whnf)|((with_reducible refine Wr.inr ?_ ?_);(first|omega|(simp;omega));conv=>whnf)|((with_reducible refine AltK.l ?_);(conv=>whnf);(first|(refine CallK.mk _ (w2) ?_));conv=>whnf)|fail)
    exact Again.au (i + 1) ⟨by omega, hp⟩ (by omega) (by refine ⟨?_, ?_, rfl⟩<;>(repeat' (first|exact True.intro|exact rfl|(refine ⟨?_,?_⟩)|(intro h;cases h;done)|((first|refine own_congr ?_|refine int_congr ?_|skip);simp [hs];done)|fail));done)
 ·rw [List.drop_eq_nil_of_le (show l.length ≤ i by omega)] at hp
  rw [hp]
  conv => whnf
  repeat' (first|((with_reducible refine Split.dec (fun _=>?_) (fun _=>?_))<;>conv=>whnf)|((with_reducible refine Need.mk ?_ ?_);(first|omega|rfl|decide|(refine ⟨?_,?_⟩<;>simp<;>omega)|(simp;omega));conv=>whnf)|(exfalso;first|omega|contradiction)|fail)
  rfl
theorem ev_begin1 (y : Yd) (n : Int) (hn : y.deps.length ≤ 1000000) : Ev Try.prog 85 [iD n, .ref (ydD y).cells 0] (.bool (depB y n)) := by
 have h := ev_deposited y n hn
 refine ev_of_awp tysOk mixed (fn := Try.f85) Try.func85 rfl rfl rfl ?_
 conv => whnf
 repeat' (first|((with_reducible refine AltK.l ?_);(conv=>whnf);(first|(refine CallK.mk _ (h) ?_));conv=>whnf)|fail)
 rfl
def lstE (y : Yd) (l : List Bt) : Int := lsErr y l 12 (depB y)
def bkAt (y : Yd) (k : Nat) : Bk := y.bulk.getD k ⟨⟨#[]⟩, 0, 1⟩
def volsGo (y : Yd) : List Int → List Bt → List Int
 | _, [] => []
 | c, b :: r => volN b (bkAt y (facI y b.soil).toNat) (c.getD (facI y b.soil).toNat 0) :: volsGo y (c.set (facI y b.soil).toNat (carN b (bkAt y (facI y b.soil).toNat) (c.getD (facI y b.soil).toNat 0))) r
def volF (y : Yd) (l : List Bt) : List Int := volsGo y y.carry l
def roomF (y : Yd) : List Int := y.pits.map (roomS y)
def flow0 (y : Yd) (l : List Bt) : List (List Int) := l.map fun _ => List.replicate y.pits.length 0
structure CarOk (y : Yd) (c : List Int) : Prop where
 len : c.length = y.bulk.length
 at_ : ∀ (i : Nat) b z, y.bulk[i]? = some b → c[i]? = some z → 0 ≤ z ∧ z ≤ b.den - 1
theorem lsGo_zero {y : Yd} {q : Int → Bool} : ∀ {r o : List Bt}, lsGo y q o r = 0 → (∀ b ∈ r, batErr y b = 0 ∧ q b.n = false ∧ o.any (fun x => x.n == b.n) = false) ∧ r.Pairwise fun a b => a.n ≠ b.n
 | [], _, _ => ⟨by simp, .nil⟩
 | b :: r, o, h => by
  rw [lsGo] at h
  split at h
  ·contradiction
  rename_i h1
  split at h
  ·cases h
  rename_i h2
  split at h
  ·cases h
  rename_i h3
  obtain ⟨k1, k2⟩ := lsGo_zero h
  refine ⟨fun x hx => ?_, List.pairwise_cons.2 ⟨fun x hx => ?_, k2⟩⟩
  ·rcases List.mem_cons.1 hx with rfl | hx
   ·exact ⟨by simpa using h1, by simpa using h3, by simpa using h2⟩
   ·obtain ⟨a1, a2, a3⟩ := k1 x hx
    rw [List.any_append, Bool.or_eq_false_iff] at a3
    exact ⟨a1, a2, a3.1⟩
  ·have := (k1 x hx).2.2
   rw [List.any_append, Bool.or_eq_false_iff] at this
   simpa using this.2
structure LsOk (y : Yd) (l : List Bt) : Prop where
 yd : ydErr y = 0
 len : l.length ≤ 12
 wok : ∀ b ∈ l, ∃ k f c, Wok y b k f c
 new : ∀ b ∈ l, depB y b.n = false
 dist : l.Pairwise fun a b => a.n ≠ b.n
theorem ls_ok {y : Yd} {l : List Bt} (h : lstE y l = 0) : LsOk y l := by
 unfold lstE lsErr at h
 split at h
 ·contradiction
 rename_i h1
 split at h
 ·cases h
 rename_i h2
 have h1 : ydErr y = 0 := by simpa using h1
 obtain ⟨k1, k2⟩ := lsGo_zero h
 exact ⟨h1, by omega, fun b hb => with_ok (by rw [withErr, if_neg (by simp [h1])]; exact (k1 b hb).1), fun b hb => (k1 b hb).2.1, k2⟩
theorem carN_bd {b : Bt} {f : Bk} {c : Int} (hb : BtOk b) (hf : BkOk f) (hc : 0 ≤ c ∧ c ≤ f.den - 1) : 0 ≤ carN b f c ∧ carN b f c ≤ f.den - 1 := by
 have h1 := hf.den
 obtain ⟨m1, m2⟩ := bulkN_bd hb hf (c := c) (by omega)
 unfold carN
 have d3 := Int.emod_nonneg ((b.bed - b.over) * f.num + c) (show f.den ≠ 0 by omega)
 have d4 := Int.emod_lt_of_pos ((b.bed - b.over) * f.num + c) (show 0 < f.den by omega)
 omega
theorem CarOk.set {y : Yd} {c : List Int} (h : CarOk y c) {k : Nat} {f : Bk} {z : Int} (hf : y.bulk[k]? = some f) (hz : 0 ≤ z ∧ z ≤ f.den - 1) : CarOk y (c.set k z) := by
 refine ⟨by rw [List.length_set]; exact h.len, fun i b w hb hw => ?_⟩
 rw [List.getElem?_set] at hw
 split at hw
 ·rename_i e
  subst e
  split at hw
  ·cases hw
   rw [hf] at hb
   cases hb
   exact hz
  ·cases hw
 ·exact h.at_ i b w hb hw
theorem xv_begin {y : Yd} {l : List Bt} (hs : smallP y) (hl : l.length ≤ 1000000) (h0 : lstE y l = 0) :
 EvX Try.prog 41 [.d (ydD y), .d (.sl 5 (l.map btD))] [] (.tup [.ptr 9 0, .d (iD 0)])
  [(6009, .mat 25 3 0 ((flow0 y l).map fun r => some (r.map iD))), (4009, .row 3 1 ((roomF y).map iD) false), (2009, .row 3 1 ((volF y l).map iD) false),
   (9, .var [.d (.sl 6 (y.pits.map ptD)), .d (.sl 3 (y.bulk.map bkD)), .d (.sl 3 (y.deps.map dpD)), .d (.sl 1 (y.carry.map iD)), .d (.sl 5 (l.map btD)), .own 2009 1 ((volF y l).map iD).length, .own 4009 1 ((roomF y).map iD).length, .own 6009 1 l.length] false)] := by
 have hll : (l.map btD).length = l.length := List.length_map _
 have hlp : (y.pits.map ptD).length = y.pits.length := List.length_map _
 have hO := ls_ok h0
 have hyk := yd_ok hO.yd
 have hb20 := hyk.bulk
 have hp8 := hyk.pits
 have hd200 := hyk.deps
 have hcl := hyk.carL
 have hl12 := hO.len
 have h1 := ev_checkList y l 12 85 [.ref (ydD y).cells 0] (depB y) hs hl (fun b _ => ev_begin1 y b.n (by omega))
 rw [show lsErr y l 12 (depB y) = 0 from h0] at h1
 have hX := EvX.new1 (xs := [.sl 1 (y.carry.map iD)]) (xv_clonedI y.carry (by omega)) 26
 have hrp : ((List.replicate y.pits.length (0 : Int)).map iD).length = y.pits.length := by simp
 refine evx_of_awp tysOk mixed (fn := Try.f41) Try.func41 rfl rfl rfl ?_
 conv => whnf
 repeat' (first|((with_reducible refine Split.is_false ?_ ?_);decide;conv=>whnf)|((with_reducible refine AltK.r ?_);(conv=>whnf);(first|(refine CallX.mk _ _ (hX) rfl ?_));conv=>whnf)|((with_reducible refine AltK.l ?_);(conv=>whnf);(first|(refine CallK.mk _ (h1) ?_));conv=>whnf)|fail)
 refine LoopK.o3 (fun x : Nat × List Int × List Int => x.1 ≤ l.length ∧ volF y l = x.2.2 ++ volsGo y x.2.1 (l.drop x.1) ∧ x.2.2.length = x.1 ∧ CarOk y x.2.1) (fun x => [(29, .d (iD x.1))])
  (fun x => [(23, .var [.d (.sl 6 (y.pits.map ptD)), .d (.sl 3 (y.bulk.map bkD)), .d (.sl 3 (y.deps.map dpD)), .d (.sl 1 (y.carry.map iD)), .d (.sl 5 (l.map btD)), .own 200 1 (x.2.2.map iD).length, .nil 1, .own 201 1 ((flow0 y (l.take x.1)).map fun r => some (r.map iD)).length] false),
    (200, .row 3 1 (x.2.2.map iD) false), (201, .mat 25 3 0 ((flow0 y (l.take x.1)).map fun r => some (r.map iD))), (26, .row 3 1 (x.2.1.map iD) false)]) (fun x => l.length - x.1) (0, y.carry, [])
  ⟨by omega, rfl, rfl, hcl, hyk.car⟩ (by refine ⟨?_, ?_, rfl⟩<;>(repeat' (first|exact True.intro|exact rfl|(refine ⟨?_,?_⟩)|(intro h;cases h;done)|(intro h;exact h)|fail));done) ?_
 rintro ⟨i, c, pre⟩ ⟨hi, hv, hpl, hc⟩
 dsimp only at hi hv hpl hc ⊢
 have hcl' := hc.len
 have hpm : (pre.map iD).length = pre.length := List.length_map _
 have hfm : ((flow0 y (l.take i)).map fun r => some (r.map iD)).length = i := by rw [List.length_map, flow0, List.length_map, List.length_take]; omega
 have hfm2 : (flow0 y (l.take i)).length = i := by rw [flow0, List.length_map, List.length_take]; omega
 by_cases hil : i < l.length
 ·obtain ⟨b, hb⟩ := some_of_lt hil
  obtain ⟨k, f, z0, hW⟩ := hO.wok b (List.mem_of_getElem? hb)
  obtain ⟨z, hz⟩ := some_of_lt (show k < c.length by rw [hcl']; exact lt_of_some hW.fat)
  have hzb := hc.at_ k f z hW.fat hz
  have hden := hW.fo.den
  have hB := xv_bulked y b c hb20 hW.ixk hW.fat hz hW.bok hW.fo (by omega)
  rw [show (c.map iD).length = (y.carry.map iD).length by rw [List.length_map, List.length_map, hcl', hcl]] at hB
  have hB := hB.rn [(1000, 26)] rfl
  have hmb := bulkN_bd hW.bok hW.fo (c := z) (by omega)
  have ek : (facI y b.soil).toNat = k := by rw [hW.ixk]; rfl
  have ef : bkAt y k = f := by rw [bkAt, List.getD, hW.fat]; rfl
  have ec : c.getD k 0 = z := by rw [List.getD, hz]; rfl
  rw [drop_of hb, volsGo, ek, ef, ec] at hv
  have hcar := carN_bd (b := b) (f := f) (c := z) hW.bok hW.fo hzb
  rw [show ((b.bed - b.over) * f.num + z) / f.den = volN b f z from rfl, show ((b.bed - b.over) * f.num + z) % f.den = carN b f z from rfl] at hB
  generalize volN b f z = v at *
  generalize carN b f z = cn at *
  conv => whnf
  repeat' (first|((refine PickE.map i hb (by omega) ?_);conv=>whnf)|((with_reducible refine Split.dec (fun _=>?_) (fun _=>?_))<;>conv=>whnf)|((with_reducible refine Need.mk ?_ ?_);(first|omega|rfl|decide|(refine ⟨?_,?_⟩<;>simp<;>omega)|(simp;omega));conv=>whnf)|((with_reducible refine Wr.inr ?_ ?_);(first|omega|(simp;omega));conv=>whnf)|((with_reducible refine AltK.r ?_);(conv=>whnf);(first|(refine CallX.mk _ _ (hB) rfl ?_));conv=>whnf)|(exfalso;first|omega|contradiction)|fail)
  have hmp1 : pre.map iD ++ iD v :: List.replicate 0 (D.int .i64 0) = (pre ++ [v]).map iD := by simp
  have hmp2 : ((flow0 y (l.take i)).map fun r => some (r.map iD)) ++ [some (List.replicate ((y.pits.map ptD).length : Int).toNat (D.int .i64 0))] = (flow0 y (l.take (i + 1))).map fun r => some (r.map iD) := by
   rw [take_snoc hb, flow0, flow0, List.map_append, List.map_append]
   simp [iD]
  refine Again.av (i + 1, c.set k cn, pre ++ [v]) ⟨by dsimp only; omega, by rw [hv]; simp, by simp only [List.length_append, List.length_singleton]; omega, hc.set hW.fat hcar⟩ (by dsimp only; omega) ?_
  dsimp only
  have hfm3 : (flow0 y (l.take (i + 1))).length = i + 1 := by rw [flow0, List.length_map, List.length_take]; omega
  exact (by refine ⟨?_, ?_, rfl⟩<;>(repeat' (first|exact True.intro|exact rfl|(refine ⟨?_,?_⟩)|(intro h;cases h;done)|(intro h;exact h)|exact map_snoc|(refine own_congr ?_;simp;done)|exact hmp2|((first|refine own_congr ?_|refine int_congr ?_|skip);simp [hfm2,hfm3];done)|fail));done)
 ·have hie : i = l.length := by omega
  subst hie
  rw [List.drop_length, volsGo, List.append_nil] at hv
  rw [List.take_length, ← hv]
  have hfl : ((flow0 y l).map fun r => some (r.map iD)).length = l.length := by rw [List.length_map, flow0, List.length_map]
  clear hc hcl' hpm hfm hfm2 hi hil
  conv => whnf
  repeat' (first|((with_reducible refine Split.dec (fun _=>?_) (fun _=>?_))<;>conv=>whnf)|((with_reducible refine Need.mk ?_ ?_);(first|omega|rfl|decide|(refine ⟨?_,?_⟩<;>simp<;>omega)|(simp;omega));conv=>whnf)|(exfalso;first|omega|contradiction)|fail)
  refine LoopK.o3 (fun i : Nat => i ≤ y.pits.length) (fun i => [(63, .d (iD i))])
   (fun i => [(23, .var [.d (.sl 6 (y.pits.map ptD)), .d (.sl 3 (y.bulk.map bkD)), .d (.sl 3 (y.deps.map dpD)), .d (.sl 1 (y.carry.map iD)), .d (.sl 5 (l.map btD)), .own 200 1 ((volF y l).map iD).length, .own 202 1 (((y.pits.take i).map (roomS y)).map iD).length, .own 201 1 ((flow0 y l).map fun r => some (r.map iD)).length] false),
     (202, .row 3 1 (((y.pits.take i).map (roomS y)).map iD) false)]) (fun i => y.pits.length - i) 0 (by omega) (by refine ⟨?_, ?_, rfl⟩<;>(repeat' (first|exact True.intro|exact rfl|(refine ⟨?_,?_⟩)|(intro h;cases h;done)|(intro h;exact h)|fail));done) ?_
  rintro i hi
  dsimp only at hi ⊢
  have hrl : (((y.pits.take i).map (roomS y)).map iD).length = i := by rw [List.length_map, List.length_map, List.length_take]; omega
  by_cases hil : i < y.pits.length
  ·obtain ⟨p, hp⟩ := some_of_lt hil
   have hr := ev_room y (hyk.pit p (List.mem_of_getElem? hp)).1 hyk.vol (by omega)
   have hmp1 : ((y.pits.take i).map (roomS y)).map iD ++ iD (roomS y p) :: List.replicate 0 (D.int .i64 0) = ((y.pits.take (i + 1)).map (roomS y)).map iD := by rw [take_snoc hp]; simp
   have hsn := take_snoc hp
   conv => whnf
   repeat' (first|((refine PickE.map i hp (by omega) ?_);conv=>whnf)|((with_reducible refine Split.dec (fun _=>?_) (fun _=>?_))<;>conv=>whnf)|((with_reducible refine Need.mk ?_ ?_);(first|omega|rfl|decide|(refine ⟨?_,?_⟩<;>simp<;>omega)|(simp;omega));conv=>whnf)|((with_reducible refine Wr.inr ?_ ?_);(first|omega|(simp;omega));conv=>whnf)|((with_reducible refine AltK.l ?_);(conv=>whnf);(first|(refine CallK.mk _ (hr) ?_));conv=>whnf)|(exfalso;first|omega|contradiction)|fail)
   refine Again.av (i + 1) (by omega) (by omega) ?_
   exact (by refine ⟨?_, ?_, rfl⟩<;>(repeat' (first|exact True.intro|exact rfl|(refine ⟨?_,?_⟩)|(intro h;cases h;done)|(intro h;exact h)|exact hmp1|((first|refine own_congr ?_|refine int_congr ?_|skip);simp [hsn];done)|fail));done)
  ·have hie : i = y.pits.length := by omega
   subst hie
   rw [List.take_length]
   have hro : y.pits.map (roomS y) = roomF y := rfl
   rw [hro]
   conv => whnf
   repeat' (first|((with_reducible refine Split.dec (fun _=>?_) (fun _=>?_))<;>conv=>whnf)|((with_reducible refine Need.mk ?_ ?_);(first|omega|rfl|decide|(refine ⟨?_,?_⟩<;>simp<;>omega)|(simp;omega));conv=>whnf)|(exfalso;first|omega|contradiction)|fail)
   exact ⟨⟨[(9, some 23), (2009, some 200), (4009, some 202), (6009, some 201)], (by refine ⟨?_, ?_, rfl⟩<;>(repeat' (first|exact True.intro|exact rfl|(refine ⟨?_,?_⟩)|(intro h;cases h;done)|((first|refine own_congr ?_|refine int_congr ?_|skip);simp [hfl];done)|fail));done)⟩, rfl⟩
end Go.Proofs.Try
end

section
namespace Go.Proofs.Try
open Go Go.Vm
set_option maxRecDepth 20000
set_option maxHeartbeats 8000000
/-! DisposalBatches, DisposalPits, given awake. -/
structure SmB (y : Yd) : Prop where
 p : y.pits.length ≤ 12
 b : y.bulk.length ≤ 25
 c : y.carry.length ≤ 30
 d : y.deps.length ≤ 205
 cl : ∀ x ∈ y.pits, x.cls.length ≤ 12
theorem SmB.sp {y : Yd} (h : SmB y) : smallP y := fun p hp => Nat.le_trans (h.cl p hp) (by decide)
end Go.Proofs.Try
end

section
namespace Go.Proofs.Try
open Go Go.Vm
set_option maxRecDepth 20000
set_option maxHeartbeats 8000000
/-! DisposalReasons, given awake. -/
theorem nmGo_dist {α : Type} {nm : α → ByteArray} {own : α → Int} : ∀ {r o : List α}, nmGo nm own o r = 0 → (∀ x ∈ r, metB nm o (nm x) = false) ∧ r.Pairwise fun a b => nm a ≠ nm b
 | [], _, _ => ⟨fun _ h => (by cases h), List.Pairwise.nil⟩
 | a :: r, o, h => by
  rw [nmGo] at h
  split at h
  ·cases h
  split at h
  ·cases h
  rename_i h2
  split at h
  ·contradiction
  obtain ⟨i1, i2⟩ := nmGo_dist h
  have key : ∀ x ∈ r, metB nm o (nm x) = false ∧ nm a ≠ nm x := fun x hx => by
   have := i1 x hx
   rw [metB, List.any_append, Bool.or_eq_false_iff] at this
   exact ⟨this.1, by simpa using this.2⟩
  refine ⟨fun x hx => ?_, List.pairwise_cons.2 ⟨fun x hx => (key x hx).2, i2⟩⟩
  rcases List.mem_cons.1 hx with rfl | hx
  ·simpa using h2
  ·exact (key x hx).1
theorem yd_dist {y : Yd} (h : ydErr y = 0) : y.pits.Pairwise fun a b => a.name ≠ b.name := by
 unfold ydErr at h
 split at h
 ·cases h
 split at h
 ·contradiction
 rename_i h1
 exact (nmGo_dist (show nmGo Pt.name ptErr [] y.pits = 0 by simpa using h1)).2
theorem pitI_self {y : Yd} (h : ydErr y = 0) {j : Nat} {p : Pt} (hp : y.pits[j]? = some p) : pitI y p.name = j := by
 have hd := yd_dist h
 have e : y.pits.findIdx? (fun q => sEq q.name p.name) = some j := by
  obtain ⟨hj, he⟩ := List.getElem?_eq_some_iff.1 hp
  rw [List.findIdx?_eq_some_iff_getElem]
  refine ⟨hj, by rw [he]; exact sEq_self _, fun i hi => ?_⟩
  have := List.pairwise_iff_getElem.1 hd i j (by omega) hj hi
  rw [he] at this
  rw [sEq_ne this]; decide
 rw [pitI, ixI, e]
end Go.Proofs.Try
end

section
namespace Go.Proofs.Try
open Go Go.Vm
set_option maxRecDepth 20000
/-! The flow, in plain Lean: cells, what is left, what is free. -/
theorem sum_set9 : ∀ {l : List Int} {i : Nat} {v : Int}, i < l.length → (l.set i v).sum = l.sum - l.getD i 0 + v
 | [], _, _, h => absurd h (by simp)
 | x :: r, 0, v, _ => by simp; omega
 | x :: r, i + 1, v, h => by
  have ih := sum_set9 (l := r) (i := i) (v := v) (by simpa using h)
  simp only [List.set_cons_succ, List.sum_cons, ih]
  have : (x :: r).getD (i + 1) 0 = r.getD i 0 := by simp [List.getD]
  rw [this]; omega
theorem getD_set9 {α : Type} {l : List α} {k j : Nat} {v d : α} (hk : k < l.length) : (l.set k v).getD j d = if k = j then v else l.getD j d := by
 rw [List.getD, List.getElem?_set]
 by_cases e : k = j
 ·subst e; rw [if_pos rfl, if_pos hk, if_pos rfl]; rfl
 ·rw [if_neg e, if_neg e]; rfl
structure Dim (P L : Nat) (fl : List (List Int)) : Prop where
 len : fl.length = L
 row : ∀ r ∈ fl, r.length = P
theorem Dim.rowD {P L : Nat} {fl : List (List Int)} (h : Dim P L fl) {b : Nat} (hb : b < L) : (fl.getD b []).length = P := by
 rw [List.getD, List.getElem?_eq_getElem (by rw [h.len]; exact hb)]
 exact h.row _ (List.getElem_mem _)
theorem Dim.add {P L : Nat} {fl : List (List Int)} (h : Dim P L fl) (b p : Nat) (a : Int) : Dim P L (addF fl b p a) := ⟨addF_len.trans h.len, addF_row h.row⟩
theorem cell_add {P L : Nat} {fl : List (List Int)} (h : Dim P L fl) {b p b' p' : Nat} {a : Int} (hb : b < L) (hp : p < P) : cellZ (addF fl b p a) b' p' = cellZ fl b' p' + if b = b' ∧ p = p' then a else 0 := by
 unfold cellZ addF
 rw [getD_set9 (by rw [h.len]; exact hb)]
 by_cases e : b = b'
 ·subst e
  rw [if_pos rfl, getD_set9 (by rw [h.rowD hb]; exact hp)]
  by_cases e2 : p = p'
  ·subst e2; rw [if_pos rfl, if_pos ⟨rfl, rfl⟩]; rfl
  ·rw [if_neg e2, if_neg (fun h => e2 h.2)]; omega
 ·rw [if_neg e, if_neg (fun h => e h.1)]; omega
theorem left_add {P L : Nat} {vol : List Int} {fl : List (List Int)} (h : Dim P L fl) {b p b' : Nat} {a : Int} (hb : b < L) (hp : p < P) : leftF vol (addF fl b p a) b' = leftF vol fl b' - if b = b' then a else 0 := by
 unfold leftF addF
 rw [getD_set9 (by rw [h.len]; exact hb)]
 by_cases e : b = b'
 ·subst e
  rw [if_pos rfl, if_pos rfl, sum_set9 (by rw [h.rowD hb]; exact hp)]
  unfold cellZ; omega
 ·rw [if_neg e, if_neg e]; omega
theorem free_add {P L : Nat} {room : List Int} {fl : List (List Int)} (h : Dim P L fl) {b p p' : Nat} {a : Int} (hb : b < L) (hp : p < P) : freeF room (addF fl b p a) p' = freeF room fl p' - if p = p' then a else 0 := by
 unfold freeF addF
 rw [List.map_set, sum_set9 (by rw [List.length_map, h.len]; exact hb)]
 have e1 : (fl.map fun r => r.getD p' 0).getD b 0 = cellZ fl b p' := by
  unfold cellZ
  simp only [List.getD_eq_getElem?_getD, List.getElem?_map]
  cases fl[b]? <;> simp
 rw [e1, getD_set9 (by rw [h.rowD hb]; exact hp)]
 by_cases e : p = p'
 ·subst e; rw [if_pos rfl, if_pos rfl]; omega
 ·rw [if_neg e, if_neg e]; unfold cellZ; omega
structure FlOk (acc : Nat → Nat → Bool) (P L : Nat) (vol room : List Int) (fl : List (List Int)) : Prop where
 dim : Dim P L fl
 nn : ∀ b p, 0 ≤ cellZ fl b p
 ac : ∀ b p, 0 < cellZ fl b p → acc p b = true
 lf : ∀ b, b < L → 0 ≤ leftF vol fl b
 fr : ∀ p, p < P → 0 ≤ freeF room fl p
theorem mem_le_sum {l : List Int} (h : ∀ x ∈ l, 0 ≤ x) {x : Int} (hx : x ∈ l) : x ≤ l.sum := by
 induction l with
 | nil => cases hx
 | cons y r ih =>
  have hr := sum_nn (l := r) fun z hz => h z (List.mem_cons_of_mem _ hz)
  have hy := h y List.mem_cons_self
  rw [List.sum_cons]
  rcases List.mem_cons.1 hx with rfl | hx
  ·omega
  ·have := ih (fun z hz => h z (List.mem_cons_of_mem _ hz)) hx; omega
theorem okFl_of {P L : Nat} {vol : List Int} {fl : List (List Int)} (hd : Dim P L fl) (hn : ∀ b p, 0 ≤ cellZ fl b p) (hl : ∀ b, b < L → 0 ≤ leftF vol fl b) (hv : ∀ b, vol.getD b 0 ≤ 100000000000000000) : okFl fl = true := by
 rw [okFl, List.all_eq_true]
 intro r hr
 rw [List.all_eq_true]
 intro x hx
 obtain ⟨b, hb⟩ := List.getElem?_of_mem hr
 have hbl : b < L := by rw [← hd.len]; exact lt_of_some hb
 have hrD : fl.getD b [] = r := by rw [List.getD, hb]; rfl
 have hnr : ∀ z ∈ r, 0 ≤ z := fun z hz => by
  obtain ⟨p, hp⟩ := List.getElem?_of_mem hz
  have := hn b p
  rw [cellZ, hrD, List.getD, hp] at this
  exact this
 have h1 := mem_le_sum hnr hx
 have h2 := hl b hbl
 have h3 := hv b
 have h4 := hnr x hx
 unfold leftF at h2
 rw [hrD] at h2
 simp [okZ]; omega
/-! Ways. -/
def cvW (x : Nat × Nat × Int) : Int × Int × Int := ((x.1 : Int), (x.2.1 : Int), x.2.2)
inductive Way (acc : Nat → Nat → Bool) (P L : Nat) (vol : List Int) (fl : List (List Int)) : Nat → List (Nat × Nat × Int) → Prop
 | base {b p : Nat} (hb : b < L) (hp : p < P) (ha : acc p b = true) (hl : 0 < leftF vol fl b) : Way acc P L vol fl p [(b, p, -1)]
 | step {b p q : Nat} {st : List (Nat × Nat × Int)} (hb : b < L) (hp : p < P) (ha : acc p b = true) (hq : q < P) (hc : 0 < cellZ fl b q) (h : Way acc P L vol fl q st)
  (h1 : b ∉ st.map (·.1)) (h2 : p ∉ st.map (·.2.1)) : Way acc P L vol fl p ((b, p, (q : Int)) :: st)
theorem Way.change {acc : Nat → Nat → Bool} {P L : Nat} {vol : List Int} {fl fl' : List (List Int)} {p : Nat} {st : List (Nat × Nat × Int)} (h : Way acc P L vol fl p st)
 (hc : ∀ x ∈ st, ∀ q, cellZ fl' x.1 q = cellZ fl x.1 q) (hl : ∀ x ∈ st, leftF vol fl' x.1 = leftF vol fl x.1) : Way acc P L vol fl' p st := by
 induction h with
 | base hb hp ha hl' =>
  refine .base hb hp ha ?_
  have := hl (_, _, _) List.mem_cons_self
  simp only at this
  rw [this]; exact hl'
 | step hb hp ha hq hcc h h1 h2 ih =>
  refine .step hb hp ha hq ?_ (ih (fun x hx => hc x (List.mem_cons_of_mem _ hx)) (fun x hx => hl x (List.mem_cons_of_mem _ hx))) h1 h2
  have := hc (_, _, _) List.mem_cons_self
  simp only at this
  rw [this]; exact hcc
theorem stepOk_cv {P L b p : Nat} {f : Int} (hb : b < L) (hp : p < P) (hf : f < P) : stepOk P L (cvW (b, p, f)) = true := by
 simp only [stepOk, cvW, Bool.and_eq_true]
 exact ⟨⟨⟨⟨decide_eq_true (by omega), decide_eq_true (by omega)⟩, decide_eq_true (by omega)⟩, decide_eq_true (by omega)⟩, decide_eq_true hf⟩
def Fits (vol : List Int) (fl : List (List Int)) (a : Int) (st : List (Nat × Nat × Int)) : Prop := ∀ x ∈ st, (x.2.2 < 0 → a ≤ leftF vol fl x.1) ∧ (0 ≤ x.2.2 → a ≤ cellZ fl x.1 x.2.2.toNat)
def srcW : List (Nat × Nat × Int) → Nat
 | [] => 0
 | [x] => x.1
 | _ :: r => srcW r
theorem Way.ne {acc : Nat → Nat → Bool} {P L : Nat} {vol : List Int} {fl : List (List Int)} {p : Nat} {st : List (Nat × Nat × Int)} (h : Way acc P L vol fl p st) : st ≠ [] := by cases h <;> simp
theorem srcW_cons {x : Nat × Nat × Int} {st : List (Nat × Nat × Int)} (h : st ≠ []) : srcW (x :: st) = srcW st := by
 cases st with
 | nil => exact absurd rfl h
 | cons y r => rfl
theorem Way.src {acc : Nat → Nat → Bool} {P L : Nat} {vol : List Int} {fl : List (List Int)} {p : Nat} {st : List (Nat × Nat × Int)} (h : Way acc P L vol fl p st) : srcW st < L ∧ srcW st ∈ st.map (·.1) := by
 induction h with
 | base hb => exact ⟨hb, by simp [srcW]⟩
 | step hb hp ha hq hc h h1 h2 ih => rw [srcW_cons h.ne]; exact ⟨ih.1, List.mem_cons_of_mem _ ih.2⟩
theorem ap_way {acc : Nat → Nat → Bool} {P L : Nat} {vol room : List Int} (hv : ∀ b, vol.getD b 0 ≤ 100000000000000000) {a : Int} (ha : 0 < a) {p : Nat} {st : List (Nat × Nat × Int)} :
 ∀ {fl : List (List Int)}, Way acc P L vol fl p st → Fits vol fl a st → Dim P L fl → (∀ b q, 0 ≤ cellZ fl b q) → (∀ b q, 0 < cellZ fl b q → acc q b = true) → (∀ b, b < L → 0 ≤ leftF vol fl b) →
 ∃ fl', apF P L a fl (st.map cvW) = some fl' ∧ Dim P L fl' ∧ (∀ b q, 0 ≤ cellZ fl' b q) ∧ (∀ b q, 0 < cellZ fl' b q → acc q b = true) ∧
  (∀ b, leftF vol fl' b = leftF vol fl b - if srcW st = b then a else 0) ∧ (∀ q, freeF room fl' q = freeF room fl q - if p = q then a else 0) ∧
  (∀ b, b ∉ st.map (·.1) → ∀ q, cellZ fl' b q = cellZ fl b q) ∧ (∀ b q, q ∉ st.map (·.2.1) → cellZ fl' b q = cellZ fl b q) := by
 induction st generalizing p with
 | nil => intro fl h; exact absurd rfl h.ne
 | cons x st ih =>
  intro fl h hf hd hn hac hl
  cases h with
  | base hb hp hacc hl' =>
   rename_i b
   have hfit := (hf _ List.mem_cons_self).1 (show (-1 : Int) < 0 by decide)
   simp only at hfit
   have hd1 := hd.add b p a
   have c1 : ∀ b' q, cellZ (addF fl b p a) b' q = cellZ fl b' q + if b = b' ∧ p = q then a else 0 := fun b' q => cell_add hd hb hp
   have l1 : ∀ b', leftF vol (addF fl b p a) b' = leftF vol fl b' - if b = b' then a else 0 := fun b' => left_add hd hb hp
   have n1 : ∀ b' q, 0 ≤ cellZ (addF fl b p a) b' q := fun b' q => by rw [c1]; have := hn b' q; split <;> omega
   have lf1 : ∀ b', b' < L → 0 ≤ leftF vol (addF fl b p a) b' := fun b' hb' => by
    rw [l1]; have := hl b' hb'
    split
    ·rename_i e; subst e; omega
    ·omega
   have hok := okFl_of hd1 n1 lf1 hv
   refine ⟨addF fl b p a, ?_, hd1, n1, fun b' q hq => ?_, fun b' => l1 b', fun q => free_add hd hb hp, fun b' hb' q => ?_, fun b' q hq => ?_⟩
   ·have e : apSt a fl (cvW (b, p, -1)) = addF fl b p a := by simp [apSt, cvW]
    rw [List.map_cons, List.map_nil, apF, e, if_pos ⟨stepOk_cv hb hp (by omega), hok⟩, apF]
   ·rw [c1] at hq
    split at hq
    ·rename_i e; rw [← e.1, ← e.2]; exact hacc
    ·exact hac b' q (by omega)
   ·rw [c1, if_neg (fun e => hb' (by simp [e.1])), Int.add_zero]
   ·rw [c1, if_neg (fun e => hq (by simp [e.2])), Int.add_zero]
  | step hb hp hacc hq hcc h h1 h2 =>
   rename_i b q
   have hfit := (hf _ List.mem_cons_self).2 (by simp)
   simp only [Int.toNat_natCast] at hfit
   have hpq : p ≠ q := by
    intro e; subst e
    apply h2
    cases h <;> simp
   have hd1 := hd.add b p a
   have hd2 := hd1.add b q (-a)
   have c1 : ∀ b' q', cellZ (addF (addF fl b p a) b q (-a)) b' q' = cellZ fl b' q' + (if b = b' ∧ p = q' then a else 0) + if b = b' ∧ q = q' then -a else 0 := fun b' q' => by rw [cell_add hd1 hb hq, cell_add hd hb hp]
   have l1 : ∀ b', leftF vol (addF (addF fl b p a) b q (-a)) b' = leftF vol fl b' := fun b' => by
    rw [left_add hd1 hb hq, left_add hd hb hp]; split <;> omega
   have f1 : ∀ q', freeF room (addF (addF fl b p a) b q (-a)) q' = freeF room fl q' - (if p = q' then a else 0) - if q = q' then -a else 0 := fun q' => by rw [free_add hd1 hb hq, free_add hd hb hp]
   have n1 : ∀ b' q', 0 ≤ cellZ (addF (addF fl b p a) b q (-a)) b' q' := fun b' q' => by
    rw [c1]
    have := hn b' q'
    by_cases e1 : b = b' ∧ q = q'
    ·rw [if_pos e1, if_neg (fun e => hpq (e.2.trans e1.2.symm)), ← e1.1, ← e1.2]; omega
    ·rw [if_neg e1]; split <;> omega
   have a1 : ∀ b' q', 0 < cellZ (addF (addF fl b p a) b q (-a)) b' q' → acc q' b' = true := fun b' q' hq' => by
    rw [c1] at hq'
    by_cases e1 : b = b' ∧ p = q'
    ·rw [← e1.1, ← e1.2]; exact hacc
    ·rw [if_neg e1] at hq'
     refine hac b' q' ?_
     split at hq' <;> omega
   have lf1 : ∀ b', b' < L → 0 ≤ leftF vol (addF (addF fl b p a) b q (-a)) b' := fun b' hb' => by rw [l1]; exact hl b' hb'
   have hok := okFl_of hd2 n1 lf1 hv
   have keepC : ∀ x ∈ st, ∀ q', cellZ (addF (addF fl b p a) b q (-a)) x.1 q' = cellZ fl x.1 q' := fun x hx q' => by
    have hne : ¬ b = x.1 := fun e => h1 (List.mem_map.2 ⟨x, hx, e.symm⟩)
    rw [c1, if_neg (fun e => hne e.1), if_neg (fun e => hne e.1)]; omega
   have hw := h.change keepC (fun x _ => l1 x.1)
   have hf2 : Fits vol (addF (addF fl b p a) b q (-a)) a st := fun x hx => by
    have := hf x (List.mem_cons_of_mem _ hx)
    rw [l1, keepC x hx]; exact this
   obtain ⟨fl', r1, r2, r3, r4, r5, r6, r7, r8⟩ := ih hw hf2 hd2 n1 a1 lf1
   have e : apSt a fl (cvW (b, p, (q : Int))) = addF (addF fl b p a) b q (-a) := by
    simp [apSt, cvW]
   refine ⟨fl', ?_, r2, r3, r4, fun b' => ?_, fun q' => ?_, fun b' hb' q' => ?_, fun b' q' hq' => ?_⟩
   ·rw [List.map_cons, apF, e, if_pos ⟨stepOk_cv hb hp (by omega), hok⟩]
    exact r1
   ·rw [r5, l1, srcW_cons h.ne]
   ·rw [r6, f1]
    by_cases e1 : q = q'
    ·rw [if_pos e1, if_pos e1, if_neg (fun e2 => hpq (e2.trans e1.symm))]; omega
    ·rw [if_neg e1, if_neg e1]; omega
   ·rw [List.map_cons, List.mem_cons, not_or] at hb'
    rw [r7 b' hb'.2, c1, if_neg (fun e => hb'.1 e.1.symm), if_neg (fun e => hb'.1 e.1.symm)]; omega
   ·rw [List.map_cons, List.mem_cons, not_or] at hq'
    have hq2 : ¬ q = q' := fun e2 => hq'.2 (by subst e2; cases h <;> simp)
    rw [r8 b' q' hq'.2, c1, if_neg (fun e => hq'.1 e.2.symm), if_neg (fun e => hq2 e.2)]; omega
end Go.Proofs.Try
end

section
namespace Go.Proofs.Try
open Go Go.Vm
set_option maxRecDepth 20000
/-! The flow, in plain Lean: what is reached. -/
theorem hasN_app {m : List (Nat × Int)} {k j : Nat} {v : Int} : hasN (m ++ [(k, v)]) j = true ↔ hasN m j = true ∨ k = j := by
 simp [hasN]
theorem getZ_old {m : List (Nat × Int)} {k j : Nat} {v : Int} (h : hasN m j = true) : getZ (m ++ [(k, v)]) j = getZ m j := by
 unfold getZ
 rw [List.find?_append]
 cases hf : m.find? (fun e => e.1 == j) with
 | none =>
  exfalso
  obtain ⟨e, he, hj⟩ := List.any_eq_true.1 h
  have := List.find?_eq_none.1 hf e he
  exact this hj
 | some e => rfl
theorem getZ_new {m : List (Nat × Int)} {k : Nat} {v : Int} (h : hasN m k = false) : getZ (m ++ [(k, v)]) k = v := by
 unfold getZ
 rw [List.find?_append]
 have : m.find? (fun e => e.1 == k) = none := by
  rw [List.find?_eq_none]
  intro e he
  have := List.any_eq_false.1 h e he
  exact this
 rw [this]; simp
def InW (s : Rs) (st : List (Nat × Nat × Int)) : Prop := ∀ x ∈ st, hasN s.ps x.2.1 = true ∧ getZ s.ps x.2.1 = x.1 ∧ hasN s.bs x.1 = true ∧ getZ s.bs x.1 = x.2.2
structure St9 (s s' : Rs) : Prop where
 ep : ∀ k, hasN s.ps k = true → hasN s'.ps k = true ∧ getZ s'.ps k = getZ s.ps k
 eb : ∀ k, hasN s.bs k = true → hasN s'.bs k = true ∧ getZ s'.bs k = getZ s.bs k
 q : ∃ t, s'.q = s.q ++ t ∧ ∀ b, hasN s'.bs b = true → hasN s.bs b = true ∨ b ∈ t
 cnt : s'.bs.length + s.q.length = s.bs.length + s'.q.length
theorem St9.rfl' {s : Rs} : St9 s s := ⟨fun _ h => ⟨h, rfl⟩, fun _ h => ⟨h, rfl⟩, ⟨[], by simp, fun _ h => .inl h⟩, rfl⟩
theorem St9.trans {s s' s'' : Rs} (h : St9 s s') (h' : St9 s' s'') : St9 s s'' := by
 refine ⟨fun k hk => ?_, fun k hk => ?_, ?_, ?_⟩
 ·obtain ⟨a1, a2⟩ := h.ep k hk
  obtain ⟨b1, b2⟩ := h'.ep k a1
  exact ⟨b1, b2.trans a2⟩
 ·obtain ⟨a1, a2⟩ := h.eb k hk
  obtain ⟨b1, b2⟩ := h'.eb k a1
  exact ⟨b1, b2.trans a2⟩
 ·obtain ⟨t, h1, h2⟩ := h.q
  obtain ⟨t', h1', h2'⟩ := h'.q
  refine ⟨t ++ t', by rw [h1', h1, List.append_assoc], fun b hb => ?_⟩
  rcases h2' b hb with hb | hb
  ·rcases h2 b hb with hb | hb
   ·exact .inl hb
   ·exact .inr (List.mem_append_left _ hb)
  ·exact .inr (List.mem_append_right _ hb)
 ·have := h.cnt; have := h'.cnt; omega
theorem InW.ext {s s' : Rs} {st : List (Nat × Nat × Int)} (h : InW s st) (he : St9 s s') : InW s' st := fun x hx => by
 obtain ⟨a, b, c, d⟩ := h x hx
 obtain ⟨a1, a2⟩ := he.ep _ a
 obtain ⟨c1, c2⟩ := he.eb _ c
 exact ⟨a1, a2.trans b, c1, c2.trans d⟩
structure RsI (acc : Nat → Nat → Bool) (P L : Nat) (vol : List Int) (fl : List (List Int)) (s : Rs) : Prop where
 bn : (s.bs.map (·.1)).Nodup
 bl : ∀ e ∈ s.bs, e.1 < L
 pl : ∀ p, hasN s.ps p = true → p < P
 pw : ∀ p, hasN s.ps p = true → ∃ st, Way acc P L vol fl p st ∧ InW s st
 bw : ∀ b, hasN s.bs b = true → (getZ s.bs b = -1 ∧ 0 < leftF vol fl b) ∨ ∃ (q : Nat) (st : List (Nat × Nat × Int)), getZ s.bs b = (q : Int) ∧ 0 < cellZ fl b q ∧ q < P ∧ Way acc P L vol fl q st ∧ InW s st ∧ b ∉ st.map (·.1)
 qb : ∀ b ∈ s.q, hasN s.bs b = true
 start : ∀ b, b < L → 0 < leftF vol fl b → hasN s.bs b = true
theorem hasN_mem {m : List (Nat × Int)} {k : Nat} : hasN m k = true ↔ k ∈ m.map (·.1) := by
 simp [hasN]
theorem RsI.blt {acc : Nat → Nat → Bool} {P L : Nat} {vol : List Int} {fl : List (List Int)} {s : Rs} (h : RsI acc P L vol fl s) {b : Nat} (hb : hasN s.bs b = true) : b < L := by
 obtain ⟨e, he, hj⟩ := List.any_eq_true.1 hb
 have := h.bl e he
 simp at hj
 omega
section
variable {acc : Nat → Nat → Bool} {P L : Nat} {vol : List Int} {fl : List (List Int)}
theorem stO_ok {s : Rs} {p o : Nat} (h : RsI acc P L vol fl s) (hp : hasN s.ps p = true) (ho : o < L) : RsI acc P L vol fl (stO fl p s o) ∧ St9 s (stO fl p s o) ∧ (0 < cellZ fl o p → hasN (stO fl p s o).bs o = true) := by
 unfold stO
 split
 ·rename_i hk
  exact ⟨h, .rfl', fun _ => hk⟩
 rename_i hk
 have hk : hasN s.bs o = false := by simpa using hk
 split
 ·rename_i hc
  have he : St9 s ⟨s.bs ++ [(o, (p : Int))], s.ps, s.q ++ [o]⟩ := by
   refine ⟨fun _ h => ⟨h, rfl⟩, fun k hk' => ⟨hasN_app.2 (.inl hk'), getZ_old hk'⟩, ⟨[o], rfl, fun b hb => ?_⟩, by simp only [List.length_append, List.length_singleton]; omega⟩
   rcases hasN_app.1 hb with hb | hb
   ·exact .inl hb
   ·exact .inr (by simp [hb])
  refine ⟨⟨?_, fun e he' => ?_, h.pl, fun q hq => ?_, fun b hb => ?_, fun b hb => ?_, fun b hb hl => (he.eb b (h.start b hb hl)).1⟩, he, fun _ => hasN_app.2 (.inr rfl)⟩
  ·rw [List.map_append, List.nodup_append]
   refine ⟨h.bn, by simp, fun a ha b hb => ?_⟩
   simp at hb
   subst hb
   intro e
   subst e
   rw [hasN_mem.2 ha] at hk
   cases hk
  ·rcases List.mem_append.1 he' with h1 | h1
   ·exact h.bl e h1
   ·rw [List.mem_singleton.1 h1]; exact ho
  ·obtain ⟨st, h1, h2⟩ := h.pw q hq
   exact ⟨st, h1, h2.ext he⟩
  ·rcases hasN_app.1 hb with hb | hb
   ·rcases h.bw b hb with ⟨h1, h2⟩ | ⟨q, st, h1, h2, h3, h4, h5, h6⟩
    ·exact .inl ⟨(he.eb b hb).2.trans h1, h2⟩
    ·exact .inr ⟨q, st, (he.eb b hb).2.trans h1, h2, h3, h4, h5.ext he, h6⟩
   ·subst hb
    obtain ⟨st, h1, h2⟩ := h.pw p hp
    refine .inr ⟨p, st, getZ_new hk, hc, h.pl p hp, h1, h2.ext he, fun hm => ?_⟩
    obtain ⟨x, hx, hxo⟩ := List.mem_map.1 hm
    have := (h2 x hx).2.2.1
    rw [hxo, hk] at this
    cases this
  ·rcases List.mem_append.1 hb with hb | hb
   ·exact hasN_app.2 (.inl (h.qb b hb))
   ·exact hasN_app.2 (.inr (List.mem_singleton.1 hb).symm)
 ·rename_i hc
  exact ⟨h, .rfl', fun h => absurd h hc⟩
theorem foO_ok {s : Rs} {p : Nat} (h : RsI acc P L vol fl s) (hp : hasN s.ps p = true) : ∀ i, i ≤ L → RsI acc P L vol fl ((List.range i).foldl (stO fl p) s) ∧ St9 s ((List.range i).foldl (stO fl p) s) ∧ ∀ o, o < i → 0 < cellZ fl o p → hasN ((List.range i).foldl (stO fl p) s).bs o = true
 | 0, _ => ⟨h, .rfl', fun o ho => absurd ho (by omega)⟩
 | i + 1, hi => by
  obtain ⟨h1, h2, h3⟩ := foO_ok h hp i (by omega)
  rw [range_snoc]
  obtain ⟨k1, k2, k3⟩ := stO_ok (o := i) h1 (h2.ep p hp).1 (by omega)
  refine ⟨k1, h2.trans k2, fun o ho hc => ?_⟩
  by_cases e : o = i
  ·subst e; exact k3 hc
  ·exact (k2.eb o (h3 o (by omega) hc)).1
def PX (L : Nat) (fl : List (List Int)) (s : Rs) : Prop := ∀ p, hasN s.ps p = true → ∀ o, o < L → 0 < cellZ fl o p → hasN s.bs o = true
theorem stP_ok {s : Rs} {b i : Nat} (h : RsI acc P L vol fl s) (hx : PX L fl s) (hb : hasN s.bs b = true) (hi : i < P) :
 RsI acc P L vol fl (stP acc L fl b s i) ∧ St9 s (stP acc L fl b s i) ∧ PX L fl (stP acc L fl b s i) ∧ (acc i b = true → hasN (stP acc L fl b s i).ps i = true) := by
 unfold stP
 split
 ·rename_i hk
  exact ⟨h, .rfl', hx, fun _ => hk⟩
 rename_i hk
 have hk : hasN s.ps i = false := by simpa using hk
 split
 ·rename_i hc
  exact ⟨h, .rfl', hx, fun h => by rw [hc] at h; cases h⟩
 rename_i hc
 have hc : acc i b = true := by simpa using hc
 have he : St9 s ⟨s.bs, s.ps ++ [(i, (b : Int))], s.q⟩ := ⟨fun k hk' => ⟨hasN_app.2 (.inl hk'), getZ_old hk'⟩, fun _ h => ⟨h, rfl⟩, ⟨[], by simp, fun _ h => .inl h⟩, rfl⟩
 have hbL := h.blt hb
 have h1 : RsI acc P L vol fl ⟨s.bs, s.ps ++ [(i, (b : Int))], s.q⟩ := by
  refine ⟨h.bn, h.bl, fun p hp => ?_, fun p hp => ?_, fun b' hb' => ?_, h.qb, h.start⟩
  ·rcases hasN_app.1 hp with hp | hp
   ·exact h.pl p hp
   ·subst hp; exact hi
  ·rcases hasN_app.1 hp with hp | hp
   ·obtain ⟨st, k1, k2⟩ := h.pw p hp
    exact ⟨st, k1, k2.ext he⟩
   ·subst hp
    rcases h.bw b hb with ⟨k1, k2⟩ | ⟨q, st, k1, k2, k3, k4, k5, k6⟩
    ·refine ⟨[(b, i, -1)], .base hbL hi hc k2, fun x hx' => ?_⟩
     rw [List.mem_singleton.1 hx']
     exact ⟨hasN_app.2 (.inr rfl), getZ_new hk, hb, k1⟩
    ·have hni : i ∉ st.map (·.2.1) := fun hm => by
      obtain ⟨x, hx', hxi⟩ := List.mem_map.1 hm
      have := (k5 x hx').1
      rw [hxi, hk] at this
      cases this
     refine ⟨(b, i, (q : Int)) :: st, .step hbL hi hc k3 k2 k4 k6 hni, fun x hx' => ?_⟩
     rcases List.mem_cons.1 hx' with rfl | hx'
     ·exact ⟨hasN_app.2 (.inr rfl), getZ_new hk, hb, k1⟩
     ·exact (k5.ext he) x hx'
  ·rcases h.bw b' hb' with ⟨k1, k2⟩ | ⟨q, st, k1, k2, k3, k4, k5, k6⟩
   ·exact .inl ⟨k1, k2⟩
   ·exact .inr ⟨q, st, k1, k2, k3, k4, k5.ext he, k6⟩
 have hpi : hasN (⟨s.bs, s.ps ++ [(i, (b : Int))], s.q⟩ : Rs).ps i = true := hasN_app.2 (.inr rfl)
 obtain ⟨k1, k2, k3⟩ := foO_ok h1 hpi L (Nat.le_refl _)
 refine ⟨k1, he.trans k2, fun p hp o ho hcl => ?_, fun _ => (k2.ep i hpi).1⟩
 have hps : ((List.range L).foldl (stO fl i) ⟨s.bs, s.ps ++ [(i, (b : Int))], s.q⟩).ps = s.ps ++ [(i, (b : Int))] := (stO_q L (Nat.le_refl _)).2
 rw [hps] at hp
 rcases hasN_app.1 hp with hp | hp
 ·exact (k2.eb o (hx p hp o ho hcl)).1
 ·subst hp; exact k3 o ho hcl
theorem foP_ok {s : Rs} {b : Nat} (h : RsI acc P L vol fl s) (hx : PX L fl s) (hb : hasN s.bs b = true) : ∀ i, i ≤ P →
 RsI acc P L vol fl ((List.range i).foldl (stP acc L fl b) s) ∧ St9 s ((List.range i).foldl (stP acc L fl b) s) ∧ PX L fl ((List.range i).foldl (stP acc L fl b) s) ∧ ∀ p, p < i → acc p b = true → hasN ((List.range i).foldl (stP acc L fl b) s).ps p = true
 | 0, _ => ⟨h, .rfl', hx, fun o ho => absurd ho (by omega)⟩
 | i + 1, hi => by
  obtain ⟨h1, h2, h3, h4⟩ := foP_ok h hx hb i (by omega)
  rw [range_snoc]
  obtain ⟨k1, k2, k3, k4⟩ := stP_ok (i := i) h1 h3 (h2.eb b hb).1 (by omega)
  refine ⟨k1, h2.trans k2, k3, fun p hp hc => ?_⟩
  by_cases e : p = i
  ·subst e; exact k4 hc
  ·exact (k2.ep p (h4 p (by omega) hc)).1
def PR (acc : Nat → Nat → Bool) (P : Nat) (s : Rs) : Prop := ∀ b, hasN s.bs b = true → b ∈ s.q ∨ ∀ p, p < P → acc p b = true → hasN s.ps p = true
theorem nodup_le : ∀ {L : Nat} {l : List Nat}, l.Nodup → (∀ x ∈ l, x < L) → l.length ≤ L
 | 0, l, _, h => by
  cases l with
  | nil => simp
  | cons a r => exact absurd (h a List.mem_cons_self) (by omega)
 | L + 1, l, hn, h => by
  have h1 := nodup_le (L := L) (l := l.filter (· != L)) (hn.sublist List.filter_sublist) (fun x hx => by
   rw [List.mem_filter] at hx
   have := h x hx.1
   have h2 : x ≠ L := by simpa using hx.2
   omega)
  have h2 : l.length ≤ (l.filter (· != L)).length + 1 := by
   clear h h1
   induction l with
   | nil => simp
   | cons a r ih =>
    rw [List.nodup_cons] at hn
    by_cases e : a = L
    ·subst e
     have : r.filter (· != a) = r := by
      rw [List.filter_eq_self]
      intro x hx
      have : x ≠ a := fun e => hn.1 (e ▸ hx)
      simpa using this
     simp [this]
    ·have := ih hn.2
     simp [e]; omega
  omega
theorem RsI.len {s : Rs} (h : RsI acc P L vol fl s) : s.bs.length ≤ L := by
 have := nodup_le h.bn (L := L) fun x hx => by
  obtain ⟨e, he, rfl⟩ := List.mem_map.1 hx
  exact h.bl e he
 rwa [List.length_map] at this
theorem rsGo_ok : ∀ {n : Nat} {s : Rs}, RsI acc P L vol fl s → PX L fl s → PR acc P s → s.q.length + L ≤ n + s.bs.length → ∃ w, rsGo acc P L fl n s = some w ∧ RsI acc P L vol fl w ∧ PX L fl w ∧ ∀ b, hasN w.bs b = true → ∀ p, p < P → acc p b = true → hasN w.ps p = true
 | 0, s, h, hx, hr, hn => by
  have := h.len
  have hq : s.q = [] := List.length_eq_zero_iff.1 (by omega)
  refine ⟨s, by rw [rsGo, if_pos hq], h, hx, fun b hb => ?_⟩
  rcases hr b hb with h1 | h1
  ·rw [hq] at h1; cases h1
  ·exact h1
 | n + 1, s, h, hx, hr, hn => by
  cases hq : s.q with
  | nil =>
   refine ⟨s, by rw [rsGo, hq], h, hx, fun b hb => ?_⟩
   rcases hr b hb with h1 | h1
   ·rw [hq] at h1; cases h1
   ·exact h1
  | cons b r =>
   have hb := h.qb b (by rw [hq]; simp)
   obtain ⟨k1, k2, k3, k4⟩ := foP_ok h hx hb P (Nat.le_refl _)
   have he : rsGo acc P L fl (n + 1) s = rsGo acc P L fl n ⟨((List.range P).foldl (stP acc L fl b) s).bs, ((List.range P).foldl (stP acc L fl b) s).ps, ((List.range P).foldl (stP acc L fl b) s).q.tail⟩ := by
    rw [rsGo, hq]
   rw [he]
   generalize (List.range P).foldl (stP acc L fl b) s = u at *
   obtain ⟨t, ht, hnew⟩ := k2.q
   have hcnt := k2.cnt
   rw [hq] at ht
   have htl : u.q.tail = r ++ t := by rw [ht]; rfl
   have hul : u.q.length = r.length + t.length + 1 := by rw [ht]; simp
   have hsl : s.q.length = r.length + 1 := by rw [hq]; simp
   refine rsGo_ok (s := ⟨u.bs, u.ps, u.q.tail⟩) ⟨k1.bn, k1.bl, k1.pl, k1.pw, k1.bw, fun b' hb' => k1.qb b' (List.mem_of_mem_tail hb'), k1.start⟩ k3 (fun b' hb' => ?_) ?_
   ·rcases hnew b' hb' with h1 | h1
    ·rcases hr b' h1 with h2 | h2
     ·rw [hq] at h2
      rcases List.mem_cons.1 h2 with rfl | h2
      ·exact .inr fun p hp hc => k4 p hp hc
      ·exact .inl (by show b' ∈ u.q.tail; rw [htl]; exact List.mem_append_left _ h2)
     ·exact .inr fun p hp hc => (k2.ep p (h2 p hp hc)).1
    ·exact .inl (by show b' ∈ u.q.tail; rw [htl]; exact List.mem_append_right _ h1)
   ·show u.q.tail.length + L ≤ n + u.bs.length
    rw [htl, List.length_append]; omega
theorem rs0_ok : RsI acc P L vol fl (rs0 L vol fl) ∧ PX L fl (rs0 L vol fl) ∧ PR acc P (rs0 L vol fl) ∧ (rs0 L vol fl).q.length = (rs0 L vol fl).bs.length := by
 have key : ∀ i, i ≤ L → (((List.range i).foldl (st1 vol fl) ⟨[], [], []⟩).bs.map (·.1)).Nodup ∧ (∀ e ∈ ((List.range i).foldl (st1 vol fl) ⟨[], [], []⟩).bs, e.1 < i ∧ e.2 = -1 ∧ 0 < leftF vol fl e.1) ∧ ((List.range i).foldl (st1 vol fl) ⟨[], [], []⟩).ps = [] ∧
  (((List.range i).foldl (st1 vol fl) ⟨[], [], []⟩).q = ((List.range i).foldl (st1 vol fl) ⟨[], [], []⟩).bs.map (·.1)) ∧ ∀ b, b < i → 0 < leftF vol fl b → hasN ((List.range i).foldl (st1 vol fl) ⟨[], [], []⟩).bs b = true := by
  intro i
  induction i with
  | zero => intro _; simp
  | succ i ih =>
   intro hi
   obtain ⟨h1, h2, h3, h4, h5⟩ := ih (by omega)
   rw [range_snoc, st1]
   split
   ·rename_i hl
    refine ⟨?_, fun e he => ?_, h3, by rw [List.map_append, h4]; rfl, fun b hb hlb => ?_⟩
    ·rw [List.map_append, List.nodup_append]
     refine ⟨h1, by simp, fun a ha b hb => ?_⟩
     simp at hb
     obtain ⟨e, he, rfl⟩ := List.mem_map.1 ha
     have := (h2 e he).1
     omega
    ·rcases List.mem_append.1 he with he | he
     ·have := h2 e he; exact ⟨by omega, this.2⟩
     ·rw [List.mem_singleton.1 he]; exact ⟨by omega, rfl, hl⟩
    ·by_cases e : b = i
     ·subst e; exact hasN_app.2 (.inr rfl)
     ·exact hasN_app.2 (.inl (h5 b (by omega) hlb))
   ·rename_i hl
    refine ⟨h1, fun e he => ?_, h3, h4, fun b hb hlb => ?_⟩
    ·have := h2 e he; exact ⟨by omega, this.2⟩
    ·by_cases e : b = i
     ·subst e; exact absurd hlb hl
     ·exact h5 b (by omega) hlb
 obtain ⟨h1, h2, h3, h4, h5⟩ := key L (Nat.le_refl _)
 have hr0 : (List.range L).foldl (st1 vol fl) ⟨[], [], []⟩ = rs0 L vol fl := rfl
 rw [hr0] at h1 h2 h3 h4 h5
 generalize rs0 L vol fl = s at *
 have hno : ∀ p, ¬ hasN s.ps p = true := fun p hp => by rw [h3] at hp; simp [hasN] at hp
 refine ⟨⟨h1, fun e he => (h2 e he).1, fun p hp => absurd hp (hno p), fun p hp => absurd hp (hno p), fun b hb => .inl ?_, fun b hb => ?_, h5⟩, fun p hp => absurd hp (hno p), fun b hb => .inl ?_, by rw [h4, List.length_map]⟩
 ·obtain ⟨e, he, hj⟩ := List.any_eq_true.1 hb
  have hj : e.1 = b := by simpa using hj
  refine ⟨?_, by rw [← hj]; exact (h2 e he).2.2⟩
  unfold getZ
  cases hf : s.bs.find? (fun e => e.1 == b) with
  | none => exact absurd (by simpa using hj) (List.find?_eq_none.1 hf e he)
  | some e' => exact (h2 e' (List.mem_of_find?_eq_some hf)).2.1
 ·rw [h4] at hb; exact hasN_mem.2 hb
 ·rw [h4]; exact hasN_mem.1 hb
theorem reach_ok {n : Nat} (hn : L ≤ n) : ∃ w, reachF acc P L n vol fl = some w ∧ RsI acc P L vol fl w ∧ PX L fl w ∧ ∀ b, hasN w.bs b = true → ∀ p, p < P → acc p b = true → hasN w.ps p = true := by
 obtain ⟨h1, h2, h3, h4⟩ := rs0_ok (acc := acc) (P := P) (L := L) (vol := vol) (fl := fl)
 exact rsGo_ok h1 h2 h3 (by omega)
end
end Go.Proofs.Try
end

section
namespace Go.Proofs.Try
open Go Go.Vm
set_option maxRecDepth 20000
/-! The flow, in plain Lean: one push; a pit that is filled; all pits. -/
section
variable {acc : Nat → Nat → Bool} {P L : Nat} {vol room : List Int} {fl : List (List Int)}
def fitW (vol : List Int) (fl : List (List Int)) (x : Nat × Nat × Int) : Int := if x.2.2 < 0 then leftF vol fl x.1 else cellZ fl x.1 x.2.2.toNat
def minW (vol : List Int) (fl : List (List Int)) (a : Int) : List (Nat × Nat × Int) → Int
 | [] => a
 | x :: r => minW vol fl (minI a (fitW vol fl x)) r
theorem minI_le {a b : Int} : minI a b ≤ a ∧ minI a b ≤ b := by unfold minI; split <;> omega
theorem minI_pos {a b : Int} (ha : 0 < a) (hb : 0 < b) : 0 < minI a b := by unfold minI; split <;> omega
theorem minW_le : ∀ {st : List (Nat × Nat × Int)} {a : Int}, minW vol fl a st ≤ a
 | [], _ => Int.le_refl _
 | _ :: r, _ => Int.le_trans (minW_le (st := r)) minI_le.1
theorem minW_fit : ∀ {st : List (Nat × Nat × Int)} {a : Int}, ∀ x ∈ st, minW vol fl a st ≤ fitW vol fl x
 | _ :: _, _, _, hx => by
  rw [minW]
  rcases List.mem_cons.1 hx with rfl | hx
  ·exact Int.le_trans minW_le minI_le.2
  ·exact minW_fit _ hx
theorem minW_pos : ∀ {st : List (Nat × Nat × Int)} {a : Int}, 0 < a → (∀ x ∈ st, 0 < fitW vol fl x) → 0 < minW vol fl a st
 | [], _, ha, _ => ha
 | x :: _, _, ha, h => by
  rw [minW]
  exact minW_pos (minI_pos ha (h x List.mem_cons_self)) fun z hz => h z (List.mem_cons_of_mem _ hz)
theorem Way.fit {p : Nat} {st : List (Nat × Nat × Int)} (h : Way acc P L vol fl p st) : ∀ x ∈ st, 0 < fitW vol fl x := by
 induction h with
 | base hb hp ha hl =>
  intro x hx
  rw [List.mem_singleton.1 hx, fitW, if_pos (show (-1 : Int) < 0 by decide)]; exact hl
 | step hb hp ha hq hc h h1 h2 ih =>
  intro x hx
  rcases List.mem_cons.1 hx with rfl | hx
  ·rw [fitW, if_neg (by simp)]; simpa using hc
  ·exact ih x hx
theorem fits_min {st : List (Nat × Nat × Int)} {a : Int} : Fits vol fl (minW vol fl a st) st := fun x hx => by
 have := minW_fit (vol := vol) (fl := fl) (a := a) x hx
 unfold fitW at this
 constructor
 ·intro h; rwa [if_pos h] at this
 ·intro h; rwa [if_neg (by omega)] at this
theorem path_way {w : Rs} {p : Nat} {st : List (Nat × Nat × Int)} (h : Way acc P L vol fl p st) : InW w st → ∀ {n : Nat} {a : Int}, st.length ≤ n → pathF P L vol fl w n p a = some (st.map cvW, minW vol fl a st) := by
 induction h with
 | base hb hp ha hl =>
  rename_i b p
  intro hw n a hn
  obtain ⟨w1, w2, w3, w4⟩ := hw _ List.mem_cons_self
  simp only at w1 w2 w3 w4
  cases n with
  | zero => simp at hn
  | succ n =>
   rw [pathF, w2, Int.toNat_natCast, w4, if_pos ⟨w1, by omega, by omega, w3, by omega⟩, if_pos (by decide)]
   simp [cvW, minW, fitW]
 | step hb hp ha hq hc h h1 h2 ih =>
  rename_i b p q st
  intro hw n a hn
  obtain ⟨w1, w2, w3, w4⟩ := hw _ List.mem_cons_self
  simp only at w1 w2 w3 w4
  cases n with
  | zero => simp at hn
  | succ n =>
   rw [pathF, w2, Int.toNat_natCast, w4, if_pos ⟨w1, by omega, by omega, w3, by omega⟩, if_neg (by omega), Int.toNat_natCast,
    ih (fun x hx => hw x (List.mem_cons_of_mem _ hx)) (by simpa using hn)]
   have hq0 : ¬ ((q : Int) < 0) := by omega
   simp [cvW, minW, fitW, hq0]
theorem Way.len {p : Nat} {st : List (Nat × Nat × Int)} (h : Way acc P L vol fl p st) : st.length ≤ P ∧ (st.map (·.2.1)).Nodup ∧ ∀ x ∈ st, x.2.1 < P := by
 have key : (st.map (·.2.1)).Nodup ∧ ∀ x ∈ st, x.2.1 < P := by
  induction h with
  | base hb hp => exact ⟨by simp, fun x hx => by rw [List.mem_singleton.1 hx]; exact hp⟩
  | step hb hp ha hq hc h h1 h2 ih =>
   refine ⟨List.nodup_cons.2 ⟨h2, ih.1⟩, fun x hx => ?_⟩
   rcases List.mem_cons.1 hx with rfl | hx
   ·exact hp
   ·exact ih.2 x hx
 have := nodup_le key.1 (L := P) fun x hx => by
  obtain ⟨y, hy, rfl⟩ := List.mem_map.1 hx
  exact key.2 y hy
 rw [List.length_map] at this
 exact ⟨this, key⟩
theorem Way.pit {p : Nat} {st : List (Nat × Nat × Int)} (h : Way acc P L vol fl p st) : p < P := by cases h <;> assumption
def Shut (acc : Nat → Nat → Bool) (P L : Nat) (vol room : List Int) (fl : List (List Int)) (p : Nat) : Prop := (¬ ∃ st, Way acc P L vol fl p st) ∨ freeF room fl p = 0
theorem way_reached {w : Rs} (hw : RsI acc P L vol fl w) (hx : PX L fl w) (hr : ∀ b, hasN w.bs b = true → ∀ p, p < P → acc p b = true → hasN w.ps p = true) {p : Nat} {st : List (Nat × Nat × Int)} (h : Way acc P L vol fl p st) : hasN w.ps p = true := by
 induction h with
 | base hb hp ha hl => exact hr _ (hw.start _ hb hl) _ hp ha
 | step hb hp ha hq hc h h1 h2 ih => exact hr _ (hx _ ih _ hb hc) _ hp ha
inductive Rch (acc : Nat → Nat → Bool) (P L : Nat) (fl : List (List Int)) : Nat → Nat → Prop
 | refl (p : Nat) : Rch acc P L fl p p
 | step {b p p' q : Nat} (hb : b < L) (hc : 0 < cellZ fl b p) (hp : p' < P) (ha : acc p' b = true) (h : Rch acc P L fl p' q) : Rch acc P L fl p q
def Keep (acc : Nat → Nat → Bool) (P L : Nat) (vol : List Int) (fl fl' : List (List Int)) : Prop := ∀ q, (¬ ∃ st, Way acc P L vol fl q st) → (¬ ∃ st, Way acc P L vol fl' q st) ∧ ∀ p, Rch acc P L fl' p q → Rch acc P L fl p q
theorem Keep.rfl' : Keep acc P L vol fl fl := fun _ h => ⟨h, fun _ h => h⟩
theorem Keep.trans {f1 f2 f3 : List (List Int)} (h : Keep acc P L vol f1 f2) (h' : Keep acc P L vol f2 f3) : Keep acc P L vol f1 f3 := fun q hq => by
 obtain ⟨a, b⟩ := h q hq
 obtain ⟨c, d⟩ := h' q a
 exact ⟨c, fun p hp => b p (d p hp)⟩
theorem rch_no {w : Rs} (hI : RsI acc P L vol fl w) (hX : PX L fl w) (hR : ∀ b, hasN w.bs b = true → ∀ p, p < P → acc p b = true → hasN w.ps p = true) {q : Nat} (hq : ¬ ∃ st, Way acc P L vol fl q st) {p : Nat} (h : Rch acc P L fl p q) : ¬ hasN w.ps p = true := by
 induction h with
 | refl p =>
  intro hp
  obtain ⟨st, h1, -⟩ := hI.pw p hp
  exact hq ⟨st, h1⟩
 | step hb hc hp ha h ih => exact fun hps => ih hq (hR _ (hX _ hps _ hb hc) _ hp ha)
theorem push_ok (h : FlOk acc P L vol room fl) (hv : ∀ b, vol.getD b 0 ≤ 100000000000000000) {n : Nat} (hn : L ≤ n) (hnP : P ≤ n) {pit : Nat} (hp : pit < P) :
 (pushF acc P L n vol room fl pit = some none ∧ Shut acc P L vol room fl pit) ∨
 ∃ fl' a b, pushF acc P L n vol room fl pit = some (some fl') ∧ 0 < a ∧ a ≤ freeF room fl pit ∧ b < L ∧ FlOk acc P L vol room fl' ∧ (∀ b', leftF vol fl' b' = leftF vol fl b' - if b = b' then a else 0) ∧ (∀ q, freeF room fl' q = freeF room fl q - if pit = q then a else 0) ∧
  (∀ q, q ≠ pit → Shut acc P L vol room fl q → Shut acc P L vol room fl' q) ∧ Keep acc P L vol fl fl' := by
 obtain ⟨w, hw, hI, hX, hR⟩ := reach_ok (acc := acc) (P := P) (vol := vol) (fl := fl) hn
 unfold pushF
 rw [hw]
 simp only
 by_cases hc : hasN w.ps pit = false ∨ freeF room fl pit = 0
 ·rw [if_pos hc]
  refine .inl ⟨rfl, ?_⟩
  rcases hc with hc | hc
  ·refine .inl fun ⟨st, hst⟩ => ?_
   rw [way_reached hI hX hR hst] at hc
   cases hc
  ·exact .inr hc
 rw [if_neg hc]
 rw [not_or] at hc
 have hpr : hasN w.ps pit = true := by simpa using hc.1
 obtain ⟨st, hst, hin⟩ := hI.pw pit hpr
 have hlen := hst.len.1
 rw [path_way hst hin (by omega)]
 simp only
 have hfr := h.fr pit hp
 have ha0 : 0 < minW vol fl (freeF room fl pit) st := minW_pos (by omega) hst.fit
 have hle : minW vol fl (freeF room fl pit) st ≤ freeF room fl pit := minW_le
 have hft : Fits vol fl (minW vol fl (freeF room fl pit) st) st := fits_min
 generalize minW vol fl (freeF room fl pit) st = a at *
 obtain ⟨fl', r1, r2, r3, r4, r5, r6, r7, r8⟩ := ap_way (room := room) hv ha0 hst hft h.dim h.nn h.ac h.lf
 rw [r1]
 simp only
 have hsrc := hst.src
 have hfs : a ≤ leftF vol fl (srcW st) := by
  clear r1 r2 r3 r4 r5 r6 r7 r8 hsrc hin hle hlen
  induction hst with
  | base hb hp ha hl => exact (hft _ List.mem_cons_self).1 (show (-1 : Int) < 0 by decide)
  | step hb hp ha hq hcl hs h1 h2 ih =>
   rw [srcW_cons hs.ne]
   have hqr := way_reached hI hX hR hs
   have hfl : Fits vol fl a _ := fun x hx => hft x (List.mem_cons_of_mem _ hx)
   clear ih
   have key : ∀ {q : Nat} {st : List (Nat × Nat × Int)}, Way acc P L vol fl q st → Fits vol fl a st → a ≤ leftF vol fl (srcW st) := by
    intro q st hs
    induction hs with
    | base hb hp ha hl => exact fun hf => (hf _ List.mem_cons_self).1 (show (-1 : Int) < 0 by decide)
    | step hb hp ha hq hcl hs h1 h2 ih =>
     intro hf
     rw [srcW_cons hs.ne]
     exact ih fun x hx => hf x (List.mem_cons_of_mem _ hx)
   exact key hs hfl
 have noWay : ∀ q, (¬ ∃ st, Way acc P L vol fl q st) → ¬ ∃ st, Way acc P L vol fl' q st := fun q hs ⟨st', hst'⟩ => hs (by
  have hreach : hasN w.ps q = true := by
   clear hs
   induction hst' with
   | base hb hp ha hl =>
    refine hR _ (hI.start _ hb ?_) _ hp ha
    rw [r5] at hl
    split at hl <;> omega
   | @step b p q' st'' hb hp ha hq hcl h' h1 h2 ih =>
    refine hR _ ?_ _ hp ha
    by_cases hm : b ∈ st.map (·.1)
    ·obtain ⟨x, hx, rfl⟩ := List.mem_map.1 hm
     exact (hin x hx).2.2.1
    ·rw [r7 b hm] at hcl
     exact hX _ (ih ⟨_, h'⟩) _ hb hcl
  obtain ⟨st2, h2, -⟩ := hI.pw q hreach
  exact ⟨st2, h2⟩)
 refine .inr ⟨fl', a, srcW st, rfl, ha0, hle, hsrc.1, ⟨r2, r3, r4, fun b hb => ?_, fun p' hp' => ?_⟩, r5, r6, fun q hq hs => ?_, fun q hq => ⟨noWay q hq, fun p hp => ?_⟩⟩
 ·rw [r5]
  split
  ·rename_i e; rw [← e]; omega
  ·have := h.lf b hb; omega
 ·rw [r6]
  split
  ·rename_i e; rw [← e]; omega
  ·have := h.fr p' hp'; omega
 ·rcases hs with hs | hs
  ·exact .inl (noWay q hs)
  ·refine .inr ?_
   rw [r6, if_neg (fun e => hq e.symm), hs]; rfl
 ·induction hp with
  | refl p => exact .refl p
  | @step b p p' q' hb hc hp' ha h ih =>
   have ih := ih hq
   by_cases hm : b ∈ st.map (·.1)
   ·obtain ⟨x, hx, rfl⟩ := List.mem_map.1 hm
    exact absurd (hR _ (hin x hx).2.2.1 _ hp' ha) (rch_no hI hX hR hq ih)
   ·rw [r7 b hm] at hc
    exact .step hb hc hp' ha ih
def totL (vol : List Int) (fl : List (List Int)) : Nat → Int
 | 0 => 0
 | n + 1 => totL vol fl n + leftF vol fl n
theorem totL_nn (h : ∀ b, b < L → 0 ≤ leftF vol fl b) : ∀ n, n ≤ L → 0 ≤ totL vol fl n
 | 0, _ => Int.le_refl _
 | n + 1, hn => by
  have h1 := totL_nn h n (by omega)
  have h2 := h n (by omega)
  rw [totL]; omega
theorem totL_sub {fl' : List (List Int)} {a : Int} {b : Nat} (h : ∀ b', leftF vol fl' b' = leftF vol fl b' - if b = b' then a else 0) : ∀ n, totL vol fl' n = totL vol fl n - if b < n then a else 0
 | 0 => by simp [totL]
 | n + 1 => by
  rw [totL, totL, totL_sub h n, h n]
  by_cases h1 : b < n
  ·rw [if_pos h1, if_neg (by omega), if_pos (by omega)]; omega
  ·by_cases h2 : b = n
   ·rw [if_neg h1, if_pos h2, if_pos (by omega)]; omega
   ·rw [if_neg h1, if_neg h2, if_neg (by omega)]; omega
theorem fill_run (hv : ∀ b, vol.getD b 0 ≤ 100000000000000000) {n : Nat} (hn : L ≤ n) (hnP : P ≤ n) {pit : Nat} (hp : pit < P) : ∀ (m : Nat) {fl : List (List Int)}, FlOk acc P L vol room fl → totL vol fl L ≤ m →
 ∃ fl', (∃ k, ∀ j, k ≤ j → fillF acc P L n vol room pit j fl = some fl') ∧ FlOk acc P L vol room fl' ∧ Shut acc P L vol room fl' pit ∧ (∀ q, q ≠ pit → freeF room fl' q = freeF room fl q ∧ (Shut acc P L vol room fl q → Shut acc P L vol room fl' q)) ∧ (∀ b, leftF vol fl' b ≤ leftF vol fl b) ∧ Keep acc P L vol fl fl' := by
 intro m
 induction m with
 | zero =>
  intro fl h hm
  rcases push_ok h hv hn hnP hp with ⟨h1, h2⟩ | ⟨fl', a, b, h1, ha, -, hb, h3, h4, -, -⟩
  ·refine ⟨fl, ⟨1, fun j hj => ?_⟩, h, h2, fun q _ => ⟨rfl, id⟩, fun b => Int.le_refl _, .rfl'⟩
   cases j with
   | zero => omega
   | succ j => rw [fillF, h1]
  ·exfalso
   have e1 := totL_sub h4 L
   have e2 := totL_nn h3.lf L (Nat.le_refl _)
   rw [if_pos hb] at e1
   omega
 | succ m ih =>
  intro fl h hm
  rcases push_ok h hv hn hnP hp with ⟨h1, h2⟩ | ⟨fl', a, b, h1, ha, -, hb, h3, h4, h5, h6, h7⟩
  ·refine ⟨fl, ⟨1, fun j hj => ?_⟩, h, h2, fun q _ => ⟨rfl, id⟩, fun b => Int.le_refl _, .rfl'⟩
   cases j with
   | zero => omega
   | succ j => rw [fillF, h1]
  ·have e1 := totL_sub h4 L
   rw [if_pos hb] at e1
   obtain ⟨fl2, ⟨k, hk⟩, g1, g2, g3, g4, g5⟩ := ih h3 (by omega)
   refine ⟨fl2, ⟨k + 1, fun j hj => ?_⟩, g1, g2, fun q hq => ⟨?_, fun hs => (g3 q hq).2 (h6 q hq hs)⟩, fun b' => ?_, h7.trans g5⟩
   ·cases j with
    | zero => omega
    | succ j => rw [fillF, h1]; exact hk j (by omega)
   ·rw [(g3 q hq).1, h5, if_neg (fun e => hq e.symm)]; omega
   ·have := g4 b'
    rw [h4] at this
    split at this <;> omega
end
end Go.Proofs.Try
end

section
namespace Go.Proofs.Try
open Go Go.Vm
set_option maxRecDepth 20000
/-! The flow, in plain Lean: sums; cuts. -/
def sumN : Nat → (Nat → Int) → Int
 | 0, _ => 0
 | n + 1, f => sumN n f + f n
theorem sumN_congr {f g : Nat → Int} : ∀ {n : Nat}, (∀ i, i < n → f i = g i) → sumN n f = sumN n g
 | 0, _ => rfl
 | n + 1, h => by rw [sumN, sumN, sumN_congr (n := n) (fun i hi => h i (by omega)), h n (by omega)]
theorem sumN_add {f g : Nat → Int} : ∀ {n : Nat}, sumN n (fun i => f i + g i) = sumN n f + sumN n g
 | 0 => rfl
 | n + 1 => by rw [sumN, sumN, sumN, sumN_add]; omega
theorem sumN_le {f g : Nat → Int} : ∀ {n : Nat}, (∀ i, i < n → f i ≤ g i) → sumN n f ≤ sumN n g
 | 0, _ => Int.le_refl _
 | n + 1, h => by
  have h1 := sumN_le (n := n) fun i hi => h i (by omega)
  have h2 := h n (by omega)
  rw [sumN, sumN]; omega
theorem sumN_zero : ∀ {n : Nat}, sumN n (fun _ => 0) = 0
 | 0 => rfl
 | n + 1 => by rw [sumN, sumN_zero]; rfl
theorem sumN_nn {f : Nat → Int} {n : Nat} (h : ∀ i, i < n → 0 ≤ f i) : 0 ≤ sumN n f := by
 have := sumN_le (f := fun _ => 0) (g := f) h
 rw [sumN_zero] at this; exact this
theorem sumN_swap {f : Nat → Nat → Int} {m : Nat} : ∀ {n : Nat}, sumN n (fun i => sumN m (f i)) = sumN m (fun j => sumN n fun i => f i j)
 | 0 => by simp only [sumN]; rw [sumN_zero]
 | n + 1 => by
  rw [sumN, sumN_swap, ← sumN_add]
  rfl
theorem sumN_one {f : Nat → Int} {n i : Nat} (h : ∀ i, i < n → 0 ≤ f i) (hi : i < n) : f i ≤ sumN n f := by
 induction n with
 | zero => omega
 | succ n ih =>
  rw [sumN]
  have hn := h n (by omega)
  by_cases e : i = n
  ·subst e
   have := sumN_nn (f := f) (n := i) fun j hj => h j (by omega)
   omega
  ·have := ih (fun j hj => h j (by omega)) (by omega)
   omega
theorem sum_sumN : ∀ (l : List Int), l.sum = sumN l.length fun i => l.getD i 0 := by
 intro l
 rw [← List.reverse_reverse l]
 induction l.reverse with
 | nil => rfl
 | cons x r ih =>
  rw [List.reverse_cons, List.sum_append, List.length_append, ih]
  simp only [List.length_singleton, sumN, List.sum_cons, List.sum_nil]
  have e1 : sumN r.reverse.length (fun i => r.reverse.getD i 0) = sumN r.reverse.length (fun i => (r.reverse ++ [x]).getD i 0) := sumN_congr fun i hi => by
   rw [List.getD_eq_getElem?_getD, List.getD_eq_getElem?_getD, List.getElem?_append_left hi]
  have e2 : (r.reverse ++ [x]).getD r.reverse.length 0 = x := by simp [List.getD_eq_getElem?_getD]
  rw [e1, e2]; omega
section
variable {acc : Nat → Nat → Bool} {P L : Nat} {vol room : List Int} {fl : List (List Int)}
theorem left_sum (hd : Dim P L fl) {b : Nat} (hb : b < L) : leftF vol fl b = vol.getD b 0 - sumN P (cellZ fl b) := by
 unfold leftF
 rw [sum_sumN, hd.rowD hb]; rfl
theorem free_sum (hd : Dim P L fl) {p : Nat} : freeF room fl p = room.getD p 0 - sumN L fun b => cellZ fl b p := by
 unfold freeF
 rw [sum_sumN, List.length_map, hd.len]
 congr 1
 refine sumN_congr fun b hb => ?_
 unfold cellZ
 simp only [List.getD_eq_getElem?_getD, List.getElem?_map]
 cases fl[b]? <;> simp
theorem fills_run (hv : ∀ b, vol.getD b 0 ≤ 100000000000000000) {n : Nat} (hn : L ≤ n) (hnP : P ≤ n) : ∀ {s : List Nat} {fl : List (List Int)}, (∀ p ∈ s, p < P) → FlOk acc P L vol room fl →
 ∃ fl', (∃ k, ∀ j, k ≤ j → fillsF acc P L n j vol room s fl = some fl') ∧ FlOk acc P L vol room fl' ∧ (∀ q, q ∈ s ∨ Shut acc P L vol room fl q → Shut acc P L vol room fl' q) ∧ (∀ q, q ∉ s → freeF room fl' q = freeF room fl q) ∧ (∀ b, leftF vol fl' b ≤ leftF vol fl b) ∧ Keep acc P L vol fl fl'
 | [], fl, _, h => ⟨fl, ⟨0, fun j _ => rfl⟩, h, fun q hq => hq.elim (fun h => by cases h) id, fun _ _ => rfl, fun _ => Int.le_refl _, .rfl'⟩
 | p :: s, fl, hs, h => by
  have hp := hs p List.mem_cons_self
  obtain ⟨m, hm⟩ := Int.eq_ofNat_of_zero_le (totL_nn h.lf L (Nat.le_refl _))
  obtain ⟨f1, ⟨k1, g1⟩, g2, g3, g4, g5, g6⟩ := fill_run hv hn hnP hp m h (by omega)
  obtain ⟨f2, ⟨k2, r1⟩, r2, r3, r4, r5, r6⟩ := fills_run hv hn hnP (fun q hq => hs q (List.mem_cons_of_mem _ hq)) g2
  refine ⟨f2, ⟨max k1 k2, fun j hj => ?_⟩, r2, fun q hq => r3 q ?_, fun q hq => ?_, fun b => Int.le_trans (r5 b) (g5 b), g6.trans r6⟩
  ·rw [fillsF, g1 j (by omega)]
   exact r1 j (by omega)
  ·by_cases e : q = p
   ·subst e; exact .inr g3
   ·rcases hq with hq | hq
    ·rcases List.mem_cons.1 hq with rfl | hq
     ·exact absurd rfl e
     ·exact .inl hq
    ·exact .inr ((g4 q e).2 hq)
  ·rw [List.mem_cons, not_or] at hq
   rw [r4 q hq.2, (g4 q hq.1).1]
end
end Go.Proofs.Try
end

section
namespace Go.Proofs.Try
open Go Go.Vm
set_option maxRecDepth 20000
set_option maxHeartbeats 8000000
/-! Cheapest. -/
def tkL (y : Yd) (l : List Bt) (vol room : List Int) (fl : List (List Int)) : List (Nat × Bx) :=
 [(1003, .mat 25 3 0 (fl.map fun r => some (r.map iD))), (1002, .row 3 1 (room.map iD) false), (1001, .row 3 1 (vol.map iD) false),
  (1000, .var [.d (.sl 6 (y.pits.map ptD)), .d (.sl 3 (y.bulk.map bkD)), .d (.sl 3 (y.deps.map dpD)), .d (.sl 1 (y.carry.map iD)), .d (.sl 5 (l.map btD)), .own 1001 1 (vol.map iD).length, .own 1002 1 (room.map iD).length, .own 1003 1 l.length] false)]
theorem tkX_eq {y : Yd} {l : List Bt} {vol room : List Int} {fl : List (List Int)} (h : fl.length = l.length) : tkX y l vol room fl = tkL y l vol room fl := by
 unfold tkX tkL
 rw [h]
structure Frt where
 xs : List Al
 cost : Int
 tf : Tf
def frD (f : Frt) : D := .agg [.sl 3 (f.xs.map alD), iD f.cost, .sl 1 (f.tf.bs.map iD), .sl 1 (f.tf.ps.map iD)]
def fr0 : Frt := ⟨[], 0, ⟨[], [], false⟩⟩
theorem roomS_bd {y : Yd} (h : YdOk y) {p : Pt} (hp : p ∈ y.pits) : 0 ≤ roomS y p ∧ roomS y p ≤ 40000000000000 := by
 have h1 := h.room p hp
 have h2 := cap_bd (h.pit p hp).1
 have h3 := takS_bd p.name y.deps h.vol
 unfold roomS at h1 ⊢
 omega
theorem volsGo_spec {y : Yd} : ∀ {l : List Bt} {c : List Int}, (∀ b ∈ l, ∃ k f z, Wok y b k f z) → CarOk y c → (volsGo y c l).length = l.length ∧ ∀ v ∈ volsGo y c l, 0 ≤ v ∧ v ≤ 10000000000001000
 | [], _, _, _ => ⟨rfl, by simp [volsGo]⟩
 | b :: r, c, h, hc => by
  obtain ⟨k, f, z0, hW⟩ := h b (by simp)
  obtain ⟨z, hz⟩ := some_of_lt (show k < c.length by rw [hc.len]; exact lt_of_some hW.fat)
  have hzb := hc.at_ k f z hW.fat hz
  have hden := hW.fo.den
  have ek : (facI y b.soil).toNat = k := by rw [hW.ixk]; rfl
  have ef : bkAt y k = f := by rw [bkAt, List.getD, hW.fat]; rfl
  have ec : c.getD k 0 = z := by rw [List.getD, hz]; rfl
  have hcar := carN_bd (b := b) (f := f) (c := z) hW.bok hW.fo hzb
  obtain ⟨i1, i2⟩ := volsGo_spec (l := r) (c := c.set k (carN b f z)) (fun x hx => h x (List.mem_cons_of_mem _ hx)) (hc.set hW.fat hcar)
  rw [volsGo, ek, ef, ec]
  refine ⟨by rw [List.length_cons, i1, List.length_cons], fun v hv => ?_⟩
  rcases List.mem_cons.1 hv with rfl | hv
  ·obtain ⟨m1, m2⟩ := bulkN_bd hW.bok hW.fo (c := z) (by omega)
   have d1 := Int.ediv_nonneg (a := (b.bed - b.over) * f.num + z) (b := f.den) (by omega) (by omega)
   have d2 := Int.ediv_le_self (a := (b.bed - b.over) * f.num + z) f.den (by omega)
   unfold volN
   omega
  ·exact i2 v hv
theorem tk_ok {y : Yd} {l : List Bt} (hs : smallP y) (h : LsOk y l) : TkOk y l (volF y l) (roomF y) (flow0 y l) := by
 have hy := yd_ok h.yd
 obtain ⟨v1, v2⟩ := volsGo_spec h.wok ⟨hy.carL, hy.car⟩
 refine ⟨hy.pits, h.len, v1, by rw [roomF, List.length_map], by rw [flow0, List.length_map], fun r hr => ?_, fun v hv => ?_, fun v hv => ?_, ?_, hs⟩
 ·obtain ⟨b, -, rfl⟩ := List.mem_map.1 hr
  exact List.length_replicate ..
 ·have := v2 v hv; omega
 ·obtain ⟨p, hp, rfl⟩ := List.mem_map.1 hv
  have := roomS_bd hy hp; omega
 ·rw [okFl, List.all_eq_true]
  intro r hr
  obtain ⟨b, -, rfl⟩ := List.mem_map.1 hr
  rw [List.all_eq_true]
  intro x hx
  rw [(List.mem_replicate.1 hx).2]; rfl
theorem pt_price {y : Yd} (h : YdOk y) : ∀ p ∈ y.pits, 0 ≤ p.price ∧ p.price ≤ 10000 := fun p hp => (h.pit p hp).1.price
theorem ev_CheapestFull {y : Yd} {l : List Bt} (hs : smallP y) (h0 : lstE y l = 0) {n k : Nat} {fl : List (List Int)} (hn : n ≤ 1000)
 (hf : fillsF (accF y l) y.pits.length l.length n k (volF y l) (roomF y) (sortGo (priceF y) [] (List.range y.pits.length)) (flow0 y l) = some fl) (hd : doneF l.length (volF y l) fl = false) :
 Ev Try.prog 13 [ydD y, .sl 5 (l.map btD)] (.tup [frD fr0, iD 19]) := by
 have hO := ls_ok h0
 have hT := tk_ok hs hO
 have hSm : ∀ z ∈ sortGo (priceF y) [] (List.range y.pits.length), z < y.pits.length := fun z hz => by
  rcases sortGo_mem.1 hz with h | h
  ·simp at h
  ·exact List.mem_range.1 h
 have hT2 := fills_ok hn hSm hT hf
 have hB := (xv_begin hs (by have := hO.len; omega) h0).rn [(9, 12), (2009, 2012), (4009, 4012), (6009, 6012)] rfl
 have hS := xv_solve hT hn hf
 rw [tkX_eq hT.hf, tkX_eq hT2.hf, hd] at hS
 unfold tkL at hS
 have hS := hS.rn [(1000, 12), (1001, 2012), (1002, 4012), (1003, 6012)] rfl
 refine ev_of_awp tysOk mixed (fn := Try.f13) Try.func13 rfl rfl rfl ?_
 conv => whnf
 repeat' (first|((with_reducible refine Split.of_false ?_);conv=>whnf)|(with_reducible refine Split.neg ?_)|((with_reducible refine Split.is_false ?_ ?_);decide;conv=>whnf)|((with_reducible refine Need.mk ?_ ?_);(first|omega|rfl|decide|(refine ⟨?_,?_⟩<;>simp<;>omega)|(simp;omega));conv=>whnf)|((with_reducible refine AltK.r ?_);(conv=>whnf);(first|(refine CallX.mk _ _ (hB) rfl ?_)|(refine CallX.mk _ _ (hS) rfl ?_));conv=>whnf)|fail)
 all_goals first
  | rfl
  |(exfalso; omega)
theorem ev_CheapestOk {y : Yd} {l : List Bt} (hs : smallP y) (h0 : lstE y l = 0) {n k m : Nat} {fl : List (List Int)} (hn : n ≤ 1000)
 (hf : fillsF (accF y l) y.pits.length l.length n k (volF y l) (roomF y) (sortGo (priceF y) [] (List.range y.pits.length)) (flow0 y l) = some fl) (hd : doneF l.length (volF y l) fl = true)
 {t : Tf} (ht : tfGo (accF y l) (priceF y) fl y.pits.length l.length m (tfS y.pits.length l.length (roomF y) fl) = some t)
 (hx : ∀ a ∈ allF y l fl l.length, 0 ≤ pitI y a.pit ∧ 0 ≤ a.vol ∧ a.vol ≤ 100000000000000000) (hc : costF y (allF y l fl l.length) ≤ 9000000000000000000) :
 Ev Try.prog 13 [ydD y, .sl 5 (l.map btD)] (.tup [frD ⟨allF y l fl l.length, costF y (allF y l fl l.length), t⟩, iD 0]) := by
 have hO := ls_ok h0
 have hy := yd_ok hO.yd
 have hT := tk_ok hs hO
 have hSm : ∀ z ∈ sortGo (priceF y) [] (List.range y.pits.length), z < y.pits.length := fun z hz => by
  rcases sortGo_mem.1 hz with h | h
  ·simp at h
  ·exact List.mem_range.1 h
 have hT2 := fills_ok hn hSm hT hf
 have hAl := allF_len (l := l) (fl := fl) hy.pits l.length
 have hlen := hO.len
 have hB := (xv_begin hs (by omega) h0).rn [(9, 12), (2009, 2012), (4009, 4012), (6009, 6012)] rfl
 have hS := xv_solve hT hn hf
 rw [tkX_eq hT.hf, tkX_eq hT2.hf, hd] at hS
 have hA := xv_allots hT2
 have hP := xv_price hT2 (allF y l fl l.length) (by omega) hx (pt_price hy) hc
 have hF := xv_tariff hT2 (pt_price hy) ht
 rw [tkX_eq hT2.hf] at hA hP hF
 unfold tkL at hS hA hP hF
 generalize allF y l fl l.length = xs at *
 generalize costF y xs = cst at *
 have hS := hS.rn [(1000, 12), (1001, 2012), (1002, 4012), (1003, 6012)] rfl
 have hA := hA.rn [(1000, 12), (1001, 2012), (1002, 4012), (1003, 6012), (9, 24)] rfl
 have hP := hP.rn [(1000, 12), (1001, 2012), (1002, 4012), (1003, 6012), (1004, 24)] rfl
 have hF := hF.rn [(1000, 12), (1001, 2012), (1002, 4012), (1003, 6012)] rfl
 refine ev_of_awp tysOk mixed (fn := Try.f13) Try.func13 rfl rfl rfl ?_
 conv => whnf
 repeat' (first|((with_reducible refine Split.of_true ?_);conv=>whnf)|(with_reducible refine Split.neg ?_)|((with_reducible refine Split.is_false ?_ ?_);decide;conv=>whnf)|((with_reducible refine Need.mk ?_ ?_);(first|omega|rfl|decide|(refine ⟨?_,?_⟩<;>simp<;>omega)|(simp;omega));conv=>whnf)|((with_reducible refine AltK.r ?_);(conv=>whnf);(first|(refine CallX.mk _ _ (hB) rfl ?_)|(refine CallX.mk _ _ (hS) rfl ?_)|(refine CallX.mk _ _ (hA) rfl ?_)|(refine CallX.mk _ _ (hP) rfl ?_)|(refine CallX.mk _ _ (hF) rfl ?_));conv=>whnf)|fail)
 all_goals first
  | rfl
  |(exfalso; omega)

end Go.Proofs.Try
end

section
namespace Go.Proofs.Try
open Go Go.Vm
set_option maxRecDepth 20000
/-! The flow of a yard and batches: the code's search ends; nothing more fits. -/
theorem cell_flow0 {y : Yd} {l : List Bt} {b p : Nat} : cellZ (flow0 y l) b p = 0 := by
 unfold cellZ flow0
 simp only [List.getD_eq_getElem?_getD, List.getElem?_map]
 cases l[b]? with
 | none => simp
 | some x =>
  simp only [Option.map_some, Option.getD_some, List.getElem?_replicate]
  split <;> rfl
theorem dim_flow0 {y : Yd} {l : List Bt} : Dim y.pits.length l.length (flow0 y l) := by
 refine ⟨by rw [flow0, List.length_map], fun r hr => ?_⟩
 obtain ⟨b, -, rfl⟩ := List.mem_map.1 hr
 exact List.length_replicate ..
theorem left_flow0 {y : Yd} {l : List Bt} {vol : List Int} {b : Nat} (hb : b < l.length) : leftF vol (flow0 y l) b = vol.getD b 0 := by
 rw [left_sum dim_flow0 hb, sumN_congr (g := fun _ => 0) (fun p _ => cell_flow0), sumN_zero]; omega
theorem free_flow0 {y : Yd} {l : List Bt} {room : List Int} {p : Nat} : freeF room (flow0 y l) p = room.getD p 0 := by
 rw [free_sum dim_flow0, sumN_congr (g := fun _ => 0) (fun b _ => cell_flow0), sumN_zero]; omega
theorem getD_bd9 {l : List Int} {M : Int} (h : ∀ x ∈ l, 0 ≤ x ∧ x ≤ M) (hM : 0 ≤ M) (i : Nat) : 0 ≤ l.getD i 0 ∧ l.getD i 0 ≤ M := by
 rw [List.getD_eq_getElem?_getD]
 cases hx : l[i]? with
 | none => exact ⟨Int.le_refl _, hM⟩
 | some x => exact h x (List.mem_of_getElem? hx)
theorem vol_bd {y : Yd} {l : List Bt} (h : LsOk y l) (b : Nat) : 0 ≤ (volF y l).getD b 0 ∧ (volF y l).getD b 0 ≤ 10000000000001000 := by
 have hy := yd_ok h.yd
 exact getD_bd9 (volsGo_spec h.wok ⟨hy.carL, hy.car⟩).2 (by decide) b
theorem room_bd {y : Yd} (h : YdOk y) (p : Nat) : 0 ≤ (roomF y).getD p 0 ∧ (roomF y).getD p 0 ≤ 40000000000000 :=
 getD_bd9 (fun x hx => by
  obtain ⟨q, hq, rfl⟩ := List.mem_map.1 hx
  exact roomS_bd h hq) (by decide) p
theorem fl_flow0 {y : Yd} {l : List Bt} (h : LsOk y l) : FlOk (accF y l) y.pits.length l.length (volF y l) (roomF y) (flow0 y l) :=
 ⟨dim_flow0, fun b p => by rw [cell_flow0]; exact Int.le_refl _, fun b p hc => by rw [cell_flow0] at hc; exact absurd hc (by decide),
  fun b hb => by rw [left_flow0 hb]; exact (vol_bd h b).1, fun p _ => by rw [free_flow0]; exact (room_bd (yd_ok h.yd) p).1⟩
def ordF (y : Yd) : List Nat := sortGo (priceF y) [] (List.range y.pits.length)
theorem ordF_mem {y : Yd} {p : Nat} : p ∈ ordF y ↔ p < y.pits.length := by
 rw [ordF, sortGo_mem]; simp
end Go.Proofs.Try
end

section
namespace Go.Proofs.Try
open Go Go.Vm
set_option maxRecDepth 20000
/-! Assignments, in plain Lean: what the check and the reference compute. The batch of a number is 'ib', the pit of a name 'ip'. -/
section
variable {acc : Nat → Nat → Bool} {P L : Nat} {vol room : List Int} {ib : Int → Int} {ip : ByteArray → Int}
def sumA (q : Al → Bool) (x : List Al) : Int := (x.map fun a => if q a = true then a.vol else 0).sum
theorem sumA_cons {q : Al → Bool} {a : Al} {r : List Al} : sumA q (a :: r) = (if q a = true then a.vol else 0) + sumA q r := by simp [sumA]
structure Vld (acc : Nat → Nat → Bool) (ib : Int → Int) (ip : ByteArray → Int) (a : Al) : Prop where
 b : 0 ≤ ib a.n
 p : 0 ≤ ip a.pit
 v : 0 < a.vol
 ac : acc (ip a.pit).toNat (ib a.n).toNat = true
structure Chr (acc : Nat → Nat → Bool) (ib : Int → Int) (ip : ByteArray → Int) (P L : Nat) (vl rm : Nat → Int) (seen : List (Int × Int)) (x : List Al) : Prop where
 ok : ∀ a ∈ x, Vld acc ib ip a
 nd : (x.map fun a => (ib a.n, ip a.pit)).Nodup
 ns : ∀ a ∈ x, (ib a.n, ip a.pit) ∉ seen
 sb : ∀ b, b < L → sumA (fun a => ib a.n == (b : Int)) x = vl b
 sp : ∀ p, p < P → sumA (fun a => ip a.pit == (p : Int)) x ≤ rm p
theorem Chr.cons {vl rm : Nat → Int} {seen : List (Int × Int)} {a : Al} {r : List Al} (hib : ib a.n < L) (hip : ip a.pit < P) (hv : Vld acc ib ip a) (hns : (ib a.n, ip a.pit) ∉ seen)
 {vl' rm' : Nat → Int} (e1 : ∀ b, b < L → vl' b = vl b - if (ib a.n == (b : Int)) = true then a.vol else 0) (e2 : ∀ p, p < P → rm' p = rm p - if (ip a.pit == (p : Int)) = true then a.vol else 0) :
 Chr acc ib ip P L vl rm seen (a :: r) ↔ Chr acc ib ip P L vl' rm' (seen ++ [(ib a.n, ip a.pit)]) r := by
 constructor
 ·intro h
  have hnd := h.nd
  rw [List.map_cons, List.nodup_cons] at hnd
  refine ⟨fun c hc => h.ok c (List.mem_cons_of_mem _ hc), hnd.2, fun c hc hm => ?_, fun b hb => ?_, fun p hp => ?_⟩
  ·rcases List.mem_append.1 hm with hm | hm
   ·exact h.ns c (List.mem_cons_of_mem _ hc) hm
   ·exact hnd.1 (List.mem_map.2 ⟨c, hc, List.mem_singleton.1 hm⟩)
  ·have := h.sb b hb
   rw [sumA_cons] at this
   rw [e1 b hb]; omega
  ·have := h.sp p hp
   rw [sumA_cons] at this
   rw [e2 p hp]; omega
 ·intro h
  refine ⟨fun c hc => ?_, ?_, fun c hc hm => ?_, fun b hb => ?_, fun p hp => ?_⟩
  ·rcases List.mem_cons.1 hc with rfl | hc
   ·exact hv
   ·exact h.ok c hc
  ·rw [List.map_cons, List.nodup_cons]
   refine ⟨fun hm => ?_, h.nd⟩
   obtain ⟨c, hc, he⟩ := List.mem_map.1 hm
   exact h.ns c hc (List.mem_append.2 (.inr (List.mem_singleton.2 he)))
  ·rcases List.mem_cons.1 hc with rfl | hc
   ·exact hns hm
   ·exact h.ns c hc (List.mem_append.2 (.inl hm))
  ·have := h.sb b hb
   rw [e1 b hb] at this
   rw [sumA_cons]; omega
  ·have := h.sp p hp
   rw [e2 p hp] at this
   rw [sumA_cons]; omega
end
end Go.Proofs.Try
end

section
namespace Go.Proofs.Try
open Go Go.Vm
set_option maxRecDepth 20000
/-! What the assignment of the code costs. -/
theorem pitI_name {y : Yd} (h : ydErr y = 0) {p : Nat} (hp : p < y.pits.length) : pitI y (nameF y p) = p := by
 obtain ⟨q, hq⟩ := some_of_lt hp
 have e : nameF y p = q.name := by rw [nameF, hq]
 rw [e]
 exact pitI_self h hq
theorem mem_allF {y : Yd} {l : List Bt} {fl : List (List Int)} {a : Al} : ∀ {i : Nat}, a ∈ allF y l fl i → ∃ b p, b < i ∧ p < y.pits.length ∧ 0 < cellZ fl b p ∧ a = ⟨numF l b, nameF y p, cellZ fl b p⟩ := by
 intro i h
 rw [allF, List.mem_flatMap] at h
 obtain ⟨b, hb, h⟩ := h
 rw [rowA, List.mem_filterMap] at h
 obtain ⟨p, hp, h⟩ := h
 rw [cellA] at h
 split at h
 ·rename_i hc
  cases h
  exact ⟨b, p, List.mem_range.1 hb, List.mem_range.1 hp, hc, rfl⟩
 ·cases h
theorem cost_row {y : Yd} {l : List Bt} {fl : List (List Int)} (h : ydErr y = 0) (hn : ∀ b p, 0 ≤ cellZ fl b p) (b : Nat) : ∀ k, k ≤ y.pits.length → ((rowA y l fl b k).map (prA y)).sum = sumN k fun p => cellZ fl b p * priceF y p
 | 0, _ => rfl
 | k + 1, hk => by
  rw [rowA_succ, List.map_append, List.sum_append, cost_row h hn b k (by omega), sumN]
  congr 1
  have := hn b k
  split
  ·simp only [List.map_cons, List.map_nil, List.sum_cons, List.sum_nil, Int.add_zero]
   rw [prA]
   simp only
   rw [pitI_name h (by omega), Int.toNat_natCast]
  ·rw [show cellZ fl b k = 0 by omega]; simp
theorem cost_all {y : Yd} {l : List Bt} {fl : List (List Int)} (h : ydErr y = 0) (hn : ∀ b p, 0 ≤ cellZ fl b p) : ∀ i, costF y (allF y l fl i) = sumN i fun b => sumN y.pits.length fun p => cellZ fl b p * priceF y p
 | 0 => rfl
 | i + 1 => by
  rw [allF_succ, costF, List.map_append, List.sum_append, cost_row h hn i _ (Nat.le_refl _), sumN, ← cost_all h hn i]
  rfl
theorem sumN_mul {f : Nat → Int} {c : Int} : ∀ {n : Nat}, sumN n (fun i => f i * c) = sumN n f * c
 | 0 => by simp [sumN]
 | n + 1 => by rw [sumN, sumN, sumN_mul, Int.add_mul]
theorem sumN_bd {f : Nat → Int} {M : Int} : ∀ {n : Nat}, (∀ i, i < n → f i ≤ M) → sumN n f ≤ n * M
 | 0, _ => by simp [sumN]
 | n + 1, h => by
  have h1 := sumN_bd (n := n) fun i hi => h i (by omega)
  have h2 := h n (by omega)
  have : ((n + 1 : Nat) : Int) * M = n * M + M := by rw [Int.natCast_add, Int.add_mul]; simp
  rw [sumN]; omega
theorem priceF_bd {y : Yd} (h : YdOk y) (p : Nat) : 0 ≤ priceF y p ∧ priceF y p ≤ 10000 := by
 unfold priceF
 cases hq : y.pits[p]? with
 | none => simp
 | some q => exact pt_price h q (List.mem_of_getElem? hq)
theorem cost_pits {y : Yd} {l : List Bt} {fl : List (List Int)} (h : ydErr y = 0) (hn : ∀ b p, 0 ≤ cellZ fl b p) (hd : Dim y.pits.length l.length fl) {room : List Int} :
 costF y (allF y l fl l.length) = sumN y.pits.length fun p => (room.getD p 0 - freeF room fl p) * priceF y p := by
 rw [cost_all h hn, sumN_swap]
 refine sumN_congr fun p _ => ?_
 rw [sumN_mul, free_sum hd]
 congr 1
 omega
theorem cost_bd {y : Yd} {l : List Bt} {fl : List (List Int)} (h : LsOk y l) (hf : FlOk (accF y l) y.pits.length l.length (volF y l) (roomF y) fl) : costF y (allF y l fl l.length) ≤ 9000000000000000000 := by
 have hy := yd_ok h.yd
 rw [cost_pits h.yd hf.nn hf.dim (room := roomF y)]
 have := sumN_bd (f := fun p => ((roomF y).getD p 0 - freeF (roomF y) fl p) * priceF y p) (M := 400000000000000000) (n := y.pits.length) fun p hp => by
  have h1 := hf.fr p hp
  have h2 := room_bd hy p
  have h3 := priceF_bd hy p
  have h4 : 0 ≤ (roomF y).getD p 0 - freeF (roomF y) fl p := by
   rw [free_sum hf.dim]
   have := sumN_nn (f := fun b => cellZ fl b p) (n := l.length) fun b _ => hf.nn b p
   omega
  have := Int.mul_le_mul (show (roomF y).getD p 0 - freeF (roomF y) fl p ≤ 40000000000000 by omega) (show priceF y p ≤ 10000 by omega) (by omega) (by decide)
  omega
 have := hy.pits
 omega
theorem all_ok {y : Yd} {l : List Bt} {fl : List (List Int)} (h : LsOk y l) (hf : FlOk (accF y l) y.pits.length l.length (volF y l) (roomF y) fl) : ∀ a ∈ allF y l fl l.length, 0 ≤ pitI y a.pit ∧ 0 ≤ a.vol ∧ a.vol ≤ 100000000000000000 := by
 intro a ha
 obtain ⟨b, p, hb, hp, hc, rfl⟩ := mem_allF ha
 dsimp only
 rw [pitI_name h.yd hp]
 refine ⟨by omega, by omega, ?_⟩
 have h1 := hf.lf b hb
 rw [left_sum hf.dim hb] at h1
 have h2 := sumN_one (f := cellZ fl b) (n := y.pits.length) (i := p) (fun i _ => hf.nn b i) hp
 have h3 := vol_bd h b
 omega
end Go.Proofs.Try
end

section
namespace Go.Proofs.Try
open Go Go.Vm
set_option maxRecDepth 20000
/-! The tariff, in plain terms. -/
section
variable {acc : Nat → Nat → Bool} {P L : Nat} {vol room : List Int} {pr : Nat → Int}
theorem zero_of_free {fl : List (List Int)} (h : FlOk acc P L vol room fl) {p : Nat} (hf : freeF room fl p = room.getD p 0) : ∀ b, b < L → cellZ fl b p = 0 := by
 intro b hb
 rw [free_sum h.dim] at hf
 have h1 := sumN_one (f := fun b => cellZ fl b p) (n := L) (i := b) (fun i _ => h.nn i p) hb
 have h2 := h.nn b p
 omega
theorem fills_greedy (hv : ∀ b, vol.getD b 0 ≤ 100000000000000000) {n : Nat} (hn : L ≤ n) (hnP : P ≤ n) (le : Nat → Nat → Prop) : ∀ {s : List Nat} {fl fl' : List (List Int)} {D : Nat → Prop}, (∀ p ∈ s, p < P) → s.Nodup → s.Pairwise le → (∀ d, D d → ∀ q ∈ s, le d q) →
 FlOk acc P L vol room fl → (∀ p, ¬ D p → ∀ b, b < L → cellZ fl b p = 0) → (∃ k, ∀ j, k ≤ j → fillsF acc P L n j vol room s fl = some fl') →
 ∀ q, q ∈ s → 0 < freeF room fl' q → ∀ p, Rch acc P L fl' p q → p = q ∨ le p q
 | [], _, _, _, _, _, _, _, _, _, _ => fun q hq => by cases hq
 | p0 :: s, fl, fl', D, hs, hnd, hpw, hD, h, hz, ⟨k, hk⟩ => by
  have hp := hs p0 List.mem_cons_self
  rw [List.nodup_cons] at hnd
  rw [List.pairwise_cons] at hpw
  obtain ⟨m, hm⟩ := Int.eq_ofNat_of_zero_le (totL_nn h.lf L (Nat.le_refl _))
  obtain ⟨f1, ⟨k1, g1⟩, g2, g3, g4, g5, g6⟩ := fill_run hv hn hnP hp m h (by omega)
  have hk' : ∃ k, ∀ j, k ≤ j → fillsF acc P L n j vol room s f1 = some fl' := ⟨max k k1, fun j hj => by
   have := hk j (by omega)
   rw [fillsF, g1 j (by omega)] at this
   exact this⟩
  have hz1 : ∀ p, ¬ (D p ∨ p = p0) → ∀ b, b < L → cellZ f1 b p = 0 := fun p hp' => by
   rw [not_or] at hp'
   refine zero_of_free g2 ?_
   rw [(g4 p hp'.2).1, free_sum h.dim, sumN_congr (g := fun _ => 0) (fun b hb => hz p hp'.1 b hb), sumN_zero]; omega
  have ih := fills_greedy hv hn hnP le (D := fun p => D p ∨ p = p0) (fun p hp => hs p (List.mem_cons_of_mem _ hp)) hnd.2 hpw.2 (fun d hd q hq => by
   rcases hd with hd | rfl
   ·exact hD d hd q (List.mem_cons_of_mem _ hq)
   ·exact hpw.1 q hq) g2 hz1 hk'
  intro q hq hfr p hr
  rcases List.mem_cons.1 hq with rfl | hq
  ·obtain ⟨f2, ⟨k2, r1⟩, r2, r3, r4, r5, r6⟩ := fills_run hv hn hnP (fun p hp => hs p (List.mem_cons_of_mem _ hp)) g2
   have e : f2 = fl' := by
    obtain ⟨k', hk'⟩ := hk'
    have a := r1 (max k2 k') (by omega)
    have b := hk' (max k2 k') (by omega)
    rw [a] at b
    exact Option.some.inj b
   subst e
   rw [r4 q hnd.1] at hfr
   have hnw : ¬ ∃ st, Way acc P L vol f1 q st := by
    rcases g3 with h1 | h1
    ·exact h1
    ·omega
   have hr1 := (r6 q hnw).2 p hr
   cases hr1 with
   | refl => exact .inl rfl
   | step hb hc hp' ha h' =>
    by_cases hDp : D p ∨ p = q
    ·rcases hDp with hd | rfl
     ·exact .inr (hD p hd q List.mem_cons_self)
     ·exact .inl rfl
    ·rw [hz1 p hDp _ hb] at hc
     exact absurd hc (by decide)
  ·exact ih q hq hfr p hr
/-! The loop. -/
variable {fl : List (List Int)}
def TB (acc : Nat → Nat → Bool) (P L : Nat) (room : List Int) (pr : Nat → Int) (fl : List (List Int)) (b : Nat) (x : Int) : Prop := x = 10000 ∨ ∃ p q, p < P ∧ q < P ∧ acc p b = true ∧ Rch acc P L fl p q ∧ ((0 < freeF room fl q ∧ x = pr q) ∨ x = 10000 + pr q)
def TP (acc : Nat → Nat → Bool) (P L : Nat) (room : List Int) (pr : Nat → Int) (fl : List (List Int)) (p : Nat) (x : Int) : Prop := x = 10000 - pr p ∨ ∃ q, q < P ∧ Rch acc P L fl p q ∧ ((0 < freeF room fl q ∧ x = pr q - pr p) ∨ x = 10000 + pr q - pr p)
structure TfI (acc : Nat → Nat → Bool) (P L : Nat) (room : List Int) (pr : Nat → Int) (fl : List (List Int)) (s : Tf) : Prop where
 bl : s.bs.length = L
 pl : s.ps.length = P
 b : ∀ b, b < L → TB acc P L room pr fl b (s.bs.getD b 0) ∧ s.bs.getD b 0 ≤ 10000
 p : ∀ p, p < P → TP acc P L room pr fl p (s.ps.getD p 0) ∧ s.ps.getD p 0 ≤ 10000
 f : ∀ p, p < P → 0 < freeF room fl p → s.ps.getD p 0 ≤ 0
def TR (s s' : Tf) : Prop := s' = s ∨ (s'.again = true ∧ s'.bs.sum + s'.ps.sum < s.bs.sum + s.ps.sum)
theorem TR.trans {s s' s'' : Tf} (h : TR s s') (h' : TR s' s'') : TR s s'' := by
 rcases h with rfl | ⟨a, b⟩
 ·exact h'
 ·rcases h' with rfl | ⟨c, d⟩
  ·exact .inr ⟨a, b⟩
  ·exact .inr ⟨c, by omega⟩
theorem TR.back {s s' : Tf} (h : TR s s') (ha : s'.again = false) : s' = s := by
 rcases h with h | ⟨h, -⟩
 ·exact h
 ·rw [ha] at h; cases h
theorem tf1_ok9 {s : Tf} (h : TfI acc P L room pr fl s) {b p : Nat} (hb : b < L) (hp : p < P) (ha : acc p b = true) : TfI acc P L room pr fl (tf1 pr b s p) ∧ TR s (tf1 pr b s p) ∧ ((tf1 pr b s p).again = false → s.bs.getD b 0 ≤ pr p + s.ps.getD p 0) := by
 unfold tf1
 split
 ·rename_i hc
  have hbl : b < s.bs.length := by rw [h.bl]; exact hb
  refine ⟨⟨by rw [List.length_set]; exact h.bl, h.pl, fun b' hb' => ?_, h.p, h.f⟩, .inr ⟨rfl, ?_⟩, fun h => by cases h⟩
  ·dsimp only
   rw [getD_set9 hbl]
   split
   ·rename_i e
    subst e
    refine ⟨?_, by have := (h.b b hb).2; omega⟩
    rcases (h.p p hp).1 with e | ⟨q, hq, hr, e⟩
    ·exact .inl (by rw [e]; omega)
    ·refine .inr ⟨p, q, hp, hq, ha, hr, ?_⟩
     rcases e with ⟨e1, e2⟩ | e
     ·exact .inl ⟨e1, by rw [e2]; omega⟩
     ·exact .inr (by rw [e]; omega)
   ·exact h.b b' hb'
  ·dsimp only
   rw [sum_set9 hbl]; omega
 ·rename_i hc
  exact ⟨h, .inl rfl, fun _ => by omega⟩
theorem tf2_ok9 {s : Tf} (h : TfI acc P L room pr fl s) {b p : Nat} (hb : b < L) (hp : p < P) : TfI acc P L room pr fl (tf2 pr fl b s p) ∧ TR s (tf2 pr fl b s p) ∧ ((tf2 pr fl b s p).again = false → 0 < cellZ fl b p → s.ps.getD p 0 ≤ s.bs.getD b 0 - pr p) := by
 unfold tf2
 split
 ·rename_i hc
  have hpl : p < s.ps.length := by rw [h.pl]; exact hp
  refine ⟨⟨h.bl, by rw [List.length_set]; exact h.pl, h.b, fun p' hp' => ?_, fun p' hp' hf => ?_⟩, .inr ⟨rfl, ?_⟩, fun h => by cases h⟩
  ·dsimp only
   rw [getD_set9 hpl]
   split
   ·rename_i e
    subst e
    refine ⟨?_, by have := (h.p p hp).2; omega⟩
    rcases (h.b b hb).1 with e | ⟨p', q, hp', hq, ha, hr, e⟩
    ·exact .inl (by rw [e])
    ·refine .inr ⟨q, hq, .step hb hc.1 hp' ha hr, ?_⟩
     rcases e with ⟨e1, e2⟩ | e
     ·exact .inl ⟨e1, by rw [e2]⟩
     ·exact .inr (by rw [e])
   ·exact h.p p' hp'
  ·dsimp only
   rw [getD_set9 hpl]
   split
   ·rename_i e
    subst e
    have := h.f p hp hf
    omega
   ·exact h.f p' hp' hf
  ·dsimp only
   rw [sum_set9 hpl]; omega
 ·rename_i hc
  exact ⟨h, .inl rfl, fun _ hcl => by
   refine Classical.byContradiction fun hn => hc ⟨hcl, by omega⟩⟩
def TF (acc : Nat → Nat → Bool) (pr : Nat → Int) (fl : List (List Int)) (s : Tf) (b p : Nat) : Prop := acc p b = true → s.bs.getD b 0 ≤ pr p + s.ps.getD p 0 ∧ (0 < cellZ fl b p → s.ps.getD p 0 ≤ s.bs.getD b 0 - pr p)
theorem tfP_ok9 {s : Tf} (h : TfI acc P L room pr fl s) {b p : Nat} (hb : b < L) (hp : p < P) : TfI acc P L room pr fl (tfP acc pr fl b s p) ∧ TR s (tfP acc pr fl b s p) ∧ ((tfP acc pr fl b s p).again = false → TF acc pr fl s b p) := by
 unfold tfP
 split
 ·rename_i ha
  obtain ⟨h1, h2, h3⟩ := tf1_ok9 h hb hp ha
  obtain ⟨k1, k2, k3⟩ := tf2_ok9 h1 hb hp
  refine ⟨k1, h2.trans k2, fun hag _ => ?_⟩
  have e2 := k2.back hag
  rw [e2] at hag
  have e1 := h2.back hag
  rw [e2] at k3
  have := k3 hag
  rw [e1] at this
  exact ⟨h3 hag, this⟩
 ·rename_i ha
  exact ⟨h, .inl rfl, fun _ h' => absurd h' ha⟩
theorem tfB_ok9 {s : Tf} (h : TfI acc P L room pr fl s) {b : Nat} (hb : b < L) : ∀ i, i ≤ P → TfI acc P L room pr fl ((List.range i).foldl (tfP acc pr fl b) s) ∧ TR s ((List.range i).foldl (tfP acc pr fl b) s) ∧ (((List.range i).foldl (tfP acc pr fl b) s).again = false → ∀ p, p < i → TF acc pr fl s b p)
 | 0, _ => ⟨h, .inl rfl, fun _ p hp => absurd hp (by omega)⟩
 | i + 1, hi => by
  obtain ⟨h1, h2, h3⟩ := tfB_ok9 h hb i (by omega)
  rw [range_snoc]
  obtain ⟨k1, k2, k3⟩ := tfP_ok9 h1 hb (p := i) (by omega)
  refine ⟨k1, h2.trans k2, fun hag p hp => ?_⟩
  have e2 := k2.back hag
  have hag' := hag
  rw [e2] at hag'
  have e1 := h2.back hag'
  by_cases e : p = i
  ·subst e
   have := k3 hag
   rw [e1] at this
   exact this
  ·exact h3 hag' p (by omega)
theorem tfR_ok9 {s : Tf} (h : TfI acc P L room pr fl s) : ∀ i, i ≤ L → TfI acc P L room pr fl ((List.range i).foldl (tfB acc pr fl P) s) ∧ TR s ((List.range i).foldl (tfB acc pr fl P) s) ∧ (((List.range i).foldl (tfB acc pr fl P) s).again = false → ∀ b, b < i → ∀ p, p < P → TF acc pr fl s b p)
 | 0, _ => ⟨h, .inl rfl, fun _ p hp => absurd hp (by omega)⟩
 | i + 1, hi => by
  obtain ⟨h1, h2, h3⟩ := tfR_ok9 h i (by omega)
  rw [range_snoc]
  obtain ⟨k1, k2, k3⟩ := tfB_ok9 h1 (b := i) (by omega) P (Nat.le_refl _)
  refine ⟨k1, h2.trans k2, fun hag b hb => ?_⟩
  have hag : ((List.range P).foldl (tfP acc pr fl i) ((List.range i).foldl (tfB acc pr fl P) s)).again = false := hag
  have e2 := k2.back hag
  have hag' := hag
  rw [e2] at hag'
  have e1 := h2.back hag'
  by_cases e : b = i
  ·subst e
   have := k3 hag
   rw [e1] at this
   exact this
  ·exact h3 hag' b (by omega)
theorem getD_mem {l : List Int} {Q : Int → Prop} {n : Nat} (hl : l.length = n) (h : ∀ i, i < n → Q (l.getD i 0)) : ∀ x ∈ l, Q x := by
 intro x hx
 obtain ⟨i, hi⟩ := List.getElem?_of_mem hx
 have := h i (by rw [← hl]; exact lt_of_some hi)
 rwa [List.getD_eq_getElem?_getD, hi] at this
theorem TfI.nn {s : Tf} (h : TfI acc P L room pr fl s) (hpr : ∀ p, 0 ≤ pr p ∧ pr p ≤ 10000) (hG : ∀ p q, p < P → q < P → 0 < freeF room fl q → Rch acc P L fl p q → pr p ≤ pr q) :
 (∀ x ∈ s.bs, 0 ≤ x ∧ x ≤ 10000) ∧ ∀ x ∈ s.ps, 0 ≤ x ∧ x ≤ 10000 := by
 refine ⟨getD_mem h.bl fun b hb => ?_, getD_mem h.pl fun p hp => ?_⟩
 ·obtain ⟨h1, h2⟩ := h.b b hb
  refine ⟨?_, h2⟩
  rcases h1 with e | ⟨p, q, -, -, -, -, ⟨-, e⟩ | e⟩
  ·rw [e]; decide
  ·rw [e]; exact (hpr q).1
  ·rw [e]; have := (hpr q).1; omega
 ·obtain ⟨h1, h2⟩ := h.p p hp
  refine ⟨?_, h2⟩
  have h3 := hpr p
  rcases h1 with e | ⟨q, hq, hr, ⟨hf, e⟩ | e⟩
  ·rw [e]; omega
  ·rw [e]; have := hG p q hp hq hf hr; omega
  ·rw [e]; have := (hpr q).1; omega
theorem tf_run (hpr : ∀ p, 0 ≤ pr p ∧ pr p ≤ 10000) (hG : ∀ p q, p < P → q < P → 0 < freeF room fl q → Rch acc P L fl p q → pr p ≤ pr q) : ∀ (N : Nat) {s : Tf}, TfI acc P L room pr fl s → s.again = true → s.bs.sum + s.ps.sum ≤ N →
 ∃ m t, tfGo acc pr fl P L m s = some t ∧ TfI acc P L room pr fl t ∧ ∀ b, b < L → ∀ p, p < P → TF acc pr fl t b p := by
 intro N
 induction N with
 | zero =>
  intro s h ha hN
  obtain ⟨n1, n2⟩ := h.nn hpr hG
  have hok : okTf s = true := by
   rw [okTf, Bool.and_eq_true, List.all_eq_true, List.all_eq_true]
   exact ⟨fun x hx => by have := n1 x hx; simp [okT]; omega, fun x hx => by have := n2 x hx; simp [okT]; omega⟩
  have h0 : TfI acc P L room pr fl ⟨s.bs, s.ps, false⟩ := ⟨h.bl, h.pl, h.b, h.p, h.f⟩
  obtain ⟨k1, k2, k3⟩ := tfR_ok9 h0 L (Nat.le_refl _)
  have hr : tfR acc pr fl P L s = (List.range L).foldl (tfB acc pr fl P) ⟨s.bs, s.ps, false⟩ := rfl
  rw [← hr] at k1 k2 k3
  cases hag : (tfR acc pr fl P L s).again with
  | false =>
   refine ⟨1, tfR acc pr fl P L s, ?_, k1, fun b hb p hp => ?_⟩
   ·rw [tfGo, if_neg (by rw [ha]; decide), if_pos hok, tfGo, if_pos hag]
   ·rw [k2.back hag]; exact k3 hag b hb p hp
  | true =>
   exfalso
   rcases k2 with e | ⟨-, hlt⟩
   ·rw [e] at hag; cases hag
   ·obtain ⟨m1, m2⟩ := k1.nn hpr hG
    have := sum_nn (l := (tfR acc pr fl P L s).bs) fun x hx => (m1 x hx).1
    have := sum_nn (l := (tfR acc pr fl P L s).ps) fun x hx => (m2 x hx).1
    dsimp only at hlt
    omega
 | succ N ih =>
  intro s h ha hN
  obtain ⟨n1, n2⟩ := h.nn hpr hG
  have hok : okTf s = true := by
   rw [okTf, Bool.and_eq_true, List.all_eq_true, List.all_eq_true]
   exact ⟨fun x hx => by have := n1 x hx; simp [okT]; omega, fun x hx => by have := n2 x hx; simp [okT]; omega⟩
  have h0 : TfI acc P L room pr fl ⟨s.bs, s.ps, false⟩ := ⟨h.bl, h.pl, h.b, h.p, h.f⟩
  obtain ⟨k1, k2, k3⟩ := tfR_ok9 h0 L (Nat.le_refl _)
  have hr : tfR acc pr fl P L s = (List.range L).foldl (tfB acc pr fl P) ⟨s.bs, s.ps, false⟩ := rfl
  rw [← hr] at k1 k2 k3
  cases hag : (tfR acc pr fl P L s).again with
  | false =>
   refine ⟨1, tfR acc pr fl P L s, ?_, k1, fun b hb p hp => ?_⟩
   ·rw [tfGo, if_neg (by rw [ha]; decide), if_pos hok, tfGo, if_pos hag]
   ·rw [k2.back hag]; exact k3 hag b hb p hp
  | true =>
   have hlt : (tfR acc pr fl P L s).bs.sum + (tfR acc pr fl P L s).ps.sum < s.bs.sum + s.ps.sum := by
    rcases k2 with e | ⟨-, hlt⟩
    ·rw [e] at hag; cases hag
    ·exact hlt
   obtain ⟨m, t, h1, h2, h3⟩ := ih k1 hag (by omega)
   exact ⟨m + 1, t, by rw [tfGo, if_neg (by rw [ha]; decide), if_pos hok]; exact h1, h2, h3⟩
end
end Go.Proofs.Try
end

section
namespace Go.Proofs.Try
open Go Go.Vm
set_option maxRecDepth 20000
/-! The tariff proves the cost. -/
section
variable {acc : Nat → Nat → Bool} {P L : Nat} {vol room : List Int} {pr : Nat → Int} {fl : List (List Int)}
theorem setF_get {g : Nat → Int} {n : Nat} : ∀ i, i ≤ n → ∀ j, ((List.range i).foldl (fun s p => s.set p (g p)) (List.replicate n (0 : Int))).getD j 0 = if j < i then g j else 0
 | 0, _, j => by
  rw [List.getD_eq_getElem?_getD]
  simp only [List.range_zero, List.foldl_nil, List.getElem?_replicate]
  split <;> simp
 | i + 1, hi, j => by
  rw [range_snoc, getD_set9 (by rw [setF_len]; omega), setF_get i (by omega) j]
  by_cases e : i = j
  ·subst e; rw [if_pos rfl, if_pos (by omega)]
  ·rw [if_neg e]
   by_cases h : j < i
   ·rw [if_pos h, if_pos (by omega)]
   ·rw [if_neg h, if_neg (by omega)]
theorem tfS_ok : TfI acc P L room pr fl (tfS P L room fl) := by
 refine ⟨setF_len L, setF_len P, fun b hb => ?_, fun p hp => ?_, fun p hp hf => ?_⟩
 ·show TB acc P L room pr fl b (((List.range L).foldl (fun s b => s.set b 10000) (List.replicate L (0 : Int))).getD b 0) ∧ ((List.range L).foldl (fun s b => s.set b 10000) (List.replicate L (0 : Int))).getD b 0 ≤ 10000
  rw [setF_get (g := fun _ => 10000) L (Nat.le_refl _) b, if_pos hb]
  exact ⟨.inl rfl, Int.le_refl _⟩
 ·show TP acc P L room pr fl p (((List.range P).foldl (fun s p => s.set p (if 0 < freeF room fl p then 0 else 10000)) (List.replicate P (0 : Int))).getD p 0) ∧ ((List.range P).foldl (fun s p => s.set p (if 0 < freeF room fl p then 0 else 10000)) (List.replicate P (0 : Int))).getD p 0 ≤ 10000
  rw [setF_get (g := fun p => if 0 < freeF room fl p then 0 else 10000) P (Nat.le_refl _) p, if_pos hp]
  split
  ·rename_i hf
   exact ⟨.inr ⟨p, hp, .refl p, .inl ⟨hf, by omega⟩⟩, by decide⟩
  ·exact ⟨.inr ⟨p, hp, .refl p, .inr (by omega)⟩, by decide⟩
 ·show ((List.range P).foldl (fun s p => s.set p (if 0 < freeF room fl p then 0 else 10000)) (List.replicate P (0 : Int))).getD p 0 ≤ 0
  rw [setF_get (g := fun p => if 0 < freeF room fl p then 0 else 10000) P (Nat.le_refl _) p, if_pos hp, if_pos hf]
  decide
end
end Go.Proofs.Try
end

section
namespace Go.Proofs.Try
open Go Go.Vm
set_option maxRecDepth 20000
/-! The order of the pits; the tariff of a yard. -/
def leP (pr : Nat → Int) (p q : Nat) : Prop := pr p < pr q ∨ (pr p = pr q ∧ p < q)
theorem leP.trans {pr : Nat → Int} {a b c : Nat} (h : leP pr a b) (h' : leP pr b c) : leP pr a c := by
 unfold leP at *; omega
theorem insR_desc {pr : Nat → Int} {x : Nat} : ∀ {R : List Nat}, (∀ z ∈ R, z < x) → R.Pairwise (fun a b => leP pr b a) → (insR pr x R).Pairwise fun a b => leP pr b a
 | [], _, _ => by simp [insR]
 | a :: r, hl, hR => by
  rw [List.pairwise_cons] at hR
  rw [insR]
  split
  ·rename_i hc
   refine List.pairwise_cons.2 ⟨fun z hz => ?_, insR_desc (fun z hz => hl z (List.mem_cons_of_mem _ hz)) hR.2⟩
   rcases insR_mem.1 hz with rfl | hz
   ·exact .inl hc
   ·exact hR.1 z hz
  ·rename_i hc
   have hax : leP pr a x := by
    have := hl a List.mem_cons_self
    unfold leP; omega
   refine List.pairwise_cons.2 ⟨fun z hz => ?_, List.pairwise_cons.2 hR⟩
   rcases List.mem_cons.1 hz with rfl | hz
   ·exact hax
   ·exact (hR.1 z hz).trans hax
theorem sortGo_asc {pr : Nat → Int} : ∀ {s R : List Nat}, (∀ z ∈ R, ∀ x ∈ s, z < x) → s.Pairwise (· < ·) → R.Pairwise (fun a b => leP pr b a) → (sortGo pr R s).Pairwise (leP pr)
 | [], R, _, _, h => by
  rw [sortGo, List.pairwise_reverse]; exact h
 | x :: r, R, hz, hs, h => by
  rw [List.pairwise_cons] at hs
  rw [sortGo]
  refine sortGo_asc (fun z hz' q hq => ?_) hs.2 (insR_desc (fun z hz' => hz z hz' x List.mem_cons_self) h)
  rcases insR_mem.1 hz' with rfl | hz'
  ·exact hs.1 q hq
  ·exact hz z hz' q (List.mem_cons_of_mem _ hq)
theorem ordF_asc {y : Yd} : (ordF y).Pairwise (leP (priceF y)) := sortGo_asc (fun z hz => by cases hz) List.pairwise_lt_range .nil
theorem ordF_nodup {y : Yd} : (ordF y).Nodup := ordF_asc.imp fun h e => by subst e; unfold leP at h; omega
theorem cheap_run {y : Yd} {l : List Bt} (h : LsOk y l) : ∃ fl k, fillsF (accF y l) y.pits.length l.length 20 k (volF y l) (roomF y) (ordF y) (flow0 y l) = some fl ∧ FlOk (accF y l) y.pits.length l.length (volF y l) (roomF y) fl ∧
 (∀ p, p < y.pits.length → Shut (accF y l) y.pits.length l.length (volF y l) (roomF y) fl p) ∧
 ∃ m t, tfGo (accF y l) (priceF y) fl y.pits.length l.length m (tfS y.pits.length l.length (roomF y) fl) = some t ∧ TfI (accF y l) y.pits.length l.length (roomF y) (priceF y) fl t ∧ (∀ x ∈ t.bs, 0 ≤ x ∧ x ≤ 10000) ∧ (∀ x ∈ t.ps, 0 ≤ x ∧ x ≤ 10000) ∧
  ∀ b, b < l.length → ∀ p, p < y.pits.length → TF (accF y l) (priceF y) fl t b p := by
 have hy := yd_ok h.yd
 have hP := hy.pits
 have hL := h.len
 have hv : ∀ b, (volF y l).getD b 0 ≤ 100000000000000000 := fun b => by have := vol_bd h b; omega
 obtain ⟨fl, ⟨k, hk⟩, h2, h3, -, -, -⟩ := fills_run hv (n := 20) (by omega) (by omega) (s := ordF y) (fun p hp => ordF_mem.1 hp) (fl_flow0 h)
 have hG0 := fills_greedy hv (n := 20) (by omega) (by omega) (fun p q => priceF y p ≤ priceF y q) (s := ordF y) (D := fun _ => False) (fun p hp => ordF_mem.1 hp) ordF_nodup
  (ordF_asc.imp fun h => by unfold leP at h; omega) (fun d hd => hd.elim) (fl_flow0 h) (fun p _ b _ => cell_flow0) ⟨k, hk⟩
 have hG : ∀ p q, p < y.pits.length → q < y.pits.length → 0 < freeF (roomF y) fl q → Rch (accF y l) y.pits.length l.length fl p q → priceF y p ≤ priceF y q := fun p q _ hq hf hr => by
  rcases hG0 q (ordF_mem.2 hq) hf p hr with rfl | h1
  ·exact Int.le_refl _
  ·exact h1
 have hs := tfS_ok (acc := accF y l) (P := y.pits.length) (L := l.length) (room := roomF y) (pr := priceF y) (fl := fl)
 obtain ⟨n1, n2⟩ := hs.nn (priceF_bd hy) hG
 have s1 := sum_nn (l := (tfS y.pits.length l.length (roomF y) fl).bs) fun x hx => (n1 x hx).1
 have s2 := sum_nn (l := (tfS y.pits.length l.length (roomF y) fl).ps) fun x hx => (n2 x hx).1
 obtain ⟨N, hN⟩ := Int.eq_ofNat_of_zero_le (show 0 ≤ (tfS y.pits.length l.length (roomF y) fl).bs.sum + (tfS y.pits.length l.length (roomF y) fl).ps.sum by omega)
 obtain ⟨m, t, t1, t2, t3⟩ := tf_run (priceF_bd hy) hG N hs rfl (by omega)
 obtain ⟨m1, m2⟩ := t2.nn (priceF_bd hy) hG
 exact ⟨fl, k, hk k (Nat.le_refl _), h2, fun p hp => h3 p (.inl (ordF_mem.2 hp)), m, t, t1, t2, m1, m2, t3⟩
end Go.Proofs.Try
end
