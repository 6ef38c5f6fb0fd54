/- Texts DsG DsI DsK DqH DsL TwZ DqZ DsP, joined; what is not needed is left out. -/
import Derived.Test.YtahnaobdihhppaaGreatMgI
import Derived.Test.YtahnaobdihhppaaGreatProg
import Derived.Test.YtahnaobdihhppaaGreatMgH
import Derived.Shelf.Lays
import Derived.Test.YtahnaobdihhppaaGreatMgJ
import Derived.Test.YtahnaobdihhppaaGreatMpb
section
namespace Go.Proofs.Tryz
open Go Go.Vm
set_option maxRecDepth 20000
set_option maxHeartbeats 8000000
theorem xv_Volumes (y : Yd) (l : List Bt) (c : List Int) (hb : y.bulk.length ≤ 1000) (hl : l.length ≤ 100000) (hw : ∀ b ∈ l, ∃ k f z, Wok y b k f z) (hc : CarOk y c) :
 EvX Tryz.prog 40 [.d (ydD y), .d (.sl 5 (l.map btD)), .d (.sl 1 (c.map iD))] [] (.own 9 1 ((volsGo y c l).map iD).length) [(9, .row 3 1 ((volsGo y c l).map iD) false)] := by
 have hll : (l.map btD).length = l.length := List.length_map _
 have hcl := hc.len
 have hX := EvX.new1 (xs := [.sl 1 (c.map iD)]) (xv_CopyInts9 c (by omega)) 13
 generalize hV : volsGo y c l = V
 refine evx_of_awp tysOk mixed (fn := Tryz.f40) Tryz.func40 rfl rfl rfl ?_
 conv => whnf
 repeat' (first|((with_reducible refine AltK.r ?_);(conv=>whnf);(first|(refine CallX.mk _ _ (hX) rfl ?_));conv=>whnf)|fail)
 refine LoopK.o2 (fun x : Nat × List Int × List Int => x.1 ≤ l.length ∧ V = x.2.2 ++ volsGo y x.2.1 (l.drop x.1) ∧ x.2.2.length = x.1 ∧ CarOk y x.2.1) (fun x => [(8, .d (iD x.1)), (7, .own 200 1 (x.2.2.map iD).length)])
  (fun x => [(200, .row 3 1 (x.2.2.map iD) false), (13, .row 3 1 (x.2.1.map iD) false)]) (fun x => l.length - x.1) (0, c, []) ⟨by omega, hV.symm, rfl, hc⟩ (by refine ⟨?_, ?_, rfl⟩<;>(repeat' (first|exact True.intro|exact rfl|(refine ⟨?_,?_⟩)|(intro h;cases h;done)|fail));done) ?_
 rintro ⟨i, c', pre⟩ ⟨hi, hv, hpl, hc'⟩
 dsimp only at hi hv hpl hc' ⊢
 have hcl' := hc'.len
 have hpm : (pre.map iD).length = pre.length := List.length_map _
 have hcm : (c'.map iD).length = c'.length := List.length_map _
 by_cases hil : i < l.length
 ·obtain ⟨b, hbt⟩ := some_of_lt hil
  obtain ⟨k, f, z0, hW⟩ := hw b (List.mem_of_getElem? hbt)
  have hkl := lt_of_some hW.fat
  obtain ⟨z, hz⟩ := some_of_lt (show k < c'.length by rw [hcl']; exact hkl)
  have hzb := hc'.at_ k f z hW.fat hz
  have ek : (facI y b.soil).toNat = k := by rw [hW.ixk]; rfl
  have ef : bkAt y k = f := by rw [bkAt, List.getD, hW.fat]; rfl
  have ec : c'.getD k 0 = z := by rw [List.getD, hz]; rfl
  rw [drop_of hbt, volsGo, ek, ef, ec] at hv
  have hcar := carN_bd (b := b) (f := f) (c := z) hW.bok hW.fo hzb
  have w1 : Ev Tryz.prog 77 [.sl 3 (y.bulk.map bkD), .str b.soil] (iD (facI y b.soil)) := ev_Factor9 y.bulk b.soil (by omega)
  rw [hW.ixk] at w1
  have w2 := ev_Bulked9c hW hzb
  generalize volN b f z = v at *
  generalize carN b f z = cn at *
  have hmp1 : (c'.map iD).set (k : Int).toNat (iD cn) = (c'.set k cn).map iD := by rw [Int.toNat_natCast, List.map_set]
  conv => whnf
  repeat' (first|((refine PickE.map k hz (by omega) ?_);conv=>whnf)|((refine PickE.map i hbt (by omega) ?_);conv=>whnf)|((with_reducible refine Split.dec (fun _=>?_) (fun _=>?_))<;>conv=>whnf)|((with_reducible refine Need.mk ?_ ?_);(first|omega|rfl|decide|(refine ⟨?_,?_⟩<;>simp<;>omega)|(simp;omega));conv=>whnf)|((with_reducible refine Wr.inr ?_ ?_);(first|omega|(simp;omega));conv=>whnf)|((with_reducible refine AltK.l ?_);(conv=>whnf);(first|(refine CallK.mk _ (w1) ?_)|(refine CallK.mk _ (w2) ?_));conv=>whnf)|(exfalso;first|omega|contradiction)|fail)
  refine Again.au (i + 1, c'.set k cn, pre ++ [v]) ⟨by dsimp only; omega, by rw [hv]; simp, by simp only [List.length_append, List.length_singleton]; omega, hc'.set hW.fat hcar⟩ (by dsimp only; omega) ?_
  dsimp only
  exact (by refine ⟨?_, ?_, rfl⟩<;>(repeat' (first|exact True.intro|exact rfl|(refine ⟨?_,?_⟩)|(intro h;cases h;done)|exact map_snoc|(refine own_congr ?_;simp;done)|(simp;done)|fail));done)
 ·have hie : i = l.length := by omega
  subst hie
  rw [List.drop_length, volsGo, List.append_nil] at hv
  rw [hv]
  conv => whnf
  repeat' (first|((with_reducible refine Split.dec (fun _=>?_) (fun _=>?_))<;>conv=>whnf)|((with_reducible refine Need.mk ?_ ?_);(first|omega|rfl|decide|(refine ⟨?_,?_⟩<;>simp<;>omega)|(simp;omega));conv=>whnf)|(exfalso;first|omega|contradiction)|fail)
  exact ⟨⟨[(9, some 200)], (by refine ⟨?_, ?_, rfl⟩<;>(repeat' (first|exact True.intro|exact rfl|(refine ⟨?_,?_⟩)|(intro h;cases h;done)|fail));done)⟩, rfl⟩
theorem raGo_at {acc : Nat → Nat → Bool} {ib : Int → Int} {ip : ByteArray → Int} {v tk : List Int} {x : List Al} {i : Nat} {a : Al} (h : x[i]? = some a) : raGo acc ib ip v tk (x.take i) (x.drop i) =
 if ib a.n < 0 ∨ ip a.pit < 0 then none
 else if acc (ip a.pit).toNat (ib a.n).toNat = false then none
 else if a.vol < 1 ∨ v.getD (ib a.n).toNat 0 < a.vol then none
 else if (x.take i).any (fun x => x.n == a.n && sEq x.pit a.pit) = true then none
 else raGo acc ib ip (v.set (ib a.n).toNat (v.getD (ib a.n).toNat 0 - a.vol)) (tk.set (ip a.pit).toNat (tk.getD (ip a.pit).toNat 0 + a.vol)) (x.take (i + 1)) (x.drop (i + 1)) := by
 rw [drop_of h, raGo, take_snoc h]
theorem any_no9 {α : Type} {p : α → Bool} {l : List α} (h : ∀ c ∈ l, p c = false) : ¬ l.any p = true := by
 rw [Bool.not_eq_true, List.any_eq_false]
 intro c hc
 rw [h c hc]; decide
theorem ev_Assigned9 {y : Yd} {l : List Bt} (hO : LsOk y l) (hcl : ∀ p ∈ y.pits, p.cls.length ≤ 1000000) (x : List Al) (hn : x.length ≤ 200) :
 Ev Tryz.prog 24 [ydD y, .sl 5 (l.map btD), .sl 3 (x.map alD)] (.bool (raB (accF y l) (atI l) (pitI y) y.pits.length (volF y l) (roomF y) x)) := by
 have hy := yd_ok hO.yd
 have hlen := hO.len
 have hP8 := hy.pits
 have hb20 := hy.bulk
 have hlp : (y.pits.map ptD).length = y.pits.length := List.length_map _
 have hll : (l.map btD).length = l.length := List.length_map _
 have hlx : (x.map alD).length = x.length := List.length_map _
 have hV := EvX.new1 (xs := [ydD y, .sl 5 (l.map btD), .sl 1 (y.carry.map iD)]) (xv_Volumes y l y.carry (by omega) (by omega) hO.wok ⟨hy.carL, hy.car⟩) 19
 obtain ⟨hvl, hvb⟩ := volsGo_spec hO.wok ⟨hy.carL, hy.car⟩
 have hro : ∀ p, (h : p < y.pits.length) → Ev Tryz.prog 43 [ydD y, iD p] (iD ((roomF y).getD p 0)) := fun p h => by
  obtain ⟨q, hq⟩ := some_of_lt h
  have h1 := ev_Room9 y hq (hy.pit q (List.mem_of_getElem? hq)).1 hy.vol (by have := hy.deps; omega)
  have e : (roomF y).getD p 0 = roomS y q := by rw [roomF, List.getD, List.getElem?_map, hq]; rfl
  rw [e]; exact h1
 have hrb := room_bd hy
 rw [show volsGo y y.carry l = volF y l from rfl] at hV hvl hvb
 generalize volF y l = vol at *
 generalize roomF y = room at *
 have hvm : (vol.map iD).length = vol.length := List.length_map _
 have hres : ∀ r, raGo (accF y l) (atI l) (pitI y) vol (List.replicate y.pits.length 0) [] x = r → raB (accF y l) (atI l) (pitI y) y.pits.length vol room x = match r with
  | none => false
  | some r => (!r.1.any fun z => z != 0) && !(List.range y.pits.length).any fun p => decide (room.getD p 0 < r.2.getD p 0) := fun r hr => by subst hr; rfl
 generalize raB (accF y l) (atI l) (pitI y) y.pits.length vol room x = res at *
 have hrp0 : ∀ q ∈ List.replicate y.pits.length (0 : Int), 0 ≤ q ∧ q ≤ ((0 : Nat) : Int) * 10000000000001000 := fun q hq => by rw [(List.mem_replicate.1 hq).2]; simp
 have hmp0 : List.replicate ((y.pits.map ptD).length : Int).toNat (D.int .i64 0) = (List.replicate y.pits.length (0 : Int)).map iD := by rw [Int.toNat_natCast, List.length_map, List.map_replicate]; rfl
 refine ev_of_awp tysOk mixed (fn := Tryz.f24) Tryz.func24 rfl rfl rfl ?_
 conv => whnf
 repeat' (first|((with_reducible refine Need.mk ?_ ?_);(first|omega|rfl|decide|(refine ⟨?_,?_⟩<;>simp<;>omega)|(simp;omega));conv=>whnf)|((with_reducible refine AltK.r ?_);(conv=>whnf);(first|(refine CallX.mk _ _ (hV) rfl ?_));conv=>whnf)|fail)
 refine LoopK.o3 (fun z : Nat × List Int × List Int => z.1 ≤ x.length ∧ raGo (accF y l) (atI l) (pitI y) vol (List.replicate y.pits.length 0) [] x = raGo (accF y l) (atI l) (pitI y) z.2.1 z.2.2 (x.take z.1) (x.drop z.1) ∧ z.2.1.length = l.length ∧ z.2.2.length = y.pits.length ∧ (∀ q ∈ z.2.1, 0 ≤ q ∧ q ≤ 10000000000001000) ∧ (∀ q ∈ z.2.2, 0 ≤ q ∧ q ≤ (z.1 : Int) * 10000000000001000))
  (fun z => [(9, .d (iD z.1)), (7, .own 19 1 l.length), (8, .own 23 1 y.pits.length)]) (fun z => [(19, .row 3 1 (z.2.1.map iD) false), (23, .row 3 1 (z.2.2.map iD) false)]) (fun z => x.length - z.1)
  (0, vol, List.replicate y.pits.length 0) ⟨by omega, rfl, hvl, List.length_replicate .., hvb, hrp0⟩ (by refine ⟨?_, ?_, rfl⟩<;>(repeat' (first|exact True.intro|exact rfl|(refine ⟨?_,?_⟩)|(intro h;cases h;done)|(refine own_congr ?_;simp;done)|exact hmp0|((first|refine own_congr ?_|refine int_congr ?_|skip);simp [hvl];done)|fail));done) ?_
 clear hmp0 hrp0
 rintro ⟨i, v, tk⟩ ⟨hi, hgo, hvl', htl, hvb', htb⟩
 dsimp only at hi hgo hvl' htl hvb' htb ⊢
 have hvm' : (v.map iD).length = v.length := List.length_map _
 have htm : (tk.map iD).length = tk.length := List.length_map _
 by_cases hil : i < x.length
 ·obtain ⟨a, ha⟩ := some_of_lt hil
  have hxD : (x.map alD)[(i : Int).toNat]? = some (D.agg [iD a.n, .str a.pit, iD a.vol]) := by rw [Int.toNat_natCast, List.getElem?_map, ha]; rfl
  have w1 := ev_At9 l a.n (by omega)
  have w2 : Ev Tryz.prog 45 [.sl 6 (y.pits.map ptD), .str a.pit] (iD (pitI y a.pit)) := ev_Find9 y.pits a.pit (by omega)
  rw [raGo_at ha] at hgo
  have l1 : atI l a.n < l.length := ix_lt
  have l2 : pitI y a.pit < y.pits.length := ix_lt
  by_cases hc0 : atI l a.n < 0 ∨ pitI y a.pit < 0
  ·rw [if_pos hc0] at hgo
   rw [hres _ hgo]
   clear hgo hres
   generalize atI l a.n = bi at *
   generalize pitI y a.pit = pi at *
   conv => whnf
   repeat' (first|((refine PickE.mk _ hxD ?_);conv=>whnf)|((with_reducible refine Split.of_true ?_);conv=>whnf)|((with_reducible refine Split.dec (fun _=>?_) (fun _=>?_))<;>conv=>whnf)|((with_reducible refine Need.mk ?_ ?_);(first|omega|rfl|decide|(refine ⟨?_,?_⟩<;>simp<;>omega)|(simp;omega));conv=>whnf)|((with_reducible refine AltK.l ?_);(conv=>whnf);(first|(refine CallK.mk _ (w1) ?_)|(refine CallK.mk _ (w2) ?_));conv=>whnf)|(exfalso;first|omega|contradiction)|fail)
   all_goals first
    | rfl
    |(exfalso; omega)
  rw [if_neg hc0] at hgo
  obtain ⟨b, hb⟩ : ∃ b : Nat, atI l a.n = b := ⟨(atI l a.n).toNat, by omega⟩
  obtain ⟨p, hp⟩ : ∃ p : Nat, pitI y a.pit = p := ⟨(pitI y a.pit).toNat, by omega⟩
  rw [hb, hp] at hgo hc0
  rw [hb] at w1 l1
  rw [hp] at w2 l2
  simp only [Int.toNat_natCast] at hgo
  clear hb hp
  obtain ⟨q, hq⟩ := some_of_lt (show p < y.pits.length by omega)
  obtain ⟨bt, hbt⟩ := some_of_lt (show b < l.length by omega)
  have w3 := ev_Accepts9 q bt.cls (hcl q (List.mem_of_getElem? hq))
  have eA : accF y l p b = accB q bt.cls := by rw [accF, hq, hbt]
  rw [eA] at hgo
  obtain ⟨vb, hvb1⟩ := some_of_lt (show b < v.length by omega)
  obtain ⟨tp, htp1⟩ := some_of_lt (show p < tk.length by omega)
  have k1 := hvb' vb (List.mem_of_getElem? hvb1)
  have k2 := htb tp (List.mem_of_getElem? htp1)
  rw [show v.getD b 0 = vb by rw [List.getD, hvb1]; rfl, show tk.getD p 0 = tp by rw [List.getD, htp1]; rfl] at hgo
  cases hac : accB q bt.cls with
  | false =>
   rw [hac, if_pos rfl] at hgo
   rw [hac] at w3
   rw [hres _ hgo]
   clear hgo hres
   conv => whnf
   repeat' (first|((refine PickE.map b hbt (by omega) ?_);conv=>whnf)|((refine PickE.map p hq (by omega) ?_);conv=>whnf)|((refine PickE.mk _ hxD ?_);conv=>whnf)|((with_reducible first|refine Split.of_true ?_|refine Split.of_false ?_);conv=>whnf)|(with_reducible refine Split.neg ?_)|((with_reducible refine Split.dec (fun _=>?_) (fun _=>?_))<;>conv=>whnf)|((with_reducible refine Need.mk ?_ ?_);(first|omega|rfl|decide|(refine ⟨?_,?_⟩<;>simp<;>omega)|(simp;omega));conv=>whnf)|((with_reducible refine AltK.l ?_);(conv=>whnf);(first|(refine CallK.mk _ (w1) ?_)|(refine CallK.mk _ (w2) ?_)|(refine CallK.mk _ (w3) ?_));conv=>whnf)|(exfalso;first|omega|contradiction)|fail)
   all_goals first
    | rfl
    |(exfalso; omega)
  | true =>
  rw [hac, if_neg (by decide)] at hgo
  rw [hac] at w3
  by_cases hbig : a.vol < 1 ∨ vb < a.vol
  ·rw [if_pos hbig] at hgo
   rw [hres _ hgo]
   clear hgo hres
   conv => whnf
   repeat' (first|((refine PickE.map b hvb1 (by omega) ?_);conv=>whnf)|((refine PickE.map b hbt (by omega) ?_);conv=>whnf)|((refine PickE.map p hq (by omega) ?_);conv=>whnf)|((refine PickE.mk _ hxD ?_);conv=>whnf)|((with_reducible refine Split.of_true ?_);conv=>whnf)|(with_reducible refine Split.neg ?_)|((with_reducible refine Split.dec (fun _=>?_) (fun _=>?_))<;>conv=>whnf)|((with_reducible refine Need.mk ?_ ?_);(first|omega|rfl|decide|(refine ⟨?_,?_⟩<;>simp<;>omega)|(simp;omega));conv=>whnf)|((with_reducible refine AltK.l ?_);(conv=>whnf);(first|(refine CallK.mk _ (w1) ?_)|(refine CallK.mk _ (w2) ?_)|(refine CallK.mk _ (w3) ?_));conv=>whnf)|(exfalso;first|omega|contradiction)|fail)
   all_goals first
    | rfl
    |(exfalso; omega)
  rw [if_neg hbig] at hgo
  conv => whnf
  repeat' (first|((refine PickE.map b hvb1 (by omega) ?_);conv=>whnf)|((refine PickE.map b hbt (by omega) ?_);conv=>whnf)|((refine PickE.map p hq (by omega) ?_);conv=>whnf)|((refine PickE.mk _ hxD ?_);conv=>whnf)|((with_reducible refine Split.of_true ?_);conv=>whnf)|(with_reducible refine Split.neg ?_)|((with_reducible refine Split.dec (fun _=>?_) (fun _=>?_))<;>conv=>whnf)|((with_reducible refine Need.mk ?_ ?_);(first|omega|rfl|decide|(refine ⟨?_,?_⟩<;>simp<;>omega)|(simp;omega));conv=>whnf)|((with_reducible refine AltK.l ?_);(conv=>whnf);(first|(refine CallK.mk _ (w1) ?_)|(refine CallK.mk _ (w2) ?_)|(refine CallK.mk _ (w3) ?_));conv=>whnf)|(exfalso;first|omega|contradiction)|fail)
  all_goals first
   |(exfalso; omega)
   | skip
  refine LoopK.o3 (fun j : Nat => j ≤ i ∧ ∀ c ∈ x.take j, (c.n == a.n && sEq c.pit a.pit) = false) (fun j => [(12, .d (iD j))]) (fun _ => []) (fun j => i - j) 0 ⟨by omega, by simp⟩ (by refine ⟨?_, ?_, rfl⟩<;>(repeat' (first|exact True.intro|exact rfl|(refine ⟨?_,?_⟩)|(intro h;cases h;done)|fail));done) ?_
  rintro j ⟨hj, hjn⟩
  by_cases hjl : j < i
  ·obtain ⟨c, hc⟩ := some_of_lt (show j < x.length by omega)
   have hcD : (x.map alD)[(j : Int).toNat]? = some (D.agg [iD c.n, .str c.pit, iD c.vol]) := by rw [Int.toNat_natCast, List.getElem?_map, hc]; rfl
   have hcm : c ∈ x.take i := List.mem_take_iff_getElem.2 ⟨j, by omega, (List.getElem?_eq_some_iff.1 hc).2⟩
   by_cases hce : c.n = a.n ∧ c.pit = a.pit
   ·have hin : (x.take i).any (fun x => x.n == a.n && sEq x.pit a.pit) = true := List.any_eq_true.2 ⟨c, hcm, by rw [hce.1, hce.2, sEq_self]; simp⟩
    rw [if_pos hin] at hgo
    rw [hres _ hgo]
    clear hgo hres
    obtain ⟨h3, h4⟩ := hce
    conv => whnf
    repeat' (first|((refine PickE.mk _ hxD ?_);conv=>whnf)|((refine PickE.mk _ hcD ?_);conv=>whnf)|((with_reducible refine Split.of_false ?_);conv=>whnf)|((with_reducible refine Split.eqz (fun _=>?_) (fun _=>?_))<;>conv=>whnf)|((with_reducible refine Split.streq (fun _=>?_) (fun _=>?_))<;>conv=>whnf)|((with_reducible refine Split.dec (fun _=>?_) (fun _=>?_))<;>conv=>whnf)|((with_reducible refine Need.mk ?_ ?_);(first|omega|rfl|decide|(refine ⟨?_,?_⟩<;>simp<;>omega)|(simp;omega));conv=>whnf)|((with_reducible refine Wr.inr ?_ ?_);(first|omega|(simp;omega));conv=>whnf)|(exfalso;first|omega|contradiction)|fail)
    all_goals first
     | rfl
     | contradiction
     |(exfalso; omega)
   ·have hcf : (c.n == a.n && sEq c.pit a.pit) = false := by
     by_cases h3 : c.n = a.n
     ·rw [sEq_ne (fun h => hce ⟨h3, h⟩), Bool.and_false]
     ·rw [show (c.n == a.n) = false by simpa using h3, Bool.false_and]
    conv => whnf
    repeat' (first|((refine PickE.mk _ hxD ?_);conv=>whnf)|((refine PickE.mk _ hcD ?_);conv=>whnf)|((with_reducible refine Split.of_false ?_);conv=>whnf)|((with_reducible refine Split.eqz (fun _=>?_) (fun _=>?_))<;>conv=>whnf)|((with_reducible refine Split.streq (fun _=>?_) (fun _=>?_))<;>conv=>whnf)|((with_reducible refine Split.dec (fun _=>?_) (fun _=>?_))<;>conv=>whnf)|((with_reducible refine Need.mk ?_ ?_);(first|omega|rfl|decide|(refine ⟨?_,?_⟩<;>simp<;>omega)|(simp;omega));conv=>whnf)|((with_reducible refine Wr.inr ?_ ?_);(first|omega|(simp;omega));conv=>whnf)|(exfalso;first|omega|contradiction)|fail)
    all_goals first
     |(exfalso; exact hce ⟨by assumption, by assumption⟩)
     | skip
    all_goals refine Again.av (j + 1) ⟨by omega, fun z hz => ?_⟩ (by omega) (by refine ⟨?_, ?_, rfl⟩<;>(repeat' (first|exact True.intro|exact rfl|(refine ⟨?_,?_⟩)|(intro h;cases h;done)|fail));done)
    all_goals
     rw [take_snoc hc] at hz
     rcases List.mem_append.1 hz with hz | hz
     ·exact hjn z hz
     ·rw [List.mem_singleton.1 hz]; exact hcf
  ·have hje : j = i := by omega
   subst hje
   rw [if_neg (any_no9 hjn)] at hgo
   have hmp2 : (v.map iD).set (b : Int).toNat (iD (vb - a.vol)) = (v.set b (vb - a.vol)).map iD := by rw [Int.toNat_natCast, List.map_set]
   have hmp3 : (tk.map iD).set (p : Int).toNat (iD (tp + a.vol)) = (tk.set p (tp + a.vol)).map iD := by rw [Int.toNat_natCast, List.map_set]
   conv => whnf
   repeat' (first|((refine PickE.map p htp1 (by omega) ?_);conv=>whnf)|((refine PickE.map b hvb1 (by omega) ?_);conv=>whnf)|((refine PickE.mk _ hxD ?_);conv=>whnf)|((with_reducible refine Split.of_false ?_);conv=>whnf)|((with_reducible refine Split.eqz (fun _=>?_) (fun _=>?_))<;>conv=>whnf)|((with_reducible refine Split.streq (fun _=>?_) (fun _=>?_))<;>conv=>whnf)|((with_reducible refine Split.dec (fun _=>?_) (fun _=>?_))<;>conv=>whnf)|((with_reducible refine Need.mk ?_ ?_);(first|omega|rfl|decide|(refine ⟨?_,?_⟩<;>simp<;>omega)|(simp;omega));conv=>whnf)|((with_reducible refine Wr.inr ?_ ?_);(first|omega|(simp;omega));conv=>whnf)|(exfalso;first|omega|contradiction)|fail)
   all_goals first
    |(exfalso; omega)
    | skip
   refine Again.av (j + 1, v.set b (vb - a.vol), tk.set p (tp + a.vol)) ⟨by dsimp only;omega, hgo, by rw [List.length_set];exact hvl', by rw [List.length_set];exact htl, fun q hq => ?_, fun q hq => ?_⟩ (by dsimp only;omega) (by refine ⟨?_, ?_, rfl⟩<;>(repeat' (first|exact True.intro|exact rfl|(refine ⟨?_,?_⟩)|(intro h;cases h;done)|exact hmp2|exact hmp3|fail));done)
   ·rcases List.mem_or_eq_of_mem_set hq with h1 | h1
    ·exact hvb' q h1
    ·omega
   ·dsimp only
    rcases List.mem_or_eq_of_mem_set hq with h1 | h1
    ·have := htb q h1; omega
    ·omega
 ·rw [List.drop_eq_nil_of_le (show x.length ≤ i by omega), raGo] at hgo
  rw [hres _ hgo]
  clear hgo hres
  dsimp only
  conv => whnf
  repeat' (first|((with_reducible refine Split.dec (fun _=>?_) (fun _=>?_))<;>conv=>whnf)|((with_reducible refine Need.mk ?_ ?_);(first|omega|rfl|decide|(refine ⟨?_,?_⟩<;>simp<;>omega)|(simp;omega));conv=>whnf)|(exfalso;first|omega|contradiction)|fail)
  refine LoopK.o3 (fun j : Nat => j ≤ v.length ∧ ∀ c ∈ v.take j, (c != 0) = false) (fun j => [(13, .d (iD j))]) (fun _ => []) (fun j => v.length - j) 0 ⟨by omega, by simp⟩ (by refine ⟨?_, ?_, rfl⟩<;>(repeat' (first|exact True.intro|exact rfl|(refine ⟨?_,?_⟩)|(intro h;cases h;done)|fail));done) ?_
  rintro j ⟨hj, hjn⟩
  by_cases hjl : j < v.length
  ·obtain ⟨c, hc⟩ := some_of_lt hjl
   by_cases hc0 : c = 0
   ·subst hc0
    conv => whnf
    repeat' (first|((refine PickE.map j hc (by omega) ?_);conv=>whnf)|((with_reducible refine Split.is_false ?_ ?_);decide;conv=>whnf)|((with_reducible refine Split.dec (fun _=>?_) (fun _=>?_))<;>conv=>whnf)|((with_reducible refine Need.mk ?_ ?_);(first|omega|rfl|decide|(refine ⟨?_,?_⟩<;>simp<;>omega)|(simp;omega));conv=>whnf)|((with_reducible refine Wr.inr ?_ ?_);(first|omega|(simp;omega));conv=>whnf)|(exfalso;first|omega|contradiction)|fail)
    all_goals first
     |(exfalso; omega)
     | skip
    refine Again.av (j + 1) ⟨by omega, fun z hz => ?_⟩ (by omega) (by refine ⟨?_, ?_, rfl⟩<;>(repeat' (first|exact True.intro|exact rfl|(refine ⟨?_,?_⟩)|(intro h;cases h;done)|fail));done)
    rw [take_snoc hc] at hz
    rcases List.mem_append.1 hz with hz | hz
    ·exact hjn z hz
    ·rw [List.mem_singleton.1 hz]; rfl
   ·have : (v.any fun z => z != 0) = true := List.any_eq_true.2 ⟨c, List.mem_of_getElem? hc, by simpa using hc0⟩
    rw [this, Bool.not_true, Bool.false_and]
    conv => whnf
    repeat' (first|((refine PickE.map j hc (by omega) ?_);conv=>whnf)|((with_reducible refine Split.nez (fun _=>?_) (fun _=>?_))<;>conv=>whnf)|((with_reducible refine Split.dec (fun _=>?_) (fun _=>?_))<;>conv=>whnf)|((with_reducible refine Need.mk ?_ ?_);(first|omega|rfl|decide|(refine ⟨?_,?_⟩<;>simp<;>omega)|(simp;omega));conv=>whnf)|((with_reducible refine Wr.inr ?_ ?_);(first|omega|(simp;omega));conv=>whnf)|(exfalso;first|omega|contradiction)|fail)
    all_goals first
     | rfl
     |(exfalso; omega)
  ·rw [List.take_of_length_le (show v.length ≤ j by omega)] at hjn
   rw [show (v.any fun z => z != 0) = false from by simpa using any_no9 hjn, Bool.not_false, Bool.true_and]
   conv => whnf
   repeat' (first|((with_reducible refine Split.dec (fun _=>?_) (fun _=>?_))<;>conv=>whnf)|((with_reducible refine Need.mk ?_ ?_);(first|omega|rfl|decide|(refine ⟨?_,?_⟩<;>simp<;>omega)|(simp;omega));conv=>whnf)|(exfalso;first|omega|contradiction)|fail)
   refine LoopK.o3 (fun p : Nat => p ≤ y.pits.length ∧ ∀ c ∈ (List.range y.pits.length).take p, decide (room.getD c 0 < tk.getD c 0) = false) (fun j => [(14, .d (iD j))]) (fun _ => []) (fun j => y.pits.length - j) 0 ⟨by omega, by simp⟩ (by refine ⟨?_, ?_, rfl⟩<;>(repeat' (first|exact True.intro|exact rfl|(refine ⟨?_,?_⟩)|(intro h;cases h;done)|fail));done) ?_
   rintro p ⟨hp, hpn⟩
   by_cases hpl : p < y.pits.length
   ·obtain ⟨c, hc⟩ := some_of_lt (show p < tk.length by omega)
    have w5 := hro p hpl
    have hrp := hrb p
    have hcd : tk.getD p 0 = c := by rw [List.getD, hc]; rfl
    by_cases hb : room.getD p 0 < c
    ·have : ((List.range y.pits.length).any fun p => decide (room.getD p 0 < tk.getD p 0)) = true := List.any_eq_true.2 ⟨p, List.mem_range.2 hpl, by rw [hcd]; simpa using hb⟩
     rw [this]
     generalize room.getD p 0 = rp at *
     conv => whnf
     repeat' (first|((refine PickE.map p hc (by omega) ?_);conv=>whnf)|((with_reducible refine Split.dec (fun _=>?_) (fun _=>?_))<;>conv=>whnf)|((with_reducible refine Need.mk ?_ ?_);(first|omega|rfl|decide|(refine ⟨?_,?_⟩<;>simp<;>omega)|(simp;omega));conv=>whnf)|((with_reducible refine Wr.inr ?_ ?_);(first|omega|(simp;omega));conv=>whnf)|((with_reducible refine AltK.l ?_);(conv=>whnf);(first|(refine CallK.mk _ (w5) ?_));conv=>whnf)|(exfalso;first|omega|contradiction)|fail)
     all_goals first
      | rfl
      |(exfalso; omega)
    ·have hnb : decide (room.getD p 0 < tk.getD p 0) = false := by rw [hcd]; simpa using hb
     have hpr : (List.range y.pits.length)[p]? = some p := List.getElem?_range hpl
     have hsn := take_snoc hpr
     generalize hrpe : room.getD p 0 = rp at *
     conv => whnf
     repeat' (first|((refine PickE.map p hc (by omega) ?_);conv=>whnf)|((with_reducible refine Split.dec (fun _=>?_) (fun _=>?_))<;>conv=>whnf)|((with_reducible refine Need.mk ?_ ?_);(first|omega|rfl|decide|(refine ⟨?_,?_⟩<;>simp<;>omega)|(simp;omega));conv=>whnf)|((with_reducible refine Wr.inr ?_ ?_);(first|omega|(simp;omega));conv=>whnf)|((with_reducible refine AltK.l ?_);(conv=>whnf);(first|(refine CallK.mk _ (w5) ?_));conv=>whnf)|(exfalso;first|omega|contradiction)|fail)
     all_goals first
      |(exfalso; omega)
      | skip
     refine Again.av (p + 1) ⟨by omega, fun z hz => ?_⟩ (by omega) (by refine ⟨?_, ?_, rfl⟩<;>(repeat' (first|exact True.intro|exact rfl|(refine ⟨?_,?_⟩)|(intro h;cases h;done)|fail));done)
     rw [hsn] at hz
     rcases List.mem_append.1 hz with hz | hz
     ·exact hpn z hz
     ·rw [List.mem_singleton.1 hz, hrpe]; exact hnb
   ·rw [List.take_of_length_le (show (List.range y.pits.length).length ≤ p by rw [List.length_range]; omega)] at hpn
    rw [show ((List.range y.pits.length).any fun p => decide (room.getD p 0 < tk.getD p 0)) = false from by simpa only [Bool.not_eq_true] using any_no9 hpn]
    conv => whnf
    repeat' (first|((with_reducible refine Split.dec (fun _=>?_) (fun _=>?_))<;>conv=>whnf)|((with_reducible refine Need.mk ?_ ?_);(first|omega|rfl|decide|(refine ⟨?_,?_⟩<;>simp<;>omega)|(simp;omega));conv=>whnf)|(exfalso;first|omega|contradiction)|fail)
    rfl
end Go.Proofs.Tryz
end

section
namespace Go.Proofs.Tryz
open Go Go.Vm
set_option maxRecDepth 20000
set_option maxHeartbeats 8000000
theorem ev_CheckShares {y : Yd} {l : List Bt} (hs : smallP y) (h0 : lstE y l = 0) (x : List Al) (hn : x.length ≤ 1000) :
 Ev Tryz.prog 23 [ydD y, .sl 5 (l.map btD), .sl 3 (x.map alD)] (iD (if asgB (accF y l) (atI l) (pitI y) (volF y l) (roomF y) x = true then 0 else 21)) := by
 have hO := ls_ok h0
 have hlen := hO.len
 have hB := ev_begin hs (show l.length ≤ 1000000 by omega) h0
 have hA := ev_assigned (tk_ok hs hO) x hn
 have hJ := ev_judged (asgB (accF y l) (atI l) (pitI y) (volF y l) (roomF y) x)
 unfold tkC at hB hA
 generalize asgB (accF y l) (atI l) (pitI y) (volF y l) (roomF y) x = b at *
 refine ev_of_awp tysOk mixed (fn := Tryz.f23) Tryz.func23 rfl rfl rfl ?_
 conv => whnf
 repeat' (first|((with_reducible refine Split.is_false ?_ ?_);decide;conv=>whnf)|((with_reducible refine AltK.l ?_);(conv=>whnf);(first|(refine CallK.mk _ (hB) ?_)|(refine CallK.mk _ (hA) ?_)|(refine CallK.mk _ (hJ) ?_));conv=>whnf)|fail)
 all_goals first
  | rfl
  |(exfalso; omega)
theorem ev_CheckSharesNo {y : Yd} {l : List Bt} {x : List Al} (hs : smallP y) (hl : l.length ≤ 1000000) (hd : y.deps.length ≤ 1000000) (h0 : lstE y l ≠ 0) : Ev Tryz.prog 23 [ydD y, .sl 5 (l.map btD), .sl 3 (x.map alD)] (iD (lstE y l)) := by
 have hB := (xv_beginNo hs hl hd h0)
 generalize lstE y l = e at *
 refine ev_of_awp tysOk mixed (fn := Tryz.f23) Tryz.func23 rfl rfl rfl ?_
 conv => whnf
 repeat' (first|((with_reducible refine Split.nez (fun _=>?_) (fun _=>?_))<;>conv=>whnf)|((with_reducible refine AltK.r ?_);(conv=>whnf);(first|(refine CallX.mk _ _ (hB) rfl ?_));conv=>whnf)|(exfalso;first|omega|contradiction)|fail)
 all_goals first
  | rfl
  |(exfalso; omega)
end Go.Proofs.Tryz
end

section
namespace Go.Proofs.Tryz
open Go Go.Vm
set_option maxRecDepth 20000
set_option maxHeartbeats 8000000
def longB (x : List Al) : Bool := decide (30 < x.length) || x.any fun a => decide (40 < a.pit.size)
theorem longB_len {x : List Al} (h : longB x = false) : x.length ≤ 30 := by
 simp only [longB, Bool.or_eq_false_iff, decide_eq_false_iff_not] at h
 omega
theorem ev_long (x : List Al) : Ev Tryz.prog 22 [.sl 3 (x.map alD)] (.bool (longB x)) := by
 have hll : (x.map alD).length = x.length := List.length_map _
 by_cases h0 : 30 < x.length
 ·rw [longB, decide_eq_true h0, Bool.true_or]
  refine ev_of_awp tysOk mixed (fn := Tryz.f22) Tryz.func22 rfl rfl rfl ?_
  conv => whnf
  repeat' (first|((with_reducible refine Split.dec (fun _=>?_) (fun _=>?_))<;>conv=>whnf)|(exfalso;first|omega|contradiction)|fail)
  all_goals first
   | rfl
   |(exfalso; omega)
 rw [longB, decide_eq_false h0, Bool.false_or]
 refine ev_of_awp tysOk mixed (fn := Tryz.f22) Tryz.func22 rfl rfl rfl ?_
 conv => whnf
 repeat' (first|((with_reducible refine Split.dec (fun _=>?_) (fun _=>?_))<;>conv=>whnf)|(exfalso;first|omega|contradiction)|fail)
 all_goals first
  |(exfalso; omega)
  | skip
 refine LoopK.o3 (fun i : Nat => i ≤ x.length ∧ ∀ a ∈ x.take i, decide (40 < a.pit.size) = false) (fun i => [(3, .d (iD i))]) (fun _ => []) (fun i => x.length - i) 0 ⟨by omega, by simp⟩ (by refine ⟨?_, ?_, rfl⟩<;>(repeat' (first|exact True.intro|exact rfl|(refine ⟨?_,?_⟩)|fail));done) ?_
 rintro i ⟨hi, hp⟩
 by_cases hil : i < x.length
 ·obtain ⟨a, ha⟩ := some_of_lt hil
  have haD : (x.map alD)[(i : Int).toNat]? = some (D.agg [iD a.n, .str a.pit, iD a.vol]) := by rw [Int.toNat_natCast, List.getElem?_map, ha]; rfl
  by_cases hbig : 40 < a.pit.size
  ·rw [show (x.any fun a => decide (40 < a.pit.size)) = true from List.any_eq_true.2 ⟨a, List.mem_of_getElem? ha, decide_eq_true hbig⟩]
   conv => whnf
   repeat' (first|((refine PickE.mk _ haD ?_);conv=>whnf)|((with_reducible refine Split.dec (fun _=>?_) (fun _=>?_))<;>conv=>whnf)|((with_reducible refine Need.mk ?_ ?_);(first|omega|rfl|decide|(refine ⟨?_,?_⟩<;>simp<;>omega)|(simp;omega));conv=>whnf)|((with_reducible refine Wr.inr ?_ ?_);(first|omega|(simp;omega));conv=>whnf)|(exfalso;first|omega|contradiction)|fail)
   all_goals first
    | rfl
    |(exfalso; omega)
  ·conv => whnf
   repeat' (first|((refine PickE.mk _ haD ?_);conv=>whnf)|((with_reducible refine Split.dec (fun _=>?_) (fun _=>?_))<;>conv=>whnf)|((with_reducible refine Need.mk ?_ ?_);(first|omega|rfl|decide|(refine ⟨?_,?_⟩<;>simp<;>omega)|(simp;omega));conv=>whnf)|((with_reducible refine Wr.inr ?_ ?_);(first|omega|(simp;omega));conv=>whnf)|(exfalso;first|omega|contradiction)|fail)
   all_goals first
    |(exfalso; omega)
    | skip
   all_goals refine Again.av (i + 1) ⟨by omega, fun z hz => ?_⟩ (by omega) (by refine ⟨?_, ?_, rfl⟩<;>(repeat' (first|exact True.intro|exact rfl|(refine ⟨?_,?_⟩)|fail));done)
   all_goals
    rw [take_snoc ha] at hz
    rcases List.mem_append.1 hz with hz | hz
    ·exact hp z hz
    ·rw [List.mem_singleton.1 hz]; exact decide_eq_false hbig
 ·rw [List.take_of_length_le (show x.length ≤ i by omega)] at hp
  rw [show (x.any fun a => decide (40 < a.pit.size)) = false from by simpa only [Bool.not_eq_true] using any_no9 hp]
  conv => whnf
  repeat' (first|((with_reducible refine Split.dec (fun _=>?_) (fun _=>?_))<;>conv=>whnf)|((with_reducible refine Need.mk ?_ ?_);(first|omega|rfl|decide|(refine ⟨?_,?_⟩<;>simp<;>omega)|(simp;omega));conv=>whnf)|(exfalso;first|omega|contradiction)|fail)
  rfl
section
variable {y : Yd} {l : List Bt} {w : Rs}
end
end Go.Proofs.Tryz
end

section
namespace Go.Proofs.Tryz
open Go Go.Vm
set_option maxRecDepth 20000
set_option maxHeartbeats 8000000
theorem few_len {l : List Bt} {most lim : Nat} (h : fewB l most lim = true) : l.length ≤ lim + 5 := by
 unfold fewB at h
 rw [Bool.and_eq_true, Bool.not_eq_true'] at h
 have := h.1
 rw [Bool.or_eq_false_iff] at this
 simpa using this.2
end Go.Proofs.Tryz
end

section
namespace Go.Proofs.Tryz
open Go Go.Vm
set_option maxRecDepth 20000
set_option maxHeartbeats 8000000
theorem ev_DisposalShares (hA : Ev Tryz.prog 7 [] (.bool true)) (y : Yd) (l : List Bt) (x : List Al) : Ev Tryz.prog 5 [ydD y, .sl 5 (l.map btD), .sl 3 (x.map alD)] (.bool true) := by
 have h1 := ev_Small y
 have h1' := ev_few l 5 12 (by decide) (by decide)
 have hlx : (x.map alD).length = x.length := List.length_map _
 cases hs : smallB y with
 | false =>
  rw [hs] at h1
  refine ev_of_awp tysOk mixed (fn := Tryz.f5) Tryz.func5 rfl rfl rfl ?_
  conv => whnf
  repeat' (first|((with_reducible first|refine Split.of_true ?_|refine Split.of_false ?_);conv=>whnf)|(with_reducible refine Split.neg ?_)|((with_reducible refine AltK.l ?_);(conv=>whnf);(first|(refine CallK.mk _ (hA) ?_)|(refine CallK.mk _ (h1) ?_)|(refine CallK.mk _ (h1') ?_));conv=>whnf)|fail)
  rfl
 | true =>
 rw [hs] at h1
 have hB := smB hs
 cases hfw : fewB l 5 12 with
 | false =>
  rw [hfw] at h1'
  refine ev_of_awp tysOk mixed (fn := Tryz.f5) Tryz.func5 rfl rfl rfl ?_
  conv => whnf
  repeat' (first|((with_reducible first|refine Split.of_true ?_|refine Split.of_false ?_);conv=>whnf)|(with_reducible refine Split.neg ?_)|((with_reducible refine AltK.l ?_);(conv=>whnf);(first|(refine CallK.mk _ (hA) ?_)|(refine CallK.mk _ (h1) ?_)|(refine CallK.mk _ (h1') ?_));conv=>whnf)|fail)
  rfl
 | true =>
 rw [hfw] at h1'
 have h1'' := ev_long x
 cases hlg : longB x with
 | true =>
  rw [hlg] at h1''
  refine ev_of_awp tysOk mixed (fn := Tryz.f5) Tryz.func5 rfl rfl rfl ?_
  conv => whnf
  repeat' (first|((with_reducible refine Split.of_true ?_);conv=>whnf)|(with_reducible refine Split.neg ?_)|((with_reducible refine AltK.l ?_);(conv=>whnf);(first|(refine CallK.mk _ (hA) ?_)|(refine CallK.mk _ (h1) ?_)|(refine CallK.mk _ (h1') ?_)|(refine CallK.mk _ (h1'') ?_));conv=>whnf)|fail)
  rfl
 | false =>
 rw [hlg] at h1''
 have hx30 := longB_len hlg
 have hfl := few_len hfw
 have h2 := hB.copied
 have b1 := hB.b
 have b3 := hB.d
 have hll : (l.map btD).length = l.length := List.length_map _
 have h4 := ev_listed y l hB.sp (by omega) (by omega) (by omega)
 by_cases h0 : lstE y l = 0
 ·have hO := ls_ok h0
  rw [h0] at h4
  have h5 := ev_CheckShares hB.sp h0 x (by omega)
  have h6 := ev_Assigned9 hO (tk_ok hB.sp hO).cl x (by omega)
  rw [← asg_ra hO] at h6
  obtain ⟨fl, k, w, -, hf, hsh, -, h7⟩ := ev_AssignRun hB.sp h0
  cases hc : asgB (accF y l) (atI l) (pitI y) (volF y l) (roomF y) x with
  | false =>
   rw [hc] at h5 h6
   rw [if_neg (by decide)] at h5
   refine ev_of_awp tysOk mixed (fn := Tryz.f5) Tryz.func5 rfl rfl rfl ?_
   conv => whnf
   repeat' (first|((with_reducible first|refine Split.of_true ?_|refine Split.of_false ?_);conv=>whnf)|(with_reducible refine Split.neg ?_)|((with_reducible refine Split.is_false ?_ ?_);decide;conv=>whnf)|((with_reducible refine Need.mk ?_ ?_);(first|omega|rfl|decide|(refine ⟨?_,?_⟩<;>simp<;>omega)|(simp;omega));conv=>whnf)|((with_reducible refine AltK.l ?_);(conv=>whnf);(first|(refine CallK.mk _ (hA) ?_)|(refine CallK.mk _ (h1) ?_)|(refine CallK.mk _ (h1') ?_)|(refine CallK.mk _ (h1'') ?_)|(refine CallK.mk _ (h2) ?_)|(refine CallK.mk _ (h4) ?_)|(refine CallK.mk _ (h5) ?_)|(refine CallK.mk _ (h6) ?_));conv=>whnf)|fail)
   all_goals first
    | rfl
    |(simp [retOf]; done)
    |(exfalso; omega)
  | true =>
   have hd := chr_done hf hsh ((asg_chr9 hO x).1 hc)
   rw [hc] at h5 h6
   rw [if_pos rfl] at h5
   rw [hd, if_pos rfl, if_pos rfl, if_pos rfl] at h7
   generalize allF y l fl l.length = xs at *
   refine ev_of_awp tysOk mixed (fn := Tryz.f5) Tryz.func5 rfl rfl rfl ?_
   conv => whnf
   repeat' (first|((with_reducible first|refine Split.of_true ?_|refine Split.of_false ?_);conv=>whnf)|(with_reducible refine Split.neg ?_)|((with_reducible refine Split.is_true ?_ ?_);decide;conv=>whnf)|((with_reducible refine Split.is_false ?_ ?_);decide;conv=>whnf)|((with_reducible refine Need.mk ?_ ?_);(first|omega|rfl|decide|(refine ⟨?_,?_⟩<;>simp<;>omega)|(simp;omega));conv=>whnf)|((with_reducible refine AltK.l ?_);(conv=>whnf);(first|(refine CallK.mk _ (hA) ?_)|(refine CallK.mk _ (h1) ?_)|(refine CallK.mk _ (h1') ?_)|(refine CallK.mk _ (h1'') ?_)|(refine CallK.mk _ (h2) ?_)|(refine CallK.mk _ (h4) ?_)|(refine CallK.mk _ (h5) ?_)|(refine CallK.mk _ (h6) ?_)|(refine CallK.mk _ (h7) ?_));conv=>whnf)|fail)
   all_goals first
    | rfl
    |(simp [retOf]; done)
    |(exfalso; omega)
 ·have h5 := ev_CheckSharesNo (x := x) hB.sp (by omega) (by omega) h0
  generalize lstE y l = e at *
  refine ev_of_awp tysOk mixed (fn := Tryz.f5) Tryz.func5 rfl rfl rfl ?_
  conv => whnf
  repeat' (first|((with_reducible first|refine Split.of_true ?_|refine Split.of_false ?_);conv=>whnf)|(with_reducible refine Split.neg ?_)|((with_reducible refine Split.nez (fun _=>?_) (fun _=>?_))<;>conv=>whnf)|((with_reducible refine Need.mk ?_ ?_);(first|omega|rfl|decide|(refine ⟨?_,?_⟩<;>simp<;>omega)|(simp;omega));conv=>whnf)|((with_reducible refine AltK.l ?_);(conv=>whnf);(first|(refine CallK.mk _ (hA) ?_)|(refine CallK.mk _ (h1) ?_)|(refine CallK.mk _ (h1') ?_)|(refine CallK.mk _ (h1'') ?_)|(refine CallK.mk _ (h2) ?_)|(refine CallK.mk _ (h4) ?_)|(refine CallK.mk _ (h5) ?_));conv=>whnf)|(exfalso;first|omega|contradiction)|fail)
  all_goals first
   | rfl
   |(simp [retOf]; done)
   |(exfalso; omega)
end Go.Proofs.Tryz
end

section
namespace Go.Proofs.Tryz
open Go Go.Vm
theorem int_of {k : IntKind} {d : D} (h : Ty (.int k) d) : ∃ n, d = .int k n ∧ (Lit.int k n).wf = true := by cases h; exact ⟨_, rfl, by assumption⟩
theorem str_of {d : D} (h : Ty .str d) : ∃ s, d = .str s ∧ s.size ≤ 9223372036854775807 := by
 cases h with
 | str s h => exact ⟨_, rfl, h⟩
theorem sl_of {agg : Bool} {cs : List Cs} {d : D} (h : Ty (.sl agg cs) d) : ∃ es, d = .sl cs.length es ∧ (∀ e ∈ es, TyV (agg, cs) e) ∧ es.length ≤ 9223372036854775807 := by
 cases h with
 | sl hk hl h hn => exact ⟨_, rfl, fun e he => ⟨hk e he, hl e he, h e he⟩, hn⟩
theorem agg_of {cs : List Cs} {d : D} (h : TyV (true, cs) d) : ∃ ds, d = .agg ds ∧ ds.length = cs.length ∧ ∀ (j : Nat) c e, cs[j]? = some c → ds[j]? = some e → Ty c e := by
 obtain ⟨ds, rfl⟩ := h.1.1 rfl
 exact ⟨ds, rfl, h.2.1, h.2.2⟩
theorem one_of {c : Cs} {d : D} (h : TyV (false, [c]) d) : Ty c d := by
 have h1 := h.1.2 rfl
 have := h.2.2 0 c d rfl
 rw [(one_cells h1).1] at this
 exact this rfl
theorem map_of {α : Type} {f : α → D} {Q : D → Prop} (hf : ∀ d, Q d → ∃ a, d = f a) : ∀ {es : List D}, (∀ e ∈ es, Q e) → ∃ l : List α, es = l.map f
 | [], _ => ⟨[], rfl⟩
 | e :: es, h => by
  obtain ⟨a, rfl⟩ := hf e (h e (List.mem_cons_self ..))
  obtain ⟨l, rfl⟩ := map_of hf (fun e he => h e (List.mem_cons_of_mem _ he))
  exact ⟨a :: l, rfl⟩
end Go.Proofs.Tryz
end

section
namespace Go.Proofs.Tryz
open Go Go.Vm
def cPit : List Cs := [.str, .int .i64, .int .i64, .int .i64, .sl false [.int .i64], .int .i64]
def cBulk : List Cs := [.str, .int .i64, .int .i64]
def cDep : List Cs := [.int .i64, .str, .int .i64]
def cYard : List Cs := [.sl true cPit, .sl true cBulk, .sl true cDep, .sl false [.int .i64]]
def cBat : List Cs := [.int .i64, .int .i64, .int .i64, .str, .int .i64]
theorem ints_of9 {d : D} (h : Ty (.sl false [.int .i64]) d) : ∃ l : List Int, d = .sl 1 (l.map iD) := by
 obtain ⟨es, rfl, he, -⟩ := sl_of h
 obtain ⟨l, rfl⟩ := map_of (f := iD) (fun d hd => by
  obtain ⟨n, rfl, -⟩ := int_of (one_of hd)
  exact ⟨n, rfl⟩) he
 exact ⟨l, rfl⟩
theorem pit_of {d : D} (h : TyV (true, cPit) d) : ∃ p, d = ptD p := by
 obtain ⟨ds, rfl, hl, hc⟩ := agg_of h
 match ds, hl with
 | [a, b, c, e, f, g], _ =>
  obtain ⟨s, rfl, -⟩ := str_of (hc 0 _ a rfl rfl)
  obtain ⟨x1, rfl, -⟩ := int_of (hc 1 _ b rfl rfl)
  obtain ⟨x2, rfl, -⟩ := int_of (hc 2 _ c rfl rfl)
  obtain ⟨x3, rfl, -⟩ := int_of (hc 3 _ e rfl rfl)
  obtain ⟨l, rfl⟩ := ints_of9 (hc 4 _ f rfl rfl)
  obtain ⟨x5, rfl, -⟩ := int_of (hc 5 _ g rfl rfl)
  exact ⟨⟨s, x1, x2, x3, l, x5⟩, rfl⟩
theorem bulk_of {d : D} (h : TyV (true, cBulk) d) : ∃ p, d = bkD p := by
 obtain ⟨ds, rfl, hl, hc⟩ := agg_of h
 match ds, hl with
 | [a, b, c], _ =>
  obtain ⟨s, rfl, -⟩ := str_of (hc 0 _ a rfl rfl)
  obtain ⟨x1, rfl, -⟩ := int_of (hc 1 _ b rfl rfl)
  obtain ⟨x2, rfl, -⟩ := int_of (hc 2 _ c rfl rfl)
  exact ⟨⟨s, x1, x2⟩, rfl⟩
theorem dep_of {d : D} (h : TyV (true, cDep) d) : ∃ p, d = dpD p := by
 obtain ⟨ds, rfl, hl, hc⟩ := agg_of h
 match ds, hl with
 | [a, b, c], _ =>
  obtain ⟨x1, rfl, -⟩ := int_of (hc 0 _ a rfl rfl)
  obtain ⟨s, rfl, -⟩ := str_of (hc 1 _ b rfl rfl)
  obtain ⟨x2, rfl, -⟩ := int_of (hc 2 _ c rfl rfl)
  exact ⟨⟨x1, s, x2⟩, rfl⟩
theorem bat_of {d : D} (h : TyV (true, cBat) d) : ∃ p, d = btD p := by
 obtain ⟨ds, rfl, hl, hc⟩ := agg_of h
 match ds, hl with
 | [a, b, c, e, f], _ =>
  obtain ⟨x0, rfl, -⟩ := int_of (hc 0 _ a rfl rfl)
  obtain ⟨x1, rfl, -⟩ := int_of (hc 1 _ b rfl rfl)
  obtain ⟨x2, rfl, -⟩ := int_of (hc 2 _ c rfl rfl)
  obtain ⟨s, rfl, -⟩ := str_of (hc 3 _ e rfl rfl)
  obtain ⟨x4, rfl, -⟩ := int_of (hc 4 _ f rfl rfl)
  exact ⟨⟨x0, x1, x2, s, x4⟩, rfl⟩
theorem bats_of {d : D} (h : Ty (.sl true cBat) d) : ∃ l : List Bt, d = .sl 5 (l.map btD) := by
 obtain ⟨es, rfl, he, -⟩ := sl_of h
 obtain ⟨l, rfl⟩ := map_of (fun d hd => bat_of hd) he
 exact ⟨l, rfl⟩
theorem yard_of {d : D} (h : TyV (true, cYard) d) : ∃ y, d = ydD y := by
 obtain ⟨ds, rfl, hl, hc⟩ := agg_of h
 match ds, hl with
 | [a, b, c, e], _ =>
  obtain ⟨es, rfl, he, -⟩ := sl_of (hc 0 _ a rfl rfl)
  obtain ⟨l0, rfl⟩ := map_of (fun d hd => pit_of hd) he
  obtain ⟨es, rfl, he, -⟩ := sl_of (hc 1 _ b rfl rfl)
  obtain ⟨l1, rfl⟩ := map_of (fun d hd => bulk_of hd) he
  obtain ⟨es, rfl, he, -⟩ := sl_of (hc 2 _ c rfl rfl)
  obtain ⟨l2, rfl⟩ := map_of (fun d hd => dep_of hd) he
  obtain ⟨l3, rfl⟩ := ints_of9 (hc 3 _ e rfl rfl)
  exact ⟨⟨l0, l1, l2, l3⟩, rfl⟩
end Go.Proofs.Tryz
end

section
namespace Go.Proofs.Tryz
open Go Go.Vm
def cAl : List Cs := [.int .i64, .str, .int .i64]
theorem al_of {d : D} (h : TyV (true, cAl) d) : ∃ p, d = alD p := by
 obtain ⟨ds, rfl, hl, hc⟩ := agg_of h
 match ds, hl with
 | [a, b, c], _ =>
  obtain ⟨x1, rfl, -⟩ := int_of (hc 0 _ a rfl rfl)
  obtain ⟨s, rfl, -⟩ := str_of (hc 1 _ b rfl rfl)
  obtain ⟨x2, rfl, -⟩ := int_of (hc 2 _ c rfl rfl)
  exact ⟨⟨x1, s, x2⟩, rfl⟩
theorem als_of {d : D} (h : Ty (.sl true cAl) d) : ∃ l : List Al, d = .sl 3 (l.map alD) := by
 obtain ⟨es, rfl, he, -⟩ := sl_of h
 obtain ⟨l, rfl⟩ := map_of (fun d hd => al_of hd) he
 exact ⟨l, rfl⟩
theorem ev_DisposalShares' (y : Yd) (l : List Bt) (x : List Al) : Ev Tryz.prog 5 [ydD y, .sl 5 (l.map btD), .sl 3 (x.map alD)] (.bool true) := ev_DisposalShares ev_awake9 y l x
end Go.Proofs.Tryz
end
