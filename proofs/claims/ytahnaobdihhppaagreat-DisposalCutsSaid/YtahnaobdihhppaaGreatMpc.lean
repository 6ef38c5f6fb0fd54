/- Texts DsE DsD DrJ DqH DsF TwZ DqZ DsP, joined; what is not needed is left out. -/
import Derived.Test.YtahnaobdihhppaaGreatMgI
import Derived.Test.YtahnaobdihhppaaGreatProg
import Derived.Shelf.Lays
import Derived.Test.YtahnaobdihhppaaGreatMgH
import Derived.Test.YtahnaobdihhppaaGreatMgJ
import Derived.Test.YtahnaobdihhppaaGreatMpb
section
namespace Go.Proofs.Tryz
open Go Go.Vm
set_option maxRecDepth 20000
set_option maxHeartbeats 8000000
theorem sortZ_pm {l m : List Int} (h : l.Perm m) : sortZ l = sortZ m := by
 have hs : ∀ l : List Int, (sortZ l).Pairwise fun a b => a ≤ b := fun l => by
  have := List.pairwise_mergeSort (le := fun x y : Int => decide (x ≤ y)) (fun a b c h1 h2 => by simp only [decide_eq_true_eq] at *; omega) (fun a b => by simp; omega) l
  exact this.imp fun h => by simpa using h
 exact List.Perm.eq_of_pairwise (fun a b _ _ h1 h2 => by omega) (hs l) (hs m) ((List.mergeSort_perm l _).trans (h.trans (List.mergeSort_perm m _).symm))
theorem xv_SortI (l : List Int) (hl : l.length ≤ 500) : EvX Tryz.prog 53 [.own 1000 1 (l.map iD).length] [(1000, .row 3 1 (l.map iD) false)] (.tup []) [(1000, .row 3 1 ((sortZ l).map iD) false)] := by
 have h := EvX.sortInts ly_LyI 3 l (by omega) 1000
 rw [List.length_map]
 exact h
def cutS (l : List Bt) (w : Rs) (seen : List Nat) : List Int := seen.reverse.map fun j => numF l (w.bs.getD j (0, 0)).1
def cutN (l : List Bt) (w : Rs) : List Int := w.bs.map fun e => numF l e.1
theorem cutS_all {l : List Bt} {w : Rs} {seen : List Nat} (h1 : seen.Nodup) (h2 : ∀ j ∈ seen, j < w.bs.length) (h3 : ∀ j, j < w.bs.length → j ∈ seen) : (cutS l w seen).Perm (cutN l w) := by
 have hp : seen.reverse.Perm (List.range w.bs.length) := (List.reverse_perm seen).trans ((List.perm_ext_iff_of_nodup h1 List.nodup_range).2 fun j => ⟨fun h => List.mem_range.2 (h2 j h), fun h => h3 j (List.mem_range.1 h)⟩)
 have e : cutN l w = (List.range w.bs.length).map fun j => numF l (w.bs.getD j (0, 0)).1 := by
  apply List.ext_getElem
  ·simp [cutN]
  ·intro i h4 h5
   have : i < w.bs.length := by simpa [cutN] using h4
   simp [cutN, List.getD_eq_getElem?_getD, List.getElem?_eq_getElem this]
 rw [e]
 exact hp.map _
theorem nodup_lt : ∀ (n : Nat) (l : List Nat), l.Nodup → (∀ x ∈ l, x < n) → l.length ≤ n := fun _ _ h1 h2 => nodup_le h1 h2
theorem ev_AssignOk {y : Yd} {l : List Bt} (hs : smallP y) (h0 : lstE y l = 0) {n k : Nat} {fl : List (List Int)} (hn : n ≤ 1000)
 (hf : fillsF (accF y l) y.pits.length l.length n k (volF y l) (roomF y) (sortGo (priceF y) [] (List.range y.pits.length)) (flow0 y l) = some fl) (hd : doneF l.length (volF y l) fl = true) :
 Ev Tryz.prog 21 [ydD y, .sl 5 (l.map btD)] (.tup [.sl 3 ((allF y l fl l.length).map alD), .sl 1 [], iD 0]) := by
 have hO := ls_ok h0
 have hy := yd_ok hO.yd
 have hT := tk_ok hs hO
 have hSm : ∀ z ∈ sortGo (priceF y) [] (List.range y.pits.length), z < y.pits.length := fun z hz => by
  rcases sortGo_mem.1 hz with h | h
  ·simp at h
  ·exact List.mem_range.1 h
 have hT2 := fills_ok hn hSm hT hf
 have hlen := hO.len
 have hB := (xv_begin hs (by omega) h0).rn [(9, 14), (2009, 2014), (4009, 4014), (6009, 6014)] rfl
 have hS := xv_solve hT hn hf
 rw [tkX_eq hT.hf, tkX_eq hT2.hf, hd] at hS
 have hA := xv_allots hT2
 rw [tkX_eq hT2.hf] at hA
 unfold tkL at hS hA
 generalize allF y l fl l.length = xs at *
 have hS := hS.rn [(1000, 14), (1001, 2014), (1002, 4014), (1003, 6014)] rfl
 have hA := hA.rn [(1000, 14), (1001, 2014), (1002, 4014), (1003, 6014), (9, 23)] rfl
 refine ev_of_awp tysOk mixed (fn := Tryz.f21) Tryz.func21 rfl rfl rfl ?_
 conv => whnf
 repeat' (first|((with_reducible refine Split.of_true ?_);conv=>whnf)|((with_reducible refine Split.is_false ?_ ?_);decide;conv=>whnf)|((with_reducible refine AltK.r ?_);(conv=>whnf);(first|(refine CallX.mk _ _ (hB) rfl ?_)|(refine CallX.mk _ _ (hS) rfl ?_)|(refine CallX.mk _ _ (hA) rfl ?_));conv=>whnf)|fail)
 all_goals first
  | rfl
  |(exfalso; omega)
theorem ev_AssignFull {y : Yd} {l : List Bt} (hs : smallP y) (h0 : lstE y l = 0) {n k m : Nat} {fl : List (List Int)} (hn : n ≤ 1000)
 (hf : fillsF (accF y l) y.pits.length l.length n k (volF y l) (roomF y) (sortGo (priceF y) [] (List.range y.pits.length)) (flow0 y l) = some fl) (hd : doneF l.length (volF y l) fl = false)
 {w : Rs} (hw : reachF (accF y l) y.pits.length l.length m (volF y l) fl = some w) (hm : m ≤ 1000) (hwl : ∀ e ∈ w.bs, e.1 < l.length) (hwn : w.bs.length ≤ 12) :
 Ev Tryz.prog 21 [ydD y, .sl 5 (l.map btD)] (.tup [.sl 3 [], .sl 1 ((sortZ (cutN l w)).map iD), iD 19]) := by
 have hO := ls_ok h0
 have hT := tk_ok hs hO
 have hSm : ∀ z ∈ sortGo (priceF y) [] (List.range y.pits.length), z < y.pits.length := fun z hz => by
  rcases sortGo_mem.1 hz with h | h
  ·simp at h
  ·exact List.mem_range.1 h
 have hT2 := fills_ok hn hSm hT hf
 have hlen := hO.len
 have hll : (l.map btD).length = l.length := List.length_map _
 have hB := (xv_begin hs (by omega) h0).rn [(9, 14), (2009, 2014), (4009, 4014), (6009, 6014)] rfl
 have hS := xv_solve hT hn hf
 rw [tkX_eq hT.hf, tkX_eq hT2.hf, hd] at hS
 have hR := xv_reached hT2 hw hm
 rw [tkX_eq hT2.hf] at hR
 unfold tkL at hS hR
 have hS := hS.rn [(1000, 14), (1001, 2014), (1002, 4014), (1003, 6014)] rfl
 have hR := hR.rn [(1000, 14), (1001, 2014), (1002, 4014), (1003, 6014), (9, 25), (2009, 2025)] rfl
 have hml : (mapD w.bs).length = w.bs.length := List.length_map _
 refine ev_of_awp tysOk mixed (fn := Tryz.f21) Tryz.func21 rfl rfl rfl ?_
 conv => whnf
 repeat' (first|((with_reducible refine Split.of_false ?_);conv=>whnf)|((with_reducible refine Split.is_false ?_ ?_);decide;conv=>whnf)|((with_reducible refine AltK.r ?_);(conv=>whnf);(first|(refine CallX.mk _ _ (hB) rfl ?_)|(refine CallX.mk _ _ (hS) rfl ?_)|(refine CallX.mk _ _ (hR) rfl ?_));conv=>whnf)|fail)
 all_goals first
  |(exfalso; omega)
  | skip
 refine LoopK.o3 (fun seen : List Nat => seen.Nodup ∧ ∀ j ∈ seen, j < w.bs.length)
  (fun seen => [(9, .own 200 1 ((cutS l w seen).map iD).length)]) (fun seen => [(200, .row 3 1 ((cutS l w seen).map iD) false), (27, .iter (some 25) (mapD w.bs).length seen)]) (fun seen => w.bs.length - seen.length) [] ⟨.nil, fun j hj => (by cases hj)⟩ (by refine ⟨?_, ?_, rfl⟩<;>(repeat' (first|exact True.intro|exact rfl|(refine ⟨?_,?_⟩)|(intro h;cases h;done)|fail));done) ?_
 rintro seen ⟨s1, s2⟩
 dsimp only at s1 s2 ⊢
 have s3 := nodup_lt _ _ s1 s2
 have hcl : ((cutS l w seen).map iD).length = seen.length := by simp [cutS]
 have hcl3 : (cutS l w seen).length = seen.length := by simp [cutS]
 conv => whnf
 repeat' (first|((with_reducible refine Need.mk ?_ ?_);(first|omega|rfl|decide|(refine ⟨?_,?_⟩<;>simp<;>omega)|(simp;omega));conv=>whnf)|fail)
 refine NextK.mk (fun j p hjp hjs => ?_) (fun hall => ?_)
 ·conv => whnf
  have hjl : j < w.bs.length := by rw [← hml]; exact lt_of_some hjp
  obtain ⟨e, he⟩ := some_of_lt hjl
  have hp : p = (iD (e.1 : Int), iD e.2) := by
   rw [mapD, List.getElem?_map, he] at hjp
   exact (Option.some.inj hjp).symm
  subst hp
  have hel := hwl e (List.mem_of_getElem? he)
  obtain ⟨b, hb⟩ := some_of_lt hel
  have hmp1 : (cutS l w seen).map iD ++ iD b.n :: List.replicate 0 (D.int .i64 0) = (cutS l w (j :: seen)).map iD := by
   simp [cutS, numF, List.getD_eq_getElem?_getD, he, hb]
  have hcl2 : ((cutS l w (j :: seen)).map iD).length = seen.length + 1 := by simp [cutS]
  conv => whnf
  repeat' (first|((refine PickE.map e.1 hb (by omega) ?_);conv=>whnf)|((refine PickE.map j hjp rfl ?_);conv=>whnf)|((with_reducible refine Split.of_true ?_);conv=>whnf)|((with_reducible refine Need.mk ?_ ?_);(first|omega|rfl|decide|(refine ⟨?_,?_⟩<;>simp<;>omega)|(simp;omega));conv=>whnf)|fail)
  refine Again.av (j :: seen) ⟨List.nodup_cons.2 ⟨hjs, s1⟩, fun x hx => ?_⟩ ?_ (by refine ⟨?_, ?_, rfl⟩<;>(repeat' (first|exact True.intro|exact rfl|(refine ⟨?_,?_⟩)|(intro h;cases h;done)|exact hmp1|((first|refine own_congr ?_|refine int_congr ?_|skip);simp [cutS];done)|fail));done)
  ·rcases List.mem_cons.1 hx with rfl | hx
   ·exact hjl
   ·exact s2 x hx
  ·have := nodup_lt _ _ (List.nodup_cons.2 ⟨hjs, s1⟩) (fun x hx => by
    rcases List.mem_cons.1 hx with rfl | hx
    ·exact hjl
    ·exact s2 x hx)
   rw [List.length_cons] at this ⊢
   omega
 ·conv => whnf
  have hpm := sortZ_pm (cutS_all (l := l) s1 s2 fun j hj => hall j (by rw [hml]; exact hj))
  have hQ := (xv_SortI (cutS l w seen) (by rw [← List.length_map (f := iD), hcl]; omega)).rn [(1000, 200)] rfl
  rw [hpm] at hQ
  conv => whnf
  repeat' (first|((with_reducible refine Split.of_false ?_);conv=>whnf)|((with_reducible refine AltK.r ?_);(conv=>whnf);(first|(refine CallX.mk _ _ (hQ) rfl ?_));conv=>whnf)|fail)
  all_goals first
   | rfl
   |(exfalso; omega)
theorem ev_AssignRun {y : Yd} {l : List Bt} (hs : smallP y) (h0 : lstE y l = 0) : ∃ fl k w, fillsF (accF y l) y.pits.length l.length 20 k (volF y l) (roomF y) (ordF y) (flow0 y l) = some fl ∧ FlOk (accF y l) y.pits.length l.length (volF y l) (roomF y) fl ∧
 (∀ p, p < y.pits.length → Shut (accF y l) y.pits.length l.length (volF y l) (roomF y) fl p) ∧
 (doneF l.length (volF y l) fl = false → RsI (accF y l) y.pits.length l.length (volF y l) fl w ∧ haveS (accF y l) y.pits.length l.length (roomF y) (hasN w.bs) < needS l.length (volF y l) (hasN w.bs)) ∧
 Ev Tryz.prog 21 [ydD y, .sl 5 (l.map btD)] (.tup [.sl 3 (if doneF l.length (volF y l) fl = true then (allF y l fl l.length).map alD else []), .sl 1 (if doneF l.length (volF y l) fl = true then [] else (sortZ (cutN l w)).map iD), iD (if doneF l.length (volF y l) fl = true then 0 else 19)]) := by
 have hO := ls_ok h0
 have hlen := hO.len
 obtain ⟨fl, k, hk, hf, hsh⟩ := solve_run hO
 cases hd : doneF l.length (volF y l) fl with
 | true =>
  refine ⟨fl, k, ⟨[], [], []⟩, hk, hf, hsh, fun h => absurd (hd.symm.trans h) (by decide), ?_⟩
  rw [hd, if_pos rfl, if_pos rfl, if_pos rfl]
  exact ev_AssignOk hs h0 (by decide) hk hd
 | false =>
  obtain ⟨w, hw, hI, hcut⟩ := is_cut hf hsh hd (show l.length ≤ 20 by omega)
  refine ⟨fl, k, w, hk, hf, hsh, fun _ => ⟨hI, hcut⟩, ?_⟩
  rw [hd, if_neg (by decide), if_neg (by decide), if_neg (by decide)]
  exact ev_AssignFull hs h0 (by decide) hk hd hw (by decide) hI.bl (by have := hI.len; omega)
end Go.Proofs.Tryz
end

section
namespace Go.Proofs.Tryz
open Go Go.Vm
set_option maxRecDepth 20000
set_option maxHeartbeats 8000000
theorem rcGo_at {vol : List Int} {ix : Int → Int} {cut : List Int} {i : Nat} {n : Int} {need : Int} (h : cut[i]? = some n) : rcGo vol ix (cut.take i) need (cut.drop i) =
 if ix n < 0 then none else if (cut.take i).any (fun c => c == n) = true then none else rcGo vol ix (cut.take (i + 1)) (need + vol.getD (ix n).toNat 0) (cut.drop (i + 1)) := by
 rw [drop_of h, rcGo, take_snoc h]
theorem any_take9 {α : Type} {p : α → Bool} {l : List α} {j : Nat} {x : α} (h : l[j]? = some x) : (l.take (j + 1)).any p = ((l.take j).any p || p x) := by
 rw [take_snoc h]; simp
theorem ev_Cuts9 {y : Yd} {l : List Bt} {cut : List Int} (hO : LsOk y l) (hc : cut.length ≤ 30) (hcl : ∀ p ∈ y.pits, p.cls.length ≤ 1000000) :
 Ev Tryz.prog 20 [ydD y, .sl 5 (l.map btD), .sl 1 (cut.map iD)] (.bool (rcB (accF y l) y.pits.length (volF y l) (roomF y) (atI l) cut)) := by
 have hy := yd_ok hO.yd
 have hlen := hO.len
 have hP8 := hy.pits
 have hb20 := hy.bulk
 have hlc : (cut.map iD).length = cut.length := List.length_map _
 have hlp : (y.pits.map ptD).length = y.pits.length := List.length_map _
 have hll : (l.map btD).length = l.length := List.length_map _
 have hrb := room_bd hy
 have hvb := vol_bd hO
 have hV := ev_Volumes y l y.carry (by omega) (by omega) hO.wok ⟨hy.carL, hy.car⟩
 have hvl : (volF y l).length = l.length := (volsGo_spec hO.wok ⟨hy.carL, hy.car⟩).1
 have hro : ∀ p, (h : p < y.pits.length) → Ev Tryz.prog 43 [ydD y, iD p] (iD ((roomF y).getD p 0)) := fun p h => by
  obtain ⟨q, hq⟩ := some_of_lt h
  have h1 := ev_Room9 y hq (hy.pit q (List.mem_of_getElem? hq)).1 hy.vol (by have := hy.deps; omega)
  have e : (roomF y).getD p 0 = roomS y q := by rw [roomF, List.getD, List.getElem?_map, hq]; rfl
  rw [e]; exact h1
 rw [show volsGo y y.carry l = volF y l from rfl] at hV
 generalize volF y l = vol at *
 generalize roomF y = room at *
 have hvm : (vol.map iD).length = vol.length := List.length_map _
 have hres : ∀ r, rcGo vol (atI l) [] 0 cut = r → rcB (accF y l) y.pits.length vol room (atI l) cut = match r with
  | none => false
  | some need => decide (sumN y.pits.length (fun p => if opnC (accF y l) (atI l) cut p = true then room.getD p 0 else 0) < need) := fun r hr => by subst hr; rfl
 generalize rcB (accF y l) y.pits.length vol room (atI l) cut = res at *
 refine ev_of_awp tysOk mixed (fn := Tryz.f20) Tryz.func20 rfl rfl rfl ?_
 conv => whnf
 repeat' (first|((with_reducible refine AltK.l ?_);(conv=>whnf);(first|(refine CallK.mk _ (hV) ?_));conv=>whnf)|fail)
 refine LoopK.o2 (fun z : Nat × Int => z.1 ≤ cut.length ∧ rcGo vol (atI l) [] 0 cut = rcGo vol (atI l) (cut.take z.1) z.2 (cut.drop z.1) ∧ 0 ≤ z.2 ∧ z.2 ≤ z.1 * 10000000000001000)
  (fun z => [(10, .d (iD z.1)), (8, .d (iD z.2))]) (fun _ => []) (fun z => cut.length - z.1) (0, 0) ⟨by omega, rfl, by decide, by decide⟩ (by refine ⟨?_, ?_, rfl⟩<;>(repeat' (first|exact True.intro|exact rfl|(refine ⟨?_,?_⟩)|(intro h;cases h;done)|fail));done) ?_
 rintro ⟨i, need⟩ ⟨hi, hgo, n1, n2⟩
 dsimp only at hi hgo n1 n2 ⊢
 by_cases hil : i < cut.length
 ·obtain ⟨n, hn⟩ := some_of_lt hil
  rw [rcGo_at hn] at hgo
  have l1 : atI l n < l.length := ix_lt
  have w1 := ev_At9 l n (by omega)
  by_cases hc0 : atI l n < 0
  ·rw [if_pos hc0] at hgo
   rw [hres _ hgo]
   clear hgo hres
   generalize atI l n = bi at *
   conv => whnf
   repeat' (first|((refine PickE.map i hn (by omega) ?_);conv=>whnf)|((with_reducible refine Split.dec (fun _=>?_) (fun _=>?_))<;>conv=>whnf)|((with_reducible refine Need.mk ?_ ?_);(first|omega|rfl|decide|(refine ⟨?_,?_⟩<;>simp<;>omega)|(simp;omega));conv=>whnf)|((with_reducible refine AltK.l ?_);(conv=>whnf);(first|(refine CallK.mk _ (w1) ?_));conv=>whnf)|(exfalso;first|omega|contradiction)|fail)
   all_goals first
    | rfl
    |(exfalso; omega)
  ·rw [if_neg hc0] at hgo
   obtain ⟨k, hk⟩ : ∃ k : Nat, atI l n = k := ⟨(atI l n).toNat, by omega⟩
   rw [hk] at w1 hgo hc0 l1
   rw [Int.toNat_natCast] at hgo
   obtain ⟨v, hv⟩ := some_of_lt (show k < vol.length by omega)
   have hvk := hvb k
   have hvd : vol.getD k 0 = v := by rw [List.getD, hv]; rfl
   rw [hvd] at hgo hvk
   clear hk
   conv => whnf
   repeat' (first|((refine PickE.map i hn (by omega) ?_);conv=>whnf)|((with_reducible refine Split.dec (fun _=>?_) (fun _=>?_))<;>conv=>whnf)|((with_reducible refine Need.mk ?_ ?_);(first|omega|rfl|decide|(refine ⟨?_,?_⟩<;>simp<;>omega)|(simp;omega));conv=>whnf)|((with_reducible refine AltK.l ?_);(conv=>whnf);(first|(refine CallK.mk _ (w1) ?_));conv=>whnf)|(exfalso;first|omega|contradiction)|fail)
   refine LoopK.o2 (fun j : Nat => j ≤ i ∧ ∀ c ∈ cut.take j, (c == n) = false) (fun j => [(12, .d (iD j))]) (fun _ => []) (fun j => i - j) 0 ⟨by omega, by simp⟩ (by refine ⟨?_, ?_, rfl⟩<;>(repeat' (first|exact True.intro|exact rfl|(refine ⟨?_,?_⟩)|(intro h;cases h;done)|fail));done) ?_
   rintro j ⟨hj, hjn⟩
   by_cases hji : j < i
   ·obtain ⟨c, hcj⟩ := some_of_lt (show j < cut.length by omega)
    by_cases hcn : c = n
    ·have hany : (cut.take i).any (fun c => c == n) = true := List.any_eq_true.2 ⟨c, List.mem_take_iff_getElem.2 ⟨j, by omega, (List.getElem?_eq_some_iff.1 hcj).2⟩, by rw [hcn]; simp⟩
     rw [if_pos hany] at hgo
     rw [hres _ hgo]
     clear hgo hres
     conv => whnf
     repeat' (first|((refine PickE.map i hn (by omega) ?_);conv=>whnf)|((refine PickE.map j hcj (by omega) ?_);conv=>whnf)|((with_reducible refine Split.eqz (fun _=>?_) (fun _=>?_))<;>conv=>whnf)|((with_reducible refine Split.dec (fun _=>?_) (fun _=>?_))<;>conv=>whnf)|((with_reducible refine Need.mk ?_ ?_);(first|omega|rfl|decide|(refine ⟨?_,?_⟩<;>simp<;>omega)|(simp;omega));conv=>whnf)|((with_reducible refine Wr.inr ?_ ?_);(first|omega|(simp;omega));conv=>whnf)|(exfalso;first|omega|contradiction)|fail)
     all_goals first
      | rfl
      |(exfalso; omega)
    ·conv => whnf
     repeat' (first|((refine PickE.map i hn (by omega) ?_);conv=>whnf)|((refine PickE.map j hcj (by omega) ?_);conv=>whnf)|((with_reducible refine Split.eqz (fun _=>?_) (fun _=>?_))<;>conv=>whnf)|((with_reducible refine Split.dec (fun _=>?_) (fun _=>?_))<;>conv=>whnf)|((with_reducible refine Need.mk ?_ ?_);(first|omega|rfl|decide|(refine ⟨?_,?_⟩<;>simp<;>omega)|(simp;omega));conv=>whnf)|((with_reducible refine Wr.inr ?_ ?_);(first|omega|(simp;omega));conv=>whnf)|(exfalso;first|omega|contradiction)|fail)
     all_goals first
      |(exfalso; omega)
      | skip
     refine Again.au (j + 1) ⟨by omega, fun z hz => ?_⟩ (by omega) (by refine ⟨?_, ?_, rfl⟩<;>(repeat' (first|exact True.intro|exact rfl|(refine ⟨?_,?_⟩)|(intro h;cases h;done)|fail));done)
     rw [take_snoc hcj] at hz
     rcases List.mem_append.1 hz with hz | hz
     ·exact hjn z hz
     ·rw [List.mem_singleton.1 hz]; simpa using hcn
   ·have hje : j = i := by omega
    subst hje
    have hany : ¬ (cut.take j).any (fun c => c == n) = true := by
     rw [Bool.not_eq_true, List.any_eq_false]
     intro c hc
     rw [hjn c hc]; decide
    rw [if_neg hany] at hgo
    conv => whnf
    repeat' (first|((refine PickE.map k hv (by omega) ?_);conv=>whnf)|((with_reducible refine Split.dec (fun _=>?_) (fun _=>?_))<;>conv=>whnf)|((with_reducible refine Need.mk ?_ ?_);(first|omega|rfl|decide|(refine ⟨?_,?_⟩<;>simp<;>omega)|(simp;omega));conv=>whnf)|((with_reducible refine Wr.inr ?_ ?_);(first|omega|(simp;omega));conv=>whnf)|(exfalso;first|omega|contradiction)|fail)
    exact Again.au (j + 1, need + v) ⟨by dsimp only;omega, hgo, by dsimp only;omega, by dsimp only;omega⟩ (by dsimp only;omega) (by refine ⟨?_, ?_, rfl⟩<;>(repeat' (first|exact True.intro|exact rfl|(refine ⟨?_,?_⟩)|(intro h;cases h;done)|fail));done)
 ·rw [List.drop_eq_nil_of_le (show cut.length ≤ i by omega), rcGo] at hgo
  have hnn := rcGo_nn hgo
  rw [hres _ hgo]
  clear hgo hres
  dsimp only
  conv => whnf
  repeat' (first|((with_reducible refine Split.dec (fun _=>?_) (fun _=>?_))<;>conv=>whnf)|((with_reducible refine Need.mk ?_ ?_);(first|omega|rfl|decide|(refine ⟨?_,?_⟩<;>simp<;>omega)|(simp;omega));conv=>whnf)|(exfalso;first|omega|contradiction)|fail)
  refine LoopK.o2 (fun p : Nat => p ≤ y.pits.length) (fun p => [(13, .d (iD p)), (9, .d (iD (sumN p fun p => if opnC (accF y l) (atI l) cut p = true then room.getD p 0 else 0)))]) (fun _ => []) (fun p => y.pits.length - p) 0 (by omega) (by refine ⟨?_, ?_, rfl⟩<;>(repeat' (first|exact True.intro|exact rfl|(refine ⟨?_,?_⟩)|(intro h;cases h;done)|fail));done) ?_
  rintro p hp
  dsimp only at hp ⊢
  have hs1 : 0 ≤ sumN p (fun p => if opnC (accF y l) (atI l) cut p = true then room.getD p 0 else 0) := sumN_nn fun q _ => by
   have := hrb q
   split <;> omega
  have hs2 := sumN_bd (n := p) (f := fun p => if opnC (accF y l) (atI l) cut p = true then room.getD p 0 else 0) (M := 40000000000000) fun q _ => by
   have := hrb q
   split <;> omega
  by_cases hpl : p < y.pits.length
  ·obtain ⟨q, hq⟩ := some_of_lt hpl
   have hst : sumN (p + 1) (fun p => if opnC (accF y l) (atI l) cut p = true then room.getD p 0 else 0) = sumN p (fun p => if opnC (accF y l) (atI l) cut p = true then room.getD p 0 else 0) + if opnC (accF y l) (atI l) cut p = true then room.getD p 0 else 0 := rfl
   generalize sumN p (fun p => if opnC (accF y l) (atI l) cut p = true then room.getD p 0 else 0) = sm at *
   have hrp := hrb p
   have w5 := hro p hpl
   generalize room.getD p 0 = rp at *
   conv => whnf
   repeat' (first|((with_reducible refine Split.dec (fun _=>?_) (fun _=>?_))<;>conv=>whnf)|(exfalso;first|omega|contradiction)|fail)
   refine LoopK.o2 (fun j : Nat => j ≤ cut.length) (fun j => [(15, .d (iD j)), (14, .d (.bool ((cut.take j).any fun n => accF y l p (atI l n).toNat)))]) (fun _ => []) (fun j => cut.length - j) 0 (by omega) (by refine ⟨?_, ?_, rfl⟩<;>(repeat' (first|exact True.intro|exact rfl|(refine ⟨?_,?_⟩)|(intro h;cases h;done)|fail));done) ?_
   rintro j hj
   dsimp only at hj ⊢
   by_cases hjl : j < cut.length
   ·obtain ⟨n, hn⟩ := some_of_lt hjl
    have hn0 := hnn n (List.mem_of_getElem? hn)
    have l1 : atI l n < l.length := ix_lt
    have w1 := ev_At9 l n (by omega)
    have hst2 := any_take9 (p := fun n => accF y l p (atI l n).toNat) hn
    obtain ⟨k, hk⟩ : ∃ k : Nat, atI l n = k := ⟨(atI l n).toNat, by omega⟩
    simp only [hk, Int.toNat_natCast] at hst2
    rw [hk] at w1 l1
    obtain ⟨b, hb⟩ := some_of_lt (show k < l.length by omega)
    have w2 := ev_Accepts9 q b.cls (hcl q (List.mem_of_getElem? hq))
    have eA : accF y l p k = accB q b.cls := by rw [accF, hq, hb]
    rw [eA] at hst2
    cases hop : (cut.take j).any fun n => accF y l p (atI l n).toNat with
    | true =>
     rw [hop, Bool.true_or] at hst2
     conv => whnf
     repeat' (first|((with_reducible refine Split.of_true ?_);conv=>whnf)|((with_reducible refine Split.dec (fun _=>?_) (fun _=>?_))<;>conv=>whnf)|((with_reducible refine Wr.inr ?_ ?_);(first|omega|(simp;omega));conv=>whnf)|(exfalso;first|omega|contradiction)|fail)
     refine Again.au (j + 1) (by omega) (by omega) ?_
     rw [hst2]
     exact (by refine ⟨?_, ?_, rfl⟩<;>(repeat' (first|exact True.intro|exact rfl|(refine ⟨?_,?_⟩)|(intro h;cases h;done)|fail));done)
    | false =>
     rw [hop, Bool.false_or] at hst2
     conv => whnf
     repeat' (first|((refine PickE.map k hb (by omega) ?_);conv=>whnf)|((refine PickE.map j hn (by omega) ?_);conv=>whnf)|((refine PickE.map p hq (by omega) ?_);conv=>whnf)|((with_reducible refine Split.of_false ?_);conv=>whnf)|((with_reducible refine Split.dec (fun _=>?_) (fun _=>?_))<;>conv=>whnf)|((with_reducible refine Need.mk ?_ ?_);(first|omega|rfl|decide|(refine ⟨?_,?_⟩<;>simp<;>omega)|(simp;omega));conv=>whnf)|((with_reducible refine Wr.inr ?_ ?_);(first|omega|(simp;omega));conv=>whnf)|((with_reducible refine AltK.l ?_);(conv=>whnf);(first|(refine CallK.mk _ (w1) ?_)|(refine CallK.mk _ (w2) ?_));conv=>whnf)|(exfalso;first|omega|contradiction)|fail)
     refine Again.au (j + 1) (by omega) (by omega) ?_
     rw [hst2]
     exact (by refine ⟨?_, ?_, rfl⟩<;>(repeat' (first|exact True.intro|exact rfl|(refine ⟨?_,?_⟩)|(intro h;cases h;done)|fail));done)
   ·have hje : j = cut.length := by omega
    subst hje
    rw [List.take_length]
    rw [show (cut.any fun n => accF y l p (atI l n).toNat) = opnC (accF y l) (atI l) cut p from rfl]
    cases hop : opnC (accF y l) (atI l) cut p with
    | true =>
     rw [hop, if_pos rfl] at hst
     conv => whnf
     repeat' (first|((with_reducible refine Split.of_true ?_);conv=>whnf)|((with_reducible refine Split.dec (fun _=>?_) (fun _=>?_))<;>conv=>whnf)|((with_reducible refine Wr.inr ?_ ?_);(first|omega|(simp;omega));conv=>whnf)|((with_reducible refine AltK.l ?_);(conv=>whnf);(first|(refine CallK.mk _ (w5) ?_));conv=>whnf)|(exfalso;first|omega|contradiction)|fail)
     refine Again.au (p + 1) (by omega) (by omega) ?_
     rw [hst]
     exact (by refine ⟨?_, ?_, rfl⟩<;>(repeat' (first|exact True.intro|exact rfl|(refine ⟨?_,?_⟩)|(intro h;cases h;done)|fail));done)
    | false =>
     rw [hop, if_neg (by decide), Int.add_zero] at hst
     conv => whnf
     repeat' (first|((with_reducible refine Split.of_false ?_);conv=>whnf)|((with_reducible refine Split.dec (fun _=>?_) (fun _=>?_))<;>conv=>whnf)|((with_reducible refine Need.mk ?_ ?_);(first|omega|rfl|decide|(refine ⟨?_,?_⟩<;>simp<;>omega)|(simp;omega));conv=>whnf)|((with_reducible refine Wr.inr ?_ ?_);(first|omega|(simp;omega));conv=>whnf)|(exfalso;first|omega|contradiction)|fail)
     refine Again.au (p + 1) (by omega) (by omega) ?_
     rw [hst]
     exact (by refine ⟨?_, ?_, rfl⟩<;>(repeat' (first|exact True.intro|exact rfl|(refine ⟨?_,?_⟩)|(intro h;cases h;done)|fail));done)
  ·have hpe : p = y.pits.length := by omega
   subst hpe
   generalize sumN y.pits.length (fun p => if opnC (accF y l) (atI l) cut p = true then room.getD p 0 else 0) = sm at *
   conv => whnf
   repeat' (first|((with_reducible refine Split.dec (fun _=>?_) (fun _=>?_))<;>conv=>whnf)|(exfalso;first|omega|contradiction)|fail)
   rfl
end Go.Proofs.Tryz
end

section
namespace Go.Proofs.Tryz
open Go Go.Vm
set_option maxRecDepth 20000
structure Solved (y : Yd) (l : List Bt) (fl : List (List Int)) (t : Tf) : Prop where
 ok : FlOk (accF y l) y.pits.length l.length (volF y l) (roomF y) fl
 shut : ∀ p, p < y.pits.length → Shut (accF y l) y.pits.length l.length (volF y l) (roomF y) fl p
 ti : TfI (accF y l) y.pits.length l.length (roomF y) (priceF y) fl t
 bb : ∀ x ∈ t.bs, 0 ≤ x ∧ x ≤ 10000
 pb : ∀ x ∈ t.ps, 0 ≤ x ∧ x ≤ 10000
 tf : ∀ b, b < l.length → ∀ p, p < y.pits.length → TF (accF y l) (priceF y) fl t b p
theorem ev_CheapestRun {y : Yd} {l : List Bt} (hs : smallP y) (h0 : lstE y l = 0) : ∃ fl k t, fillsF (accF y l) y.pits.length l.length 20 k (volF y l) (roomF y) (ordF y) (flow0 y l) = some fl ∧ Solved y l fl t ∧
 Ev Tryz.prog 10 [ydD y, .sl 5 (l.map btD)] (.tup [frD (if doneF l.length (volF y l) fl = true then ⟨allF y l fl l.length, costF y (allF y l fl l.length), t⟩ else fr0), iD (if doneF l.length (volF y l) fl = true then 0 else 19)]) := by
 have hO := ls_ok h0
 obtain ⟨fl, k, h1, h2, h3, m, t, t1, t2, t3, t4, t5⟩ := cheap_run hO
 refine ⟨fl, k, t, h1, ⟨h2, h3, t2, t3, t4, t5⟩, ?_⟩
 cases hd : doneF l.length (volF y l) fl with
 | false =>
  rw [if_neg (by decide), if_neg (by decide)]
  exact ev_CheapestFull hs h0 (by decide) h1 hd
 | true =>
  rw [if_pos rfl, if_pos rfl]
  exact ev_CheapestOk hs h0 (by decide) h1 hd t1 (all_ok hO h2) (cost_bd hO h2)
end Go.Proofs.Tryz
end

section
namespace Go.Proofs.Tryz
open Go Go.Vm
set_option maxRecDepth 20000
set_option maxHeartbeats 8000000
theorem few_len {l : List Bt} {most lim : Nat} (h : fewB l most lim = true) : l.length ≤ lim + 5 := by
 unfold fewB at h
 rw [Bool.and_eq_true, Bool.not_eq_true'] at h
 have := h.1
 rw [Bool.or_eq_false_iff] at this
 simpa using this.2
end Go.Proofs.Tryz
end

section
namespace Go.Proofs.Tryz
open Go Go.Vm
set_option maxRecDepth 20000
set_option maxHeartbeats 8000000
theorem ev_DisposalCuts (hA : Ev Tryz.prog 7 [] (.bool true)) (y : Yd) (l : List Bt) (cut : List Int) : Ev Tryz.prog 4 [ydD y, .sl 5 (l.map btD), .sl 1 (cut.map iD)] (.bool true) := by
 have h1 := ev_Small y
 have h1' := ev_few l 5 12 (by decide) (by decide)
 have hlc : (cut.map iD).length = cut.length := List.length_map _
 cases hs : smallB y with
 | false =>
  rw [hs] at h1
  refine ev_of_awp tysOk mixed (fn := Tryz.f4) Tryz.func4 rfl rfl rfl ?_
  conv => whnf
  repeat' (first|((with_reducible first|refine Split.of_true ?_|refine Split.of_false ?_);conv=>whnf)|(with_reducible refine Split.neg ?_)|((with_reducible refine AltK.l ?_);(conv=>whnf);(first|(refine CallK.mk _ (hA) ?_)|(refine CallK.mk _ (h1) ?_)|(refine CallK.mk _ (h1') ?_));conv=>whnf)|fail)
  rfl
 | true =>
 rw [hs] at h1
 have hB := smB hs
 cases hfw : fewB l 5 12 with
 | false =>
  rw [hfw] at h1'
  refine ev_of_awp tysOk mixed (fn := Tryz.f4) Tryz.func4 rfl rfl rfl ?_
  conv => whnf
  repeat' (first|((with_reducible first|refine Split.of_true ?_|refine Split.of_false ?_);conv=>whnf)|(with_reducible refine Split.neg ?_)|((with_reducible refine AltK.l ?_);(conv=>whnf);(first|(refine CallK.mk _ (hA) ?_)|(refine CallK.mk _ (h1) ?_)|(refine CallK.mk _ (h1') ?_));conv=>whnf)|fail)
  rfl
 | true =>
 rw [hfw] at h1'
 by_cases hcl : 30 < cut.length
 ·refine ev_of_awp tysOk mixed (fn := Tryz.f4) Tryz.func4 rfl rfl rfl ?_
  conv => whnf
  repeat' (first|((with_reducible refine Split.of_true ?_);conv=>whnf)|(with_reducible refine Split.neg ?_)|((with_reducible refine Split.dec (fun _=>?_) (fun _=>?_))<;>conv=>whnf)|((with_reducible refine AltK.l ?_);(conv=>whnf);(first|(refine CallK.mk _ (hA) ?_)|(refine CallK.mk _ (h1) ?_)|(refine CallK.mk _ (h1') ?_));conv=>whnf)|(exfalso;first|omega|contradiction)|fail)
  all_goals first
   | rfl
   |(simp [retOf]; done)
   |(exfalso; omega)
 have hfl := few_len hfw
 have h2 := hB.copied
 have b1 := hB.b
 have b3 := hB.d
 have hll : (l.map btD).length = l.length := List.length_map _
 have h4 := ev_listed y l hB.sp (by omega) (by omega) (by omega)
 have h3 := ev_CopyInts9 cut (by omega)
 by_cases h0 : lstE y l = 0
 ·have hO := ls_ok h0
  rw [h0] at h4
  have h5 := ev_CheckCut hB.sp h0 (show cut.length ≤ 30 by omega)
  have h6 := ev_Cuts9 hO (show cut.length ≤ 30 by omega) (tk_ok hB.sp hO).cl
  rw [← cut_eq atI_ok] at h6
  obtain ⟨fl, k0, w, -, hf, -, -, h7⟩ := ev_AssignRun hB.sp h0
  obtain ⟨fl2, k, t, -, hS, h8⟩ := ev_CheapestRun hB.sp h0
  cases hc : cutB (accF y l) y.pits.length (volF y l) (roomF y) (atI l) cut with
  | false =>
   rw [hc] at h5 h6
   rw [if_neg (by decide)] at h5
   refine ev_of_awp tysOk mixed (fn := Tryz.f4) Tryz.func4 rfl rfl rfl ?_
   conv => whnf
   repeat' (first|((with_reducible first|refine Split.of_true ?_|refine Split.of_false ?_);conv=>whnf)|(with_reducible refine Split.neg ?_)|((with_reducible refine Split.is_false ?_ ?_);decide;conv=>whnf)|((with_reducible refine Split.dec (fun _=>?_) (fun _=>?_))<;>conv=>whnf)|((with_reducible refine AltK.l ?_);(conv=>whnf);(first|(refine CallK.mk _ (hA) ?_)|(refine CallK.mk _ (h1) ?_)|(refine CallK.mk _ (h1') ?_)|(refine CallK.mk _ (h2) ?_)|(refine CallK.mk _ (h3) ?_)|(refine CallK.mk _ (h4) ?_)|(refine CallK.mk _ (h5) ?_)|(refine CallK.mk _ (h6) ?_));conv=>whnf)|(exfalso;first|omega|contradiction)|fail)
   all_goals first
    | rfl
    |(simp [retOf]; done)
    |(exfalso; omega)
  | true =>
   have hcs := cut_says atI_ok hc
   have d1 : doneF l.length (volF y l) fl = false := by
    cases hd : doneF l.length (volF y l) fl with
    | false => rfl
    | true => have := no_cut hf hd (inC (atI l) cut); omega
   have d2 : doneF l.length (volF y l) fl2 = false := by
    cases hd : doneF l.length (volF y l) fl2 with
    | false => rfl
    | true => have := no_cut hS.ok hd (inC (atI l) cut); omega
   rw [hc] at h5 h6
   rw [if_pos rfl] at h5
   rw [d1, if_neg (by decide), if_neg (by decide), if_neg (by decide)] at h7
   rw [d2, if_neg (by decide), if_neg (by decide)] at h8
   refine ev_of_awp tysOk mixed (fn := Tryz.f4) Tryz.func4 rfl rfl rfl ?_
   conv => whnf
   repeat' (first|((with_reducible refine Split.of_true ?_);conv=>whnf)|(with_reducible refine Split.neg ?_)|((with_reducible refine Split.is_true ?_ ?_);decide;conv=>whnf)|((with_reducible refine Split.is_false ?_ ?_);decide;conv=>whnf)|((with_reducible refine Split.dec (fun _=>?_) (fun _=>?_))<;>conv=>whnf)|((with_reducible refine Need.mk ?_ ?_);(first|omega|rfl|decide|(refine ⟨?_,?_⟩<;>simp<;>omega)|(simp;omega));conv=>whnf)|((with_reducible refine AltK.l ?_);(conv=>whnf);(first|(refine CallK.mk _ (hA) ?_)|(refine CallK.mk _ (h1) ?_)|(refine CallK.mk _ (h1') ?_)|(refine CallK.mk _ (h2) ?_)|(refine CallK.mk _ (h3) ?_)|(refine CallK.mk _ (h4) ?_)|(refine CallK.mk _ (h5) ?_)|(refine CallK.mk _ (h6) ?_)|(refine CallK.mk _ (h7) ?_)|(refine CallK.mk _ (h8) ?_));conv=>whnf)|(exfalso;first|omega|contradiction)|fail)
   all_goals first
    | rfl
    |(simp [retOf]; done)
    |(exfalso; omega)
 ·have h5 := ev_CheckCutNo (cut := cut) hB.sp (by omega) (by omega) h0
  generalize lstE y l = e at *
  refine ev_of_awp tysOk mixed (fn := Tryz.f4) Tryz.func4 rfl rfl rfl ?_
  conv => whnf
  repeat' (first|((with_reducible refine Split.of_true ?_);conv=>whnf)|(with_reducible refine Split.neg ?_)|((with_reducible refine Split.nez (fun _=>?_) (fun _=>?_))<;>conv=>whnf)|((with_reducible refine Split.dec (fun _=>?_) (fun _=>?_))<;>conv=>whnf)|((with_reducible refine AltK.l ?_);(conv=>whnf);(first|(refine CallK.mk _ (hA) ?_)|(refine CallK.mk _ (h1) ?_)|(refine CallK.mk _ (h1') ?_)|(refine CallK.mk _ (h2) ?_)|(refine CallK.mk _ (h3) ?_)|(refine CallK.mk _ (h4) ?_)|(refine CallK.mk _ (h5) ?_));conv=>whnf)|(exfalso;first|omega|contradiction)|fail)
  all_goals first
   | rfl
   |(simp [retOf]; done)
   |(exfalso; omega)
end Go.Proofs.Tryz
end

section
namespace Go.Proofs.Tryz
open Go Go.Vm
theorem int_of {k : IntKind} {d : D} (h : Ty (.int k) d) : ∃ n, d = .int k n ∧ (Lit.int k n).wf = true := by cases h; exact ⟨_, rfl, by assumption⟩
theorem str_of {d : D} (h : Ty .str d) : ∃ s, d = .str s ∧ s.size ≤ 9223372036854775807 := by
 cases h with
 | str s h => exact ⟨_, rfl, h⟩
theorem sl_of {agg : Bool} {cs : List Cs} {d : D} (h : Ty (.sl agg cs) d) : ∃ es, d = .sl cs.length es ∧ (∀ e ∈ es, TyV (agg, cs) e) ∧ es.length ≤ 9223372036854775807 := by
 cases h with
 | sl hk hl h hn => exact ⟨_, rfl, fun e he => ⟨hk e he, hl e he, h e he⟩, hn⟩
theorem agg_of {cs : List Cs} {d : D} (h : TyV (true, cs) d) : ∃ ds, d = .agg ds ∧ ds.length = cs.length ∧ ∀ (j : Nat) c e, cs[j]? = some c → ds[j]? = some e → Ty c e := by
 obtain ⟨ds, rfl⟩ := h.1.1 rfl
 exact ⟨ds, rfl, h.2.1, h.2.2⟩
theorem one_of {c : Cs} {d : D} (h : TyV (false, [c]) d) : Ty c d := by
 have h1 := h.1.2 rfl
 have := h.2.2 0 c d rfl
 rw [(one_cells h1).1] at this
 exact this rfl
theorem map_of {α : Type} {f : α → D} {Q : D → Prop} (hf : ∀ d, Q d → ∃ a, d = f a) : ∀ {es : List D}, (∀ e ∈ es, Q e) → ∃ l : List α, es = l.map f
 | [], _ => ⟨[], rfl⟩
 | e :: es, h => by
  obtain ⟨a, rfl⟩ := hf e (h e (List.mem_cons_self ..))
  obtain ⟨l, rfl⟩ := map_of hf (fun e he => h e (List.mem_cons_of_mem _ he))
  exact ⟨a :: l, rfl⟩
end Go.Proofs.Tryz
end

section
namespace Go.Proofs.Tryz
open Go Go.Vm
def cPit : List Cs := [.str, .int .i64, .int .i64, .int .i64, .sl false [.int .i64], .int .i64]
def cBulk : List Cs := [.str, .int .i64, .int .i64]
def cDep : List Cs := [.int .i64, .str, .int .i64]
def cYard : List Cs := [.sl true cPit, .sl true cBulk, .sl true cDep, .sl false [.int .i64]]
def cBat : List Cs := [.int .i64, .int .i64, .int .i64, .str, .int .i64]
theorem ints_of9 {d : D} (h : Ty (.sl false [.int .i64]) d) : ∃ l : List Int, d = .sl 1 (l.map iD) := by
 obtain ⟨es, rfl, he, -⟩ := sl_of h
 obtain ⟨l, rfl⟩ := map_of (f := iD) (fun d hd => by
  obtain ⟨n, rfl, -⟩ := int_of (one_of hd)
  exact ⟨n, rfl⟩) he
 exact ⟨l, rfl⟩
theorem pit_of {d : D} (h : TyV (true, cPit) d) : ∃ p, d = ptD p := by
 obtain ⟨ds, rfl, hl, hc⟩ := agg_of h
 match ds, hl with
 | [a, b, c, e, f, g], _ =>
  obtain ⟨s, rfl, -⟩ := str_of (hc 0 _ a rfl rfl)
  obtain ⟨x1, rfl, -⟩ := int_of (hc 1 _ b rfl rfl)
  obtain ⟨x2, rfl, -⟩ := int_of (hc 2 _ c rfl rfl)
  obtain ⟨x3, rfl, -⟩ := int_of (hc 3 _ e rfl rfl)
  obtain ⟨l, rfl⟩ := ints_of9 (hc 4 _ f rfl rfl)
  obtain ⟨x5, rfl, -⟩ := int_of (hc 5 _ g rfl rfl)
  exact ⟨⟨s, x1, x2, x3, l, x5⟩, rfl⟩
theorem bulk_of {d : D} (h : TyV (true, cBulk) d) : ∃ p, d = bkD p := by
 obtain ⟨ds, rfl, hl, hc⟩ := agg_of h
 match ds, hl with
 | [a, b, c], _ =>
  obtain ⟨s, rfl, -⟩ := str_of (hc 0 _ a rfl rfl)
  obtain ⟨x1, rfl, -⟩ := int_of (hc 1 _ b rfl rfl)
  obtain ⟨x2, rfl, -⟩ := int_of (hc 2 _ c rfl rfl)
  exact ⟨⟨s, x1, x2⟩, rfl⟩
theorem dep_of {d : D} (h : TyV (true, cDep) d) : ∃ p, d = dpD p := by
 obtain ⟨ds, rfl, hl, hc⟩ := agg_of h
 match ds, hl with
 | [a, b, c], _ =>
  obtain ⟨x1, rfl, -⟩ := int_of (hc 0 _ a rfl rfl)
  obtain ⟨s, rfl, -⟩ := str_of (hc 1 _ b rfl rfl)
  obtain ⟨x2, rfl, -⟩ := int_of (hc 2 _ c rfl rfl)
  exact ⟨⟨x1, s, x2⟩, rfl⟩
theorem bat_of {d : D} (h : TyV (true, cBat) d) : ∃ p, d = btD p := by
 obtain ⟨ds, rfl, hl, hc⟩ := agg_of h
 match ds, hl with
 | [a, b, c, e, f], _ =>
  obtain ⟨x0, rfl, -⟩ := int_of (hc 0 _ a rfl rfl)
  obtain ⟨x1, rfl, -⟩ := int_of (hc 1 _ b rfl rfl)
  obtain ⟨x2, rfl, -⟩ := int_of (hc 2 _ c rfl rfl)
  obtain ⟨s, rfl, -⟩ := str_of (hc 3 _ e rfl rfl)
  obtain ⟨x4, rfl, -⟩ := int_of (hc 4 _ f rfl rfl)
  exact ⟨⟨x0, x1, x2, s, x4⟩, rfl⟩
theorem bats_of {d : D} (h : Ty (.sl true cBat) d) : ∃ l : List Bt, d = .sl 5 (l.map btD) := by
 obtain ⟨es, rfl, he, -⟩ := sl_of h
 obtain ⟨l, rfl⟩ := map_of (fun d hd => bat_of hd) he
 exact ⟨l, rfl⟩
theorem yard_of {d : D} (h : TyV (true, cYard) d) : ∃ y, d = ydD y := by
 obtain ⟨ds, rfl, hl, hc⟩ := agg_of h
 match ds, hl with
 | [a, b, c, e], _ =>
  obtain ⟨es, rfl, he, -⟩ := sl_of (hc 0 _ a rfl rfl)
  obtain ⟨l0, rfl⟩ := map_of (fun d hd => pit_of hd) he
  obtain ⟨es, rfl, he, -⟩ := sl_of (hc 1 _ b rfl rfl)
  obtain ⟨l1, rfl⟩ := map_of (fun d hd => bulk_of hd) he
  obtain ⟨es, rfl, he, -⟩ := sl_of (hc 2 _ c rfl rfl)
  obtain ⟨l2, rfl⟩ := map_of (fun d hd => dep_of hd) he
  obtain ⟨l3, rfl⟩ := ints_of9 (hc 3 _ e rfl rfl)
  exact ⟨⟨l0, l1, l2, l3⟩, rfl⟩
end Go.Proofs.Tryz
end

section
namespace Go.Proofs.Tryz
open Go Go.Vm
theorem ev_DisposalCuts' (y : Yd) (l : List Bt) (c : List Int) : Ev Tryz.prog 4 [ydD y, .sl 5 (l.map btD), .sl 1 (c.map iD)] (.bool true) := ev_DisposalCuts ev_awake9 y l c
end Go.Proofs.Tryz
end
