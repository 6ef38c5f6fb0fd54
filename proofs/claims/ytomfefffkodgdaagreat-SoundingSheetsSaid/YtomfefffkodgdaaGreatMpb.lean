/- Texts SeG SdZ SdR SeH SeI SeJ SeK, joined; what is not needed is left out. -/
import Derived.Test.YtomfefffkodgdaaGreatMgI
import Derived.Test.YtomfefffkodgdaaGreatProg
import Derived.Shelf.SlLaysF0
import Derived.Shelf.Lays
import Derived.Test.YtomfefffkodgdaaGreatMgJ
import Derived.Test.YtomfefffkodgdaaGreatMgH
import Derived.Test.YtomfefffkodgdaaGreatMpa
section
namespace Go.Proofs.Tryz
open Go Go.Vm Go.Sort
set_option maxRecDepth 20000
set_option maxHeartbeats 4000000
def ixJ (x : Int) (l : List Int) : Int := match l.findIdx? (fun c => c == x) with
 | some i => (i : Int)
 | none => -1
theorem any_ixJ (x : Int) (l : List Int) : (l.any fun c => c == x) = decide (0 ≤ ixJ x l) := by
 rw [← List.findIdx?_isSome, ixJ]
 cases l.findIdx? (fun c => c == x) <;> simp
theorem ev_IndexJ (l : List Int) (x : Int) (hn : l.length ≤ 1000000) : Ev Tryz.prog 51 [.sl 1 (l.map iD), iD x] (iD (ixJ x l)) := by
 have hlen : (l.map iD).length = l.length := List.length_map _
 refine ev_of_awp tysOk mixed (fn := Tryz.f51) Tryz.func51 rfl rfl rfl ?_
 conv => whnf
 skip
 refine LoopK.o2 (fun i : Nat => i ≤ l.length ∧ ∀ g ∈ l.take i, (g == x) = false) (fun i => [(8, .d (.int .i64 i))]) (fun _ => []) (fun i => l.length - i) 0 (by simp) (by refine ⟨?_, ?_, rfl⟩<;>(repeat' (first|exact True.intro|exact rfl|(refine ⟨?_,?_⟩)|fail));done) ?_
 rintro i ⟨hi, hp⟩
 by_cases hil : i < l.length
 ·obtain ⟨g, hg⟩ := some_of_lt hil
  conv => whnf
  repeat' (first|((refine PickE.map i hg (by omega) ?_);conv=>whnf)|((with_reducible refine Split.eqz (fun _=>?_) (fun _=>?_))<;>conv=>whnf)|((with_reducible refine Split.dec (fun _=>?_) (fun _=>?_))<;>conv=>whnf)|((with_reducible refine Need.mk ?_ ?_);(first|omega|rfl|decide|(refine ⟨?_,?_⟩<;>simp<;>omega)|(simp;omega));conv=>whnf)|((with_reducible refine Wr.inr ?_ ?_);(first|omega|(simp;omega));conv=>whnf)|(exfalso;first|omega|contradiction)|fail)
  ·have e : l.findIdx? (fun c => c == x) = some i := by
    rw [List.findIdx?_eq_some_iff_getElem]
    refine ⟨by omega, by rw [(List.getElem?_eq_some_iff.1 hg).2]; simp; omega, fun j hj => ?_⟩
    have := hp l[j] (List.mem_take_iff_getElem.2 ⟨j, by omega, rfl⟩)
    rw [this]; decide
   rw [ixJ, e]; rfl
  ·refine Again.au (i + 1) ⟨by omega, fun z hz => ?_⟩ (by omega) (by refine ⟨?_, ?_, rfl⟩<;>(repeat' (first|exact True.intro|exact rfl|(refine ⟨?_,?_⟩)|fail));done)
   rw [take_snoc hg] at hz
   rcases List.mem_append.1 hz with hz | hz
   ·exact hp z hz
   ·rw [List.mem_singleton.1 hz]; simp; omega
 ·have e : l.findIdx? (fun c => c == x) = none := by
   rw [List.findIdx?_eq_none_iff]
   intro z hz
   rw [← List.take_of_length_le (show l.length ≤ i by omega)] at hz
   exact hp z hz
  rw [ixJ, e]
  conv => whnf
  repeat' (first|((with_reducible refine Split.dec (fun _=>?_) (fun _=>?_))<;>conv=>whnf)|((with_reducible refine Need.mk ?_ ?_);(first|omega|rfl|decide|(refine ⟨?_,?_⟩<;>simp<;>omega)|(simp;omega));conv=>whnf)|(exfalso;first|omega|contradiction)|fail)
  rfl
theorem ev_ContJ (l : List Int) (x : Int) (hn : l.length ≤ 1000000) : Ev Tryz.prog 25 [.sl 1 (l.map iD), iD x] (.bool (l.any fun c => c == x)) := by
 have h := ev_IndexJ l x hn
 rw [any_ixJ]
 generalize ixJ x l = i at *
 refine ev_of_awp tysOk mixed (fn := Tryz.f25) Tryz.func25 rfl rfl rfl ?_
 conv => whnf
 repeat' (first|((with_reducible refine AltK.l ?_);(conv=>whnf);(first|(refine CallK.mk _ (h) ?_));conv=>whnf)|fail)
 rfl
def inK (k : List Int) (s : Sg) : Bool := k.any fun c => c == s.n
theorem ev_Wo1 (s : Sg) (k : List Int) (hk : k.length ≤ 1000) : Ev Tryz.prog 24 [sgD s, .ref [.sl 1 (k.map iD)] 0] (.bool (inK k s)) := by
 have h := ev_ContJ k s.n (by omega)
 refine ev_of_awp tysOk mixed (fn := Tryz.f24) Tryz.func24 rfl rfl rfl ?_
 conv => whnf
 repeat' (first|((with_reducible refine AltK.l ?_);(conv=>whnf);(first|(refine CallK.mk _ (h) ?_));conv=>whnf)|fail)
 rfl
def woRes (l : List Sg) (k : List Int) : List Sg × Int := if chkErr sgB Sg.n l ≠ 0 then ([], chkErr sgB Sg.n l) else if (k.any fun n => !hasN l n) = true then ([], 6) else (l.filter fun s => !inK k s, 0)
theorem any_snoc {α : Type} {p : α → Bool} {l : List α} {i : Nat} {x : α} (h : l[i]? = some x) : (l.take (i + 1)).any p = ((l.take i).any p || p x) := by
 rw [take_snoc h, List.any_append]; simp
theorem any_at {α : Type} {p : α → Bool} {l : List α} {i : Nat} {x : α} (h : l[i]? = some x) (hp : p x = true) : l.any p = true := List.any_eq_true.2 ⟨x, List.mem_of_getElem? h, hp⟩
theorem ev_Without (l : List Sg) (k : List Int) (hk : k.length ≤ 1000) : Ev Tryz.prog 7 [.sl 5 (l.map sgD), .sl 1 (k.map iD)] (sgsE (woRes l k)) := by
 have hlen : (l.map sgD).length = l.length := List.length_map _
 have hlk : (k.map iD).length = k.length := List.length_map _
 have h1 := ev_CheckS l
 by_cases c0 : chkErr sgB Sg.n l = 0
 ·rw [woRes, if_neg (by simpa using c0)]
  rw [c0] at h1
  obtain ⟨hl5, hall, hu⟩ := chk_zero c0
  have h2 := EvX.newM (xs := [.sl 5 (l.map sgD)]) (xv_byNumber l hu (by omega)) 18
  refine ev_of_awp tysOk mixed (fn := Tryz.f7) Tryz.func7 rfl rfl rfl ?_
  conv => whnf
  repeat' (first|((with_reducible refine Split.is_false ?_ ?_);decide;conv=>whnf)|((with_reducible refine AltK.r ?_);(conv=>whnf);(first|(refine CallX.mk _ _ (h2) rfl ?_));conv=>whnf)|((with_reducible refine AltK.l ?_);(conv=>whnf);(first|(refine CallK.mk _ (h1) ?_));conv=>whnf)|fail)
  refine LoopK.o2 (fun i : Nat => i ≤ k.length ∧ ((k.take i).any fun n => !hasN l n) = false) (fun i => [(21, .d (.int .i64 i))]) (fun _ => []) (fun i => k.length - i) 0 ⟨by simp, rfl⟩ (by refine ⟨?_, ?_, rfl⟩<;>(repeat' (first|exact True.intro|exact rfl|(refine ⟨?_,?_⟩)|(intro h;cases h;done)|fail));done) ?_
  rintro i ⟨hi, hc⟩
  have hnx : (i : Int) < k.length → ∃ m, k[i]? = some m := fun h => some_of_lt (by omega)
  conv => whnf
  repeat' (first|((with_reducible refine Split.dec (fun _=>?_) (fun _=>?_))<;>conv=>whnf)|((with_reducible refine Need.mk ?_ ?_);(first|omega|rfl|decide|(refine ⟨?_,?_⟩<;>simp<;>omega)|(simp;omega));conv=>whnf)|fail)
  ·obtain ⟨n, hn⟩ := hnx (by omega)
   have hst := any_snoc (p := fun n => !hasN l n) hn
   rw [hc, Bool.false_or] at hst
   conv => whnf
   repeat' (first|((refine PickE.map i hn (by omega) ?_);conv=>whnf)|((with_reducible refine Need.mk ?_ ?_);(first|omega|rfl|decide|(refine ⟨?_,?_⟩<;>simp<;>omega)|(simp;omega));conv=>whnf)|fail)
   refine LookK.mk (fun v hv => ?_) (fun hv => ?_)
   ·rw [mget_byN _ _ hu, Option.map_eq_some_iff] at hv
    obtain ⟨t, ht, rfl⟩ := hv
    have hh : hasN l n = true := hasN_iff.2 ⟨t, List.mem_of_find?_eq_some ht, by simpa using List.find?_some ht⟩
    conv => whnf
    repeat' (first|((with_reducible refine Split.of_true ?_);conv=>whnf)|(with_reducible refine Split.neg ?_)|((with_reducible refine Need.mk ?_ ?_);(first|omega|rfl|decide|(refine ⟨?_,?_⟩<;>simp<;>omega)|(simp;omega));conv=>whnf)|((with_reducible refine Wr.inr ?_ ?_);(first|omega|(simp;omega));conv=>whnf)|fail)
    exact Again.au (i + 1) ⟨by omega, by rw [hst, hh];rfl⟩ (by omega) (by refine ⟨?_, ?_, rfl⟩<;>(repeat' (first|exact True.intro|exact rfl|(refine ⟨?_,?_⟩)|(intro h;cases h;done)|fail));done)
   ·rw [mget_byN _ _ hu, Option.map_eq_none_iff, find_any] at hv
    have hh : hasN l n = false := hv
    conv => whnf
    repeat' (first|((with_reducible refine Split.of_false ?_);conv=>whnf)|(with_reducible refine Split.neg ?_)|((with_reducible refine Need.mk ?_ ?_);(first|omega|rfl|decide|(refine ⟨?_,?_⟩<;>simp<;>omega)|(simp;omega));conv=>whnf)|fail)
    rw [if_pos (any_at hn (by rw [hh]; rfl))]
    rfl
  ·have ei : i = k.length := by omega
   subst ei
   rw [List.take_length] at hc
   rw [hc, if_neg (by decide)]
   by_cases hn : l = []
   ·subst hn
    have h4 : Ev Tryz.prog 22 [.sl 5 [], .fn 24 [.ref [.sl 1 (k.map iD)] 0]] (.sl 5 []) := by
     have hi := ev_IndexS [] 24 [.ref [.sl 1 (k.map iD)] 0] (fun _ => true) (by simp) (fun g hg => (by cases hg))
     refine ev_of_awp tysOk mixed (fn := Tryz.f22) Tryz.func22 rfl rfl rfl ?_
     conv => whnf
     repeat' (first|((with_reducible refine Split.is_true ?_ ?_);decide;conv=>whnf)|((with_reducible refine AltK.l ?_);(conv=>whnf);(first|(refine CallK.mk _ (hi) ?_));conv=>whnf)|fail)
     rfl
    conv => whnf
    repeat' (first|((with_reducible refine AltK.l ?_);(conv=>whnf);(first|(refine CallK.mk _ (ev_cloneS [] (by simp)) ?_)|(refine CallK.mk _ (h4) ?_));conv=>whnf)|fail)
    rfl
   ·have h3 := EvX.new1 (xs := [.sl 5 (l.map sgD)]) (xv_cloneS l (by have := List.length_pos_iff.2 hn; omega)) 35
    have hq : ∀ g ∈ l, Ev Tryz.prog 24 ([sgD g] ++ [.ref [.sl 1 (k.map iD)] 0]) (.bool (inK k g)) := fun g _ => ev_Wo1 g k hk
    have hfl : (l.filter fun s => !inK k s).length ≤ l.length := List.length_filter_le _ _
    cases h0 : l.findIdx? fun g => inK k g with
    | none =>
     have e : (l.filter fun s => !inK k s) = l := by
      rw [List.filter_eq_self]
      intro g hg
      have := List.findIdx?_eq_none_iff.1 h0 g hg
      rw [this]; rfl
     have h4 := EvX.at1o (xs := [.fn 24 [.ref [.sl 1 (k.map iD)] 0]]) (xv_delS0 l _ _ _ (by omega) hq h0) 35
     have h4 := EvX.cap 3 [.sl 1 (k.map iD)] false (xs := [.own 35 5 (l.map sgD).length, .fnv 24 [.box 3]]) h4 rfl
     rw [e]
     conv => whnf
     repeat' (first|((with_reducible refine AltK.r ?_);(conv=>whnf);(first|(refine CallX.mk _ _ (h3) rfl ?_)|(refine CallX.mk _ _ (h4) rfl ?_));conv=>whnf)|fail)
     rfl
    | some i0 =>
     have h4 := EvX.turn1 (xs := [.fn 24 [.ref [.sl 1 (k.map iD)] 0]]) (xv_delS l _ _ _ (by omega) hq h0) 35 37 rfl
     have h4 := EvX.cap 3 [.sl 1 (k.map iD)] false (xs := [.own 35 5 (l.map sgD).length, .fnv 24 [.box 3]]) h4 rfl
     conv => whnf
     repeat' (first|((with_reducible refine AltK.r ?_);(conv=>whnf);(first|(refine CallX.mk _ _ (h3) rfl ?_)|(refine CallX.mk _ _ (h4) rfl ?_));conv=>whnf)|fail)
     rfl
 ·rw [woRes, if_pos c0]
  refine ev_of_awp tysOk mixed (fn := Tryz.f7) Tryz.func7 rfl rfl rfl ?_
  conv => whnf
  repeat' (first|((with_reducible refine Split.nez (fun _=>?_) (fun _=>?_))<;>conv=>whnf)|((with_reducible refine AltK.l ?_);(conv=>whnf);(first|(refine CallK.mk _ (h1) ?_));conv=>whnf)|(exfalso;first|omega|contradiction)|fail)
  all_goals simp_all [retOf, sgsE, iD]
end Go.Proofs.Tryz
end

section
namespace Go.Proofs.Tryz
open Go Go.Vm
def cSg : List Cs := [.int .i64, .int .i64, .int .i64, .int .i64, .int .i64]
theorem sg_of {d : D} (h : TyV (true, cSg) d) : ∃ r, d = sgD r := by
 obtain ⟨ds, rfl, hl, hc⟩ := agg_of h
 match ds, hl with
 | [a, b, c, e, f], _ =>
  obtain ⟨x0, rfl, -⟩ := int_of (hc 0 _ a rfl rfl)
  obtain ⟨x1, rfl, -⟩ := int_of (hc 1 _ b rfl rfl)
  obtain ⟨x2, rfl, -⟩ := int_of (hc 2 _ c rfl rfl)
  obtain ⟨x3, rfl, -⟩ := int_of (hc 3 _ e rfl rfl)
  obtain ⟨x4, rfl, -⟩ := int_of (hc 4 _ f rfl rfl)
  exact ⟨⟨x0, x1, x2, x3, x4⟩, rfl⟩
theorem sgs_of {d : D} (h : Ty (.sl true cSg) d) : ∃ l : List Sg, d = .sl 5 (l.map sgD) := by
 obtain ⟨es, rfl, he, -⟩ := sl_of h
 obtain ⟨l, rfl⟩ := map_of (fun d hd => sg_of hd) he
 exact ⟨l, rfl⟩
theorem ints_of {d : D} (h : Ty (.sl false [.int .i64]) d) : ∃ l : List Int, d = .sl 1 (l.map iD) := by
 obtain ⟨es, rfl, he, -⟩ := sl_of h
 obtain ⟨l, rfl⟩ := map_of (f := iD) (fun d hd => by
  obtain ⟨n, rfl, -⟩ := int_of (one_of hd)
  exact ⟨n, rfl⟩) he
 exact ⟨l, rfl⟩
end Go.Proofs.Tryz
end

section
namespace Go.Proofs.Tryz
open Go Go.Vm Go.Sort
set_option maxRecDepth 20000
set_option maxHeartbeats 4000000
theorem find_none {l : List Sg} {n : Int} (h : (l.any fun s => s.n == n) = false) : findS l n = -1 := by
 have : l.findIdx? (fun s => s.n == n) = none := by
  rw [List.findIdx?_eq_none_iff]; intro x hx; simpa using List.any_eq_false.1 h x hx
 rw [findS]; simp only [this]
theorem find_some {l : List Sg} {n : Int} (h : ¬ (l.any fun s => s.n == n) = false) : ∃ (j : Nat) (s : Sg), findS l n = (j : Int) ∧ l[j]? = some s ∧ s.n = n := by
 refine find_num ?_
 rw [Bool.not_eq_false, List.any_eq_true] at h
 obtain ⟨s, hs, e⟩ := h
 exact List.mem_map.2 ⟨s, hs, by simpa using e⟩
def longB (n : Nat) : Bool := (decide (25 < n) && decide (n ≤ 500)) || decide (600 < n)
theorem ev_long (l : List Sg) : Ev Tryz.prog 5 [.sl 5 (l.map sgD)] (.bool (longB l.length)) := by
 have hlen : (l.map sgD).length = l.length := List.length_map _
 refine ev_of_awp tysOk mixed (fn := Tryz.f5) Tryz.func5 rfl rfl rfl ?_
 conv => whnf
 repeat' (first|((with_reducible refine Split.of_false ?_);conv=>whnf)|((with_reducible refine Split.dec (fun _=>?_) (fun _=>?_))<;>conv=>whnf)|fail)
 all_goals
  have e : longB l.length = true ∨ longB l.length = false := by cases longB l.length <;> simp
  rcases e with e | e <;> rw [e] <;> simp [retOf, longB] at e ⊢ <;> omega
end Go.Proofs.Tryz
end

section
namespace Go.Proofs.Tryz
open Go Go.Vm Go.Sort
set_option maxRecDepth 20000
set_option maxHeartbeats 4000000
def woL (l : List Sg) (k : List Int) : List Sg := l.filter fun s => !inK k s
theorem wo_snoc {l : List Sg} {k : List Int} {i : Nat} {s : Sg} (h : l[i]? = some s) : woL (l.take (i + 1)) k = if inK k s = true then woL (l.take i) k else woL (l.take i) k ++ [s] := by
 rw [woL, take_snoc h, List.filter_append]
 by_cases hp : inK k s = true <;> simp [hp, woL]
theorem wo_len (l : List Sg) (k : List Int) : (woL l k).length ≤ l.length := List.length_filter_le _ _
theorem ev_WithoutR (l : List Sg) (k : List Int) (hk : k.length ≤ 1000) : Ev Tryz.prog 8 [.sl 5 (l.map sgD), .sl 1 (k.map iD)] (sgsE (woRes l k)) := by
 have hlen : (l.map sgD).length = l.length := List.length_map _
 have hlk : (k.map iD).length = k.length := List.length_map _
 have h1 := ev_CheckSR l
 by_cases c0 : chkErr sgB Sg.n l = 0
 ·rw [woRes, if_neg (by simpa using c0)]
  rw [c0] at h1
  obtain ⟨hl5, hall, hu⟩ := chk_zero c0
  have hmp2 : List.replicate ((l.map sgD).length : Int).toNat (D.bool false) = l.map fun s => D.bool (inK (k.take 0) s) := by
   rw [Int.toNat_natCast, hlen]
   exact (List.map_const' (l := l) (b := D.bool false)).symm
  refine ev_of_awp tysOk mixed (fn := Tryz.f8) Tryz.func8 rfl rfl rfl ?_
  conv => whnf
  repeat' (first|((with_reducible refine Split.is_false ?_ ?_);decide;conv=>whnf)|((with_reducible refine Need.mk ?_ ?_);(first|omega|rfl|decide|(refine ⟨?_,?_⟩<;>simp<;>omega)|(simp;omega));conv=>whnf)|((with_reducible refine AltK.l ?_);(conv=>whnf);(first|(refine CallK.mk _ (h1) ?_));conv=>whnf)|fail)
  refine LoopK.o2 (fun i : Nat => i ≤ k.length ∧ ((k.take i).any fun n => !hasN l n) = false) (fun i => [(8, .d (.int .i64 i))]) (fun i => [(19, .row 4 1 (l.map fun s => .bool (inK (k.take i) s)) false)]) (fun i => k.length - i) 0 ⟨by simp, rfl⟩ (by refine ⟨?_, ?_, rfl⟩<;>(repeat' (first|exact True.intro|exact rfl|(refine ⟨?_,?_⟩)|(intro h;cases h;done)|exact hmp2|fail));done) ?_
  rintro i ⟨hi, hc⟩
  have hnx : (i : Int) < k.length → ∃ m, k[i]? = some m := fun h => some_of_lt (by omega)
  conv => whnf
  repeat' (first|((with_reducible refine Split.dec (fun _=>?_) (fun _=>?_))<;>conv=>whnf)|((with_reducible refine Need.mk ?_ ?_);(first|omega|rfl|decide|(refine ⟨?_,?_⟩<;>simp<;>omega)|(simp;omega));conv=>whnf)|fail)
  ·obtain ⟨n, hn⟩ := hnx (by omega)
   have hst := any_snoc (p := fun n => !hasN l n) hn
   rw [hc, Bool.false_or] at hst
   have hF := ev_Find l n (by omega)
   by_cases ha : (l.any fun s => s.n == n) = false
   ·rw [find_none ha] at hF
    have hh : hasN l n = false := ha
    conv => whnf
    repeat' (first|((refine PickE.map i hn (by omega) ?_);conv=>whnf)|((with_reducible refine Split.is_true ?_ ?_);decide;conv=>whnf)|((with_reducible refine AltK.l ?_);(conv=>whnf);(first|(refine CallK.mk _ (hF) ?_));conv=>whnf)|fail)
    rw [if_pos (any_at hn (by rw [hh]; rfl))]
    rfl
   ·obtain ⟨j, s, hj, hs, rfl⟩ := find_some ha
    rw [hj] at hF
    have hh : hasN l s.n = true := by rw [Bool.not_eq_false] at ha; exact ha
    have hjl := (List.getElem?_eq_some_iff.1 hs).1
    have hmp3 : (l.map fun s => D.bool (inK (k.take i) s)).set j (.bool true) = l.map fun s => D.bool (inK (k.take (i + 1)) s) := by
     refine set_map hs (by rw [inK, take_snoc hn]; simp) (noTwo_nodup hu) fun y hy hyz => ?_
     have : (s.n == y.n) = false := by
      simp only [beq_eq_false_iff_ne]
      exact fun e => hyz (noTwo_eq hu y hy s (List.mem_of_getElem? hs) e.symm)
     rw [inK, take_snoc hn, List.any_append]
     simp [this, inK]
    have ej : ((j : Int)).toNat = j := Int.toNat_natCast j
    conv => whnf
    repeat' (first|((refine PickE.map j hs (by omega) ?_);conv=>whnf)|((refine PickE.map i hn (by omega) ?_);conv=>whnf)|((with_reducible refine Split.dec (fun _=>?_) (fun _=>?_))<;>conv=>whnf)|((with_reducible refine Need.mk ?_ ?_);(first|omega|rfl|decide|(refine ⟨?_,?_⟩<;>simp<;>omega)|(simp;omega));conv=>whnf)|((with_reducible refine Wr.inr ?_ ?_);(first|omega|(simp;omega));conv=>whnf)|((with_reducible refine AltK.l ?_);(conv=>whnf);(first|(refine CallK.mk _ (hF) ?_));conv=>whnf)|(exfalso;first|omega|contradiction)|fail)
    exact Again.au (i + 1) ⟨by omega, by rw [hst, hh];rfl⟩ (by omega) (by refine ⟨?_, ?_, rfl⟩<;>(repeat' (first|exact True.intro|exact rfl|(refine ⟨?_,?_⟩)|(intro h;cases h;done)|exact hmp3|fail));done)
  ·have ei : i = k.length := by omega
   subst ei
   rw [List.take_length] at hc
   rw [hc, if_neg (by decide)]
   refine LoopK.o2 (fun i : Nat => i ≤ l.length) (fun i => [(10, .own 200 5 ((woL (l.take i) k).map sgD).length), (11, .d (.int .i64 i))]) (fun i => [(200, .row 40 5 ((woL (l.take i) k).map sgD) false)]) (fun i => l.length - i) 0 (by simp) (by refine ⟨?_, ?_, rfl⟩<;>(repeat' (first|exact True.intro|exact rfl|(refine ⟨?_,?_⟩)|(intro h;cases h;done)|fail));done) ?_
   rintro i hi2
   have hnx2 : (i : Int) < l.length → ∃ m, l[i]? = some m := fun h => some_of_lt (by omega)
   have hkl := wo_len (l.take i) k
   rw [List.length_take] at hkl
   conv => whnf
   repeat' (first|((with_reducible refine Split.dec (fun _=>?_) (fun _=>?_))<;>conv=>whnf)|((with_reducible refine Need.mk ?_ ?_);(first|omega|rfl|decide|(refine ⟨?_,?_⟩<;>simp<;>omega)|(simp;omega));conv=>whnf)|fail)
   ·obtain ⟨s, hs⟩ := hnx2 (by omega)
    have hst := wo_snoc (k := k) hs
    have h2 : inK (k.take k.length) s = inK k s := by rw [List.take_length]
    conv => whnf
    repeat' (first|((refine PickE.map i hs (by omega) ?_);conv=>whnf)|(with_reducible refine Split.neg ?_)|((with_reducible refine Split.mk (fun _=>?_) (fun _=>?_))<;>conv=>whnf)|((with_reducible refine Need.mk ?_ ?_);(first|omega|rfl|decide|(refine ⟨?_,?_⟩<;>simp<;>omega)|(simp;omega));conv=>whnf)|((with_reducible refine Wr.inr ?_ ?_);(first|omega|(simp;omega));conv=>whnf)|fail)
    ·rw [if_pos (by simp_all)] at hst
     exact Again.au (i + 1) (by omega) (by omega) (by refine ⟨?_, ?_, rfl⟩<;>(repeat' (first|exact True.intro|exact rfl|(refine ⟨?_,?_⟩)|(intro h;cases h;done)|((first|refine own_congr ?_|refine int_congr ?_|skip);simp [hst];done)|fail));done)
    ·rw [if_neg (by simp_all)] at hst
     exact Again.au (i + 1) (by omega) (by omega) (by refine ⟨?_, ?_, rfl⟩<;>(repeat' (first|exact True.intro|exact rfl|(refine ⟨?_,?_⟩)|(intro h;cases h;done)|((first|refine own_congr ?_|refine int_congr ?_|skip);simp [hst,sgD];done)|fail));done)
   ·rw [List.take_of_length_le (show l.length ≤ i by omega)]
    rfl
 ·rw [woRes, if_pos c0]
  refine ev_of_awp tysOk mixed (fn := Tryz.f8) Tryz.func8 rfl rfl rfl ?_
  conv => whnf
  repeat' (first|((with_reducible refine Split.nez (fun _=>?_) (fun _=>?_))<;>conv=>whnf)|((with_reducible refine Need.mk ?_ ?_);(first|omega|rfl|decide|(refine ⟨?_,?_⟩<;>simp<;>omega)|(simp;omega));conv=>whnf)|((with_reducible refine AltK.l ?_);(conv=>whnf);(first|(refine CallK.mk _ (h1) ?_));conv=>whnf)|(exfalso;first|omega|contradiction)|fail)
  all_goals simp_all [retOf, sgsE, iD]
end Go.Proofs.Tryz
end

section
namespace Go.Proofs.Tryz
open Go Go.Vm Go.Sort
set_option maxRecDepth 20000
set_option maxHeartbeats 4000000
theorem find_of {l : List Sg} (hu : NoTwo l) {t : Sg} {n : Int} (ht : t ∈ l) (e : t.n = n) : (l.find? fun s => s.n == n) = some t := by
 cases h : l.find? fun s => s.n == n with
 | none => have := List.find?_eq_none.1 h t ht; simp [e] at this
 | some u =>
  have h2 := List.mem_of_find?_eq_some h
  have h3 : u.n = n := by simpa using List.find?_some h
  rw [noTwo_eq hu u h2 t ht (by omega)]
theorem ev_MergeR (a b : List Sg) : Ev Tryz.prog 10 [.sl 5 (a.map sgD), .sl 5 (b.map sgD)] (sgsE (mergeRes a b)) := by
 have hla : (a.map sgD).length = a.length := List.length_map _
 have hlb : (b.map sgD).length = b.length := List.length_map _
 have h1 := ev_CheckSR a
 have h2 := ev_CheckSR b
 by_cases c0 : chkErr sgB Sg.n a = 0
 ·rw [mergeRes, if_neg (by simpa using c0)]
  by_cases c1 : chkErr sgB Sg.n b = 0
  ·rw [if_neg (by simpa using c1)]
   rw [c0] at h1
   rw [c1] at h2
   obtain ⟨ha5, haall, hau⟩ := chk_zero c0
   obtain ⟨hb5, hball, hbu⟩ := chk_zero c1
   refine ev_of_awp tysOk mixed (fn := Tryz.f10) Tryz.func10 rfl rfl rfl ?_
   conv => whnf
   repeat' (first|((with_reducible refine Split.is_false ?_ ?_);decide;conv=>whnf)|((with_reducible refine Need.mk ?_ ?_);(first|omega|rfl|decide|(refine ⟨?_,?_⟩<;>simp<;>omega)|(simp;omega));conv=>whnf)|((with_reducible refine AltK.l ?_);(conv=>whnf);(first|(refine CallK.mk _ (h1) ?_)|(refine CallK.mk _ (h2) ?_));conv=>whnf)|fail)
   refine LoopK.o2 (fun i : Nat => i ≤ b.length ∧ cfl a (b.take i) = false) (fun i => [(8, .own 200 5 ((a ++ newB a (b.take i)).map sgD).length), (9, .d (.int .i64 i))]) (fun i => [(200, .row 40 5 ((a ++ newB a (b.take i)).map sgD) false)]) (fun i => b.length - i) 0 ⟨by simp, rfl⟩ (by refine ⟨?_, ?_, rfl⟩<;>(repeat' (first|exact True.intro|exact rfl|(refine ⟨?_,?_⟩)|(intro h;cases h;done)|((first|refine own_congr ?_|refine int_congr ?_|skip);simp [newB];done)|fail));done) ?_
   rintro i ⟨hi, hc⟩
   have hnx : (i : Int) < b.length → ∃ m, b[i]? = some m := fun h => some_of_lt (by omega)
   have hnl := newB_len a (b.take i)
   rw [List.length_take] at hnl
   have hjl : ((a ++ newB a (b.take i)).map sgD).length = a.length + (newB a (b.take i)).length := by simp
   conv => whnf
   repeat' (first|((with_reducible refine Split.dec (fun _=>?_) (fun _=>?_))<;>conv=>whnf)|((with_reducible refine Need.mk ?_ ?_);(first|omega|rfl|decide|(refine ⟨?_,?_⟩<;>simp<;>omega)|(simp;omega));conv=>whnf)|fail)
   ·obtain ⟨s, hs⟩ := hnx (by omega)
    have hF := ev_Find a s.n (by omega)
    have hst := cfl_snoc (a := a) hs
    have hnb := newB_snoc (a := a) hs
    by_cases hh : (a.any fun t => t.n == s.n) = false
    ·rw [find_none hh] at hF
     have hn : hasN a s.n = false := hh
     rw [find_any.2 hh, hc, Bool.false_or] at hst
     rw [hn, if_neg (by decide)] at hnb
     conv => whnf
     repeat' (first|((refine PickE.map i hs (by omega) ?_);conv=>whnf)|((with_reducible refine Split.of_false ?_);conv=>whnf)|((with_reducible refine Split.is_true ?_ ?_);decide;conv=>whnf)|((with_reducible refine Split.is_false ?_ ?_);decide;conv=>whnf)|((with_reducible refine Need.mk ?_ ?_);(first|omega|rfl|decide|(refine ⟨?_,?_⟩<;>simp<;>omega)|(simp;omega));conv=>whnf)|((with_reducible refine Wr.inr ?_ ?_);(first|omega|(simp;omega));conv=>whnf)|((with_reducible refine AltK.l ?_);(conv=>whnf);(first|(refine CallK.mk _ (hF) ?_));conv=>whnf)|fail)
     exact Again.au (i + 1) ⟨by omega, hst⟩ (by omega) (by refine ⟨?_, ?_, rfl⟩<;>(repeat' (first|exact True.intro|exact rfl|(refine ⟨?_,?_⟩)|(intro h;cases h;done)|((first|refine own_congr ?_|refine int_congr ?_|skip);simp [hnb,sgD];done)|((first|refine own_congr ?_|refine int_congr ?_);simp [hnb,sgD];omega)|fail));done)
    ·obtain ⟨j, t, hj, ht, htn⟩ := find_some hh
     rw [hj] at hF
     have hn : hasN a s.n = true := by rw [Bool.not_eq_false] at hh; exact hh
     have hf := find_of hau (List.mem_of_getElem? ht) htn
     rw [hf, hc, Bool.false_or] at hst
     rw [hn, if_pos rfl] at hnb
     have ej : ((j : Int)).toNat = j := Int.toNat_natCast j
     have hjl := (List.getElem?_eq_some_iff.1 ht).1
     conv => whnf
     repeat' (first|((refine PickE.map j ht (by omega) ?_);conv=>whnf)|((refine PickE.map i hs (by omega) ?_);conv=>whnf)|((with_reducible first|refine Split.of_true ?_|refine Split.of_false ?_);conv=>whnf)|(with_reducible refine Split.neg ?_)|((with_reducible refine Split.eqz (fun _=>?_) (fun _=>?_))<;>conv=>whnf)|(with_reducible refine Split.and ?_)|((with_reducible refine Split.dec (fun _=>?_) (fun _=>?_))<;>conv=>whnf)|((with_reducible refine Need.mk ?_ ?_);(first|omega|rfl|decide|(refine ⟨?_,?_⟩<;>simp<;>omega)|(simp;omega));conv=>whnf)|((with_reducible refine Wr.inr ?_ ?_);(first|omega|(simp;omega));conv=>whnf)|((with_reducible refine AltK.l ?_);(conv=>whnf);(first|(refine CallK.mk _ (hF) ?_));conv=>whnf)|(exfalso;first|omega|contradiction)|fail)
     ·have hts : t = s := by
       cases t; cases s; simp_all
      subst hts
      exact Again.au (i + 1) ⟨by omega, by rw [hst];simp⟩ (by omega) (by refine ⟨?_, ?_, rfl⟩<;>(repeat' (first|exact True.intro|exact rfl|(refine ⟨?_,?_⟩)|(intro h;cases h;done)|((first|refine own_congr ?_|refine int_congr ?_|skip);simp [hnb];done)|fail));done)
     all_goals
      rw [if_pos (cfl_yes hs hf (by rintro rfl; simp_all))]
      rfl
   all_goals
    have ei : i = b.length := by omega
    subst ei
    rw [List.take_length] at hc hjl
    rw [hc, if_neg (by decide)]
    rw [List.take_length] at hnl
    have hjl2 : (a ++ newB a b).length = a.length + (newB a b).length := List.length_append
    have eb : b.take b.length = b := List.take_length
    have hjl3 : ((a ++ newB a (b.take b.length)).map sgD).length = (a ++ newB a b).length := by rw [List.take_length, List.length_map]
   ·rw [if_pos (by omega)]; rfl
   ·have hju : NoTwo (a ++ newB a b) := joined_two hau hbu
    rw [if_neg (by omega)]
    have hJl : (a ++ newB a b).length ≤ 500 := by omega
    rw [eb]
    generalize hJ : a ++ newB a b = J at *
    have em : (J.map sgD).length = J.length := List.length_map _
    refine LoopK.o2 (fun i : Nat => i ≤ J.length) (fun i => [(11, .own 201 1 (((J.take i).map Sg.n).map iD).length), (12, .d (.int .i64 i))]) (fun i => [(200, .row 40 5 (J.map sgD) false), (201, .row 3 1 (((J.take i).map Sg.n).map iD) false)]) (fun i => J.length - i) 0 (by simp) (by refine ⟨?_, ?_, rfl⟩<;>(repeat' (first|exact True.intro|exact rfl|(refine ⟨?_,?_⟩)|(intro h;cases h;done)|fail));done) ?_
    rintro i hi
    have hnx : (i : Int) < J.length → ∃ m, J[i]? = some m := fun h => some_of_lt (by omega)
    have en : (((J.take i).map Sg.n).map iD).length = i := by simp; omega
    conv => whnf
    repeat' (first|((with_reducible refine Split.dec (fun _=>?_) (fun _=>?_))<;>conv=>whnf)|((with_reducible refine Need.mk ?_ ?_);(first|omega|rfl|decide|(refine ⟨?_,?_⟩<;>simp<;>omega)|(simp;omega));conv=>whnf)|fail)
    ·obtain ⟨s, hs⟩ := hnx (by omega)
     have hst : J.take (i + 1) = J.take i ++ [s] := take_snoc hs
     conv => whnf
     repeat' (first|((refine PickE.map i hs (by omega) ?_);conv=>whnf)|((with_reducible refine Need.mk ?_ ?_);(first|omega|rfl|decide|(refine ⟨?_,?_⟩<;>simp<;>omega)|(simp;omega));conv=>whnf)|((with_reducible refine Wr.inr ?_ ?_);(first|omega|(simp;omega));conv=>whnf)|fail)
     exact Again.au (i + 1) (by omega) (by omega) (by refine ⟨?_, ?_, rfl⟩<;>(repeat' (first|exact True.intro|exact rfl|(refine ⟨?_,?_⟩)|(intro h;cases h;done)|((first|refine own_congr ?_|refine int_congr ?_|skip);simp [hst];done)|fail));done)
    ·have ei : i = J.length := by omega
     subst ei
     have hS : sortZ ((J.take J.length).map Sg.n) = (sortL cfNum J).map Sg.n := by
      rw [List.take_length]
      refine (sortZ_eq ((sortL_perm cfNum J).map Sg.n) ?_).symm
      rw [List.pairwise_map]
      exact (sortL_sorted swoNum J).imp fun {x y} h => by rw [cfNum_lt] at h; omega
     have hR := ev_rising ((J.take J.length).map Sg.n) (by simp; omega)
     rw [hS] at hR
     have hSl := sortL_len cfNum J
     have hSp := sortL_perm cfNum J
     generalize sortL cfNum J = S at *
     have eS : ((S.map Sg.n).map iD).length = S.length := by simp
     conv => whnf
     repeat' (first|((with_reducible refine AltK.l ?_);(conv=>whnf);(first|(refine CallK.mk _ (hR) ?_));conv=>whnf)|fail)
     refine LoopK.o2 (fun i : Nat => i ≤ S.length) (fun i => [(13, .own 202 5 ((S.take i).map sgD).length), (14, .d (.int .i64 i))]) (fun i => [(200, .row 40 5 (J.map sgD) true), (202, .row 40 5 ((S.take i).map sgD) false)]) (fun i => S.length - i) 0 (by simp) (by refine ⟨?_, ?_, rfl⟩<;>(repeat' (first|exact True.intro|exact rfl|(refine ⟨?_,?_⟩)|(intro h;cases h;done)|(intro h;exact h)|fail));done) ?_
     rintro i hi
     have hnx : (i : Int) < S.length → ∃ m, S[i]? = some m := fun h => some_of_lt (by omega)
     have en : ((S.take i).map sgD).length = i := by simp; omega
     conv => whnf
     repeat' (first|((with_reducible refine Split.dec (fun _=>?_) (fun _=>?_))<;>conv=>whnf)|((with_reducible refine Need.mk ?_ ?_);(first|omega|rfl|decide|(refine ⟨?_,?_⟩<;>simp<;>omega)|(simp;omega));conv=>whnf)|fail)
     ·obtain ⟨s, hs⟩ := hnx (by omega)
      have hsn : ((S.map Sg.n))[i]? = some s.n := by simp [hs]
      have hsm : s ∈ J := hSp.mem_iff.1 (List.mem_of_getElem? hs)
      obtain ⟨j, t, hj, ht, htn⟩ := find_some (l := J) (n := s.n) (by
       intro h
       have := List.any_eq_false.1 h s hsm
       simp at this)
      have hts : t = s := noTwo_eq hju t (List.mem_of_getElem? ht) s hsm htn
      subst hts
      have hF := ev_Find J t.n (by omega)
      rw [hj] at hF
      have ej : ((j : Int)).toNat = j := Int.toNat_natCast j
      have hjl := (List.getElem?_eq_some_iff.1 ht).1
      have hst : S.take (i + 1) = S.take i ++ [t] := take_snoc hs
      conv => whnf
      repeat' (first|((refine PickE.map j ht (by omega) ?_);conv=>whnf)|((refine PickE.map i hsn (by omega) ?_);conv=>whnf)|((with_reducible refine Need.mk ?_ ?_);(first|omega|rfl|decide|(refine ⟨?_,?_⟩<;>simp<;>omega)|(simp;omega));conv=>whnf)|((with_reducible refine Wr.inr ?_ ?_);(first|omega|(simp;omega));conv=>whnf)|((with_reducible refine AltK.l ?_);(conv=>whnf);(first|(refine CallK.mk _ (hF) ?_));conv=>whnf)|fail)
      exact Again.au (i + 1) (by omega) (by omega) (by refine ⟨?_, ?_, rfl⟩<;>(repeat' (first|exact True.intro|exact rfl|(refine ⟨?_,?_⟩)|(intro h;cases h;done)|(intro h;exact h)|((first|refine own_congr ?_|refine int_congr ?_|skip);simp [hst,sgD];done)|(simp [D.cells,hst,sgD];done)|fail));done)
     ·rw [List.take_of_length_le (show S.length ≤ i by omega)]
      rfl
  ·rw [if_pos c1]
   rw [c0] at h1
   refine ev_of_awp tysOk mixed (fn := Tryz.f10) Tryz.func10 rfl rfl rfl ?_
   conv => whnf
   repeat' (first|((with_reducible refine Split.is_false ?_ ?_);decide;conv=>whnf)|((with_reducible refine Split.nez (fun _=>?_) (fun _=>?_))<;>conv=>whnf)|((with_reducible refine Need.mk ?_ ?_);(first|omega|rfl|decide|(refine ⟨?_,?_⟩<;>simp<;>omega)|(simp;omega));conv=>whnf)|((with_reducible refine AltK.l ?_);(conv=>whnf);(first|(refine CallK.mk _ (h1) ?_)|(refine CallK.mk _ (h2) ?_));conv=>whnf)|(exfalso;first|omega|contradiction)|fail)
   all_goals simp_all [retOf, sgsE, iD]
 ·rw [mergeRes, if_pos c0]
  refine ev_of_awp tysOk mixed (fn := Tryz.f10) Tryz.func10 rfl rfl rfl ?_
  conv => whnf
  repeat' (first|((with_reducible refine Split.nez (fun _=>?_) (fun _=>?_))<;>conv=>whnf)|((with_reducible refine AltK.l ?_);(conv=>whnf);(first|(refine CallK.mk _ (h1) ?_));conv=>whnf)|(exfalso;first|omega|contradiction)|fail)
  all_goals simp_all [retOf, sgsE, iD]
end Go.Proofs.Tryz
end

section
namespace Go.Proofs.Tryz
open Go Go.Vm Go.Sort
set_option maxRecDepth 20000
set_option maxHeartbeats 4000000
def shS (y : Int) (s : Sg) : Sg := ⟨s.n, s.x, s.y, s.lo + y, s.hi + y⟩
def shO (y : Int) (l : List Sg) : List Sg := l.map (shS y)
theorem shO_snoc {y : Int} {l : List Sg} {i : Nat} {s : Sg} (h : l[i]? = some s) : shO y (l.take (i + 1)) = shO y (l.take i) ++ [shS y s] := by
 rw [shO, take_snoc h, List.map_append]; rfl
theorem shO_len (y : Int) (l : List Sg) : (shO y l).length = l.length := List.length_map _
def badS (y : Int) (s : Sg) : Bool := outsideB y (-200000) 200000 || !sgB (shS y s)
def shRes (l : List Sg) (y : Int) : List Sg × Int := if chkErr sgB Sg.n l ≠ 0 then ([], chkErr sgB Sg.n l) else if l.any (badS y) = true then ([], 2) else (l.map (shS y), 0)
def shL (y : Int) (l : List Sg) (i : Nat) : List Sg := (l.take i).map (shS y) ++ l.drop i
theorem shL_len (y : Int) (l : List Sg) (i : Nat) : (shL y l i).length = l.length := by
 simp only [shL, List.length_append, List.length_map, List.length_take, List.length_drop]; omega
theorem shL_at {y : Int} {l : List Sg} {i : Nat} {s : Sg} (h : l[i]? = some s) : (shL y l i)[i]? = some s := by
 have hi := (List.getElem?_eq_some_iff.1 h).1
 rw [shL, List.getElem?_append_right (by simp; omega)]
 simp only [List.length_map, List.length_take, List.getElem?_drop]
 rw [Nat.min_eq_left (by omega), Nat.sub_self, Nat.add_zero]; exact h
theorem shL_set {y : Int} {l : List Sg} {i : Nat} {s : Sg} (h : l[i]? = some s) : (shL y l i).set i (shS y s) = shL y l (i + 1) := by
 have hi := (List.getElem?_eq_some_iff.1 h).1
 rw [shL, List.set_append_right _ _ (by simp; omega), shL, take_snoc h, drop_of h]
 simp only [List.length_map, List.length_take, Nat.min_eq_left (Nat.le_of_lt hi), Nat.sub_self, List.set_cons_zero, List.map_append, List.map_cons, List.map_nil, List.append_assoc, List.singleton_append]
theorem sg_lv {s : Sg} (h : sgB s = true) : -100000 ≤ s.lo ∧ s.lo ≤ s.hi ∧ s.hi ≤ 100000 := by
 simp only [sgB, Bool.and_eq_true, decide_eq_true_eq] at h
 omega
theorem out_iff {n lo hi : Int} : outsideB n lo hi = false ↔ lo ≤ n ∧ n ≤ hi := by
 simp only [outsideB, Bool.or_eq_false_iff, decide_eq_false_iff_not]; omega
theorem PickE.setI {es : List D} {i : Nat} {z : D} {k : D → Prop} (hi : i < es.length) {n n' : Nat} (e : n = i) (e' : n' = i) (r : k z) : PickE (es.set n' z) n k := by
 subst e; subst e'
 exact ⟨z, List.getElem?_set_self hi, r⟩
theorem ev_Shift (l : List Sg) (y : Int) : Ev Tryz.prog 11 [.sl 5 (l.map sgD), iD y] (sgsE (shRes l y)) := by
 have hlen : (l.map sgD).length = l.length := List.length_map _
 have h1 := ev_CheckS l
 by_cases c0 : chkErr sgB Sg.n l = 0
 ·rw [shRes, if_neg (by simpa using c0)]
  rw [c0] at h1
  obtain ⟨hl5, hall, hu⟩ := chk_zero c0
  by_cases hn : l = []
  ·subst hn
   refine ev_of_awp tysOk mixed (fn := Tryz.f11) Tryz.func11 rfl rfl rfl ?_
   conv => whnf
   repeat' (first|((with_reducible refine Split.is_false ?_ ?_);decide;conv=>whnf)|((with_reducible refine AltK.l ?_);(conv=>whnf);(first|(refine CallK.mk _ (h1) ?_)|(refine CallK.mk _ (ev_cloneS [] (by simp)) ?_));conv=>whnf)|fail)
   refine LoopK.unr 1 ?_
   conv => whnf
   repeat' (first|((with_reducible refine Split.is_false ?_ ?_);decide;conv=>whnf)|fail)
   rfl
  ·have h3 := EvX.new1 (xs := [.sl 5 (l.map sgD)]) (xv_cloneS l (by have := List.length_pos_iff.2 hn; omega)) 15
   refine ev_of_awp tysOk mixed (fn := Tryz.f11) Tryz.func11 rfl rfl rfl ?_
   conv => whnf
   repeat' (first|((with_reducible refine Split.is_false ?_ ?_);decide;conv=>whnf)|((with_reducible refine AltK.r ?_);(conv=>whnf);(first|(refine CallX.mk _ _ (h3) rfl ?_));conv=>whnf)|((with_reducible refine AltK.l ?_);(conv=>whnf);(first|(refine CallK.mk _ (h1) ?_));conv=>whnf)|fail)
   refine LoopK.o2 (fun i : Nat => i ≤ l.length ∧ ((l.take i).any (badS y)) = false) (fun i => [(18, .d (.int .i64 i))]) (fun i => [(15, .row 40 5 ((shL y l i).map sgD) false)]) (fun i => l.length - i) 0 ⟨by simp, rfl⟩ (by refine ⟨?_, ?_, rfl⟩<;>(repeat' (first|exact True.intro|exact rfl|(refine ⟨?_,?_⟩)|(intro h;cases h;done)|fail));done) ?_
   rintro i ⟨hi, hc⟩
   have hnx : (i : Int) < l.length → ∃ m, l[i]? = some m := fun h => some_of_lt (by omega)
   have h4 := ev_w1 y (-200000) 200000
   have hsl : ((shL y l i).map sgD).length = l.length := by rw [List.length_map, shL_len]
   cases hy : outsideB y (-200000) 200000 with
   | true =>
    rw [hy] at h4
    by_cases hil : i < l.length
    ·obtain ⟨s, hs⟩ := some_of_lt hil
     conv => whnf
     repeat' (first|((with_reducible refine Split.of_true ?_);conv=>whnf)|(with_reducible refine Split.neg ?_)|((with_reducible refine Split.dec (fun _=>?_) (fun _=>?_))<;>conv=>whnf)|((with_reducible refine AltK.l ?_);(conv=>whnf);(first|(refine CallK.mk _ (h4) ?_));conv=>whnf)|(exfalso;first|omega|contradiction)|fail)
     rw [if_pos (any_at hs (by rw [badS, hy]; rfl))]
     rfl
    ·have ei : i = l.length := by omega
     subst ei
     conv => whnf
     repeat' (first|((with_reducible refine Split.of_true ?_);conv=>whnf)|(with_reducible refine Split.neg ?_)|((with_reducible refine Split.dec (fun _=>?_) (fun _=>?_))<;>conv=>whnf)|((with_reducible refine AltK.l ?_);(conv=>whnf);(first|(refine CallK.mk _ (h4) ?_));conv=>whnf)|(exfalso;first|omega|contradiction)|fail)
     rw [if_neg (by rw [List.take_length] at hc; rw [hc]; decide), shL, List.take_length, List.drop_length, List.append_nil]
     rfl
   | false =>
    rw [hy] at h4
    have hyb := out_iff.1 hy
    conv => whnf
    repeat' (first|((with_reducible refine Split.of_false ?_);conv=>whnf)|(with_reducible refine Split.neg ?_)|((with_reducible refine Split.dec (fun _=>?_) (fun _=>?_))<;>conv=>whnf)|((with_reducible refine Need.mk ?_ ?_);(first|omega|rfl|decide|(refine ⟨?_,?_⟩<;>simp<;>omega)|(simp;omega));conv=>whnf)|((with_reducible refine AltK.l ?_);(conv=>whnf);(first|(refine CallK.mk _ (h4) ?_));conv=>whnf)|fail)
    ·obtain ⟨s, hs⟩ := hnx (by omega)
     have hm := shL_at (y := y) hs
     have hlv := sg_lv (hall s (List.mem_of_getElem? hs))
     have hsl2 := shL_len y l i
     have hil2 : i < (shL y l i).length := by rw [hsl2]; omega
     have h5 := ev_valid (shS y s)
     have hst := any_snoc (p := badS y) hs
     rw [hc, Bool.false_or, badS, hy, Bool.false_or] at hst
     have hmp1 : (((shL y l i).map sgD).set i (.agg [iD s.n, iD s.x, iD s.y, iD (s.lo + y), iD s.hi])).set i (.agg [iD s.n, iD s.x, iD s.y, iD (s.lo + y), iD (s.hi + y)]) = (shL y l (i + 1)).map sgD := by
      rw [List.set_set, ← shL_set hs, List.map_set]; rfl
     cases hv : sgB (shS y s) with
     | true =>
      rw [hv] at h5 hst
      conv => whnf
      repeat' (first|((refine PickE.setI (i := i) (by simpa using hil2) (by omega) (by omega) ?_);conv=>whnf)|((refine PickE.map i hm (by omega) ?_);conv=>whnf)|((with_reducible refine Split.of_true ?_);conv=>whnf)|(with_reducible refine Split.neg ?_)|((with_reducible refine Need.mk ?_ ?_);(first|omega|rfl|decide|(refine ⟨?_,?_⟩<;>simp<;>omega)|(simp;omega));conv=>whnf)|((with_reducible refine Wr.inr ?_ ?_);(first|omega|(simp;omega));conv=>whnf)|((with_reducible refine AltK.l ?_);(conv=>whnf);(first|(refine CallK.mk _ (h4) ?_)|(refine CallK.mk _ (h5) ?_));conv=>whnf)|fail)
      exact Again.au (i + 1) ⟨by omega, hst⟩ (by omega) (by refine ⟨?_, ?_, rfl⟩<;>(repeat' (first|exact True.intro|exact rfl|(refine ⟨?_,?_⟩)|(intro h;cases h;done)|exact hmp1|fail));done)
     | false =>
      rw [hv] at h5
      conv => whnf
      repeat' (first|((refine PickE.setI (i := i) (by simpa using hil2) (by omega) (by omega) ?_);conv=>whnf)|((refine PickE.map i hm (by omega) ?_);conv=>whnf)|((with_reducible refine Split.of_false ?_);conv=>whnf)|(with_reducible refine Split.neg ?_)|((with_reducible refine Need.mk ?_ ?_);(first|omega|rfl|decide|(refine ⟨?_,?_⟩<;>simp<;>omega)|(simp;omega));conv=>whnf)|((with_reducible refine Wr.inr ?_ ?_);(first|omega|(simp;omega));conv=>whnf)|((with_reducible refine AltK.l ?_);(conv=>whnf);(first|(refine CallK.mk _ (h4) ?_)|(refine CallK.mk _ (h5) ?_));conv=>whnf)|fail)
      rw [if_pos (any_at hs (by rw [badS, hv]; simp))]
      rfl
    ·have ei : i = l.length := by omega
     subst ei
     rw [if_neg (by rw [List.take_length] at hc; rw [hc]; decide), shL, List.take_length, List.drop_length, List.append_nil]
     rfl
 ·rw [shRes, if_pos c0]
  refine ev_of_awp tysOk mixed (fn := Tryz.f11) Tryz.func11 rfl rfl rfl ?_
  conv => whnf
  repeat' (first|((with_reducible refine Split.nez (fun _=>?_) (fun _=>?_))<;>conv=>whnf)|((with_reducible refine AltK.l ?_);(conv=>whnf);(first|(refine CallK.mk _ (h1) ?_));conv=>whnf)|(exfalso;first|omega|contradiction)|fail)
  all_goals simp_all [retOf, sgsE, iD]
theorem ev_ShiftR (l : List Sg) (y : Int) : Ev Tryz.prog 12 [.sl 5 (l.map sgD), iD y] (sgsE (shRes l y)) := by
 have hlen : (l.map sgD).length = l.length := List.length_map _
 have h1 := ev_CheckSR l
 by_cases c0 : chkErr sgB Sg.n l = 0
 ·rw [shRes, if_neg (by simpa using c0)]
  rw [c0] at h1
  obtain ⟨hl5, hall, hu⟩ := chk_zero c0
  refine ev_of_awp tysOk mixed (fn := Tryz.f12) Tryz.func12 rfl rfl rfl ?_
  conv => whnf
  repeat' (first|((with_reducible refine Split.is_false ?_ ?_);decide;conv=>whnf)|((with_reducible refine AltK.l ?_);(conv=>whnf);(first|(refine CallK.mk _ (h1) ?_));conv=>whnf)|fail)
  refine LoopK.o2 (fun i : Nat => i ≤ l.length ∧ ((l.take i).any (badS y)) = false) (fun i => [(7, .own 200 5 ((shO y (l.take i)).map sgD).length), (8, .d (.int .i64 i))]) (fun i => [(200, .row 40 5 ((shO y (l.take i)).map sgD) false)]) (fun i => l.length - i) 0 ⟨by simp, rfl⟩ (by refine ⟨?_, ?_, rfl⟩<;>(repeat' (first|exact True.intro|exact rfl|(refine ⟨?_,?_⟩)|fail));done) ?_
  rintro i ⟨hi, hc⟩
  have hnx : (i : Int) < l.length → ∃ m, l[i]? = some m := fun h => some_of_lt (by omega)
  have h4 : Ev Tryz.prog 34 [iD y, iD (-200000), iD 200000] (.bool (!outsideB y (-200000) 200000)) := by
   have h := ev_Within y (-200000) 200000
   exact h
  have hsl2 : (shO y (l.take i)).length = i := by
   rw [shO_len, List.length_take]; omega
  have hsl : ((shO y (l.take i)).map sgD).length = i := by
   rw [List.length_map, shO_len, List.length_take]; omega
  cases hy : outsideB y (-200000) 200000 with
  | true =>
   rw [hy] at h4
   conv => whnf
   repeat' (first|((with_reducible refine Split.of_true ?_);conv=>whnf)|(with_reducible refine Split.neg ?_)|((with_reducible refine Split.dec (fun _=>?_) (fun _=>?_))<;>conv=>whnf)|((with_reducible refine AltK.l ?_);(conv=>whnf);(first|(refine CallK.mk _ (h4) ?_));conv=>whnf)|fail)
   ·obtain ⟨s, hs⟩ := hnx (by omega)
    rw [if_pos (any_at hs (by rw [badS, hy]; rfl))]
    rfl
   ·have ei : i = l.length := by omega
    subst ei
    rw [List.take_length] at hc
    rw [hc, if_neg (by decide), List.take_length]
    rfl
  | false =>
   rw [hy] at h4
   have hyb := out_iff.1 hy
   conv => whnf
   repeat' (first|((with_reducible refine Split.of_false ?_);conv=>whnf)|(with_reducible refine Split.neg ?_)|((with_reducible refine Split.dec (fun _=>?_) (fun _=>?_))<;>conv=>whnf)|((with_reducible refine Need.mk ?_ ?_);(first|omega|rfl|decide|(refine ⟨?_,?_⟩<;>simp<;>omega)|(simp;omega));conv=>whnf)|((with_reducible refine AltK.l ?_);(conv=>whnf);(first|(refine CallK.mk _ (h4) ?_));conv=>whnf)|fail)
   ·obtain ⟨s, hs⟩ := hnx (by omega)
    have hlv := sg_lv (hall s (List.mem_of_getElem? hs))
    have h5 := ev_ValidR (shS y s)
    have hst := any_snoc (p := badS y) hs
    rw [hc, Bool.false_or, badS, hy, Bool.false_or] at hst
    have hst2 := shO_snoc (y := y) hs
    cases hv : sgB (shS y s) with
    | true =>
     rw [hv] at h5 hst
     conv => whnf
     repeat' (first|((refine PickE.map i hs (by omega) ?_);conv=>whnf)|((with_reducible refine Split.of_true ?_);conv=>whnf)|(with_reducible refine Split.neg ?_)|((with_reducible refine Need.mk ?_ ?_);(first|omega|rfl|decide|(refine ⟨?_,?_⟩<;>simp<;>omega)|(simp;omega));conv=>whnf)|((with_reducible refine Wr.inr ?_ ?_);(first|omega|(simp;omega));conv=>whnf)|((with_reducible refine AltK.l ?_);(conv=>whnf);(first|(refine CallK.mk _ (h4) ?_)|(refine CallK.mk _ (h5) ?_));conv=>whnf)|fail)
     exact Again.au (i + 1) ⟨by omega, hst⟩ (by omega) (by refine ⟨?_, ?_, rfl⟩<;>(repeat' (first|exact True.intro|exact rfl|(refine ⟨?_,?_⟩)|(intro h;cases h;done)|((first|refine own_congr ?_|refine int_congr ?_|skip);simp [hst2,sgD,shS,iD];done)|fail));done)
    | false =>
     rw [hv] at h5
     conv => whnf
     repeat' (first|((refine PickE.map i hs (by omega) ?_);conv=>whnf)|((with_reducible refine Split.of_false ?_);conv=>whnf)|(with_reducible refine Split.neg ?_)|((with_reducible refine Need.mk ?_ ?_);(first|omega|rfl|decide|(refine ⟨?_,?_⟩<;>simp<;>omega)|(simp;omega));conv=>whnf)|((with_reducible refine Wr.inr ?_ ?_);(first|omega|(simp;omega));conv=>whnf)|((with_reducible refine AltK.l ?_);(conv=>whnf);(first|(refine CallK.mk _ (h4) ?_)|(refine CallK.mk _ (h5) ?_));conv=>whnf)|fail)
     rw [if_pos (any_at hs (by rw [badS, hv]; simp))]
     rfl
   ·have ei : i = l.length := by omega
    subst ei
    rw [List.take_length] at hc
    rw [hc, if_neg (by decide), List.take_length]
    rfl
 ·rw [shRes, if_pos c0]
  refine ev_of_awp tysOk mixed (fn := Tryz.f12) Tryz.func12 rfl rfl rfl ?_
  conv => whnf
  repeat' (first|((with_reducible refine Split.nez (fun _=>?_) (fun _=>?_))<;>conv=>whnf)|((with_reducible refine AltK.l ?_);(conv=>whnf);(first|(refine CallK.mk _ (h1) ?_));conv=>whnf)|(exfalso;first|omega|contradiction)|fail)
  all_goals simp_all [retOf, sgsE, iD]
end Go.Proofs.Tryz
end

section
namespace Go.Proofs.Tryz
open Go Go.Vm Go.Sort
set_option maxRecDepth 20000
set_option maxHeartbeats 4000000
theorem res_len {p : Prop} [Decidable p] {a b : List Sg × Int} {n : Nat} (ha : a.1.length ≤ n) (hb : b.1.length ≤ n) : (if p then a else b).1.length ≤ n := by split <;> assumption
theorem woRes_len (l : List Sg) (k : List Int) : (woRes l k).1.length ≤ l.length :=
 res_len (Nat.zero_le _) (res_len (Nat.zero_le _) (List.length_filter_le _ _))
theorem mergeRes_len (a b : List Sg) : (mergeRes a b).1.length ≤ a.length + b.length :=
 res_len (Nat.zero_le _) (res_len (Nat.zero_le _) (res_len (Nat.zero_le _) (res_len (Nat.zero_le _) (by
  show (sortL cfNum (a ++ newB a b)).length ≤ _
  rw [sortL_len, List.length_append]
  have := newB_len a b
  omega))))
theorem shRes_len (l : List Sg) (y : Int) : (shRes l y).1.length ≤ l.length :=
 res_len (Nat.zero_le _) (res_len (Nat.zero_le _) (by show (l.map (shS y)).length ≤ _; rw [List.length_map]; exact Nat.le_refl _))
theorem long_le {n : Nat} (h : longB n = false) : n ≤ 1000 := by
 unfold longB at h
 simp at h
 omega
theorem ev_SoundingSheets (a b : List Sg) (k : List Int) : Ev Tryz.prog 3 [.sl 5 (a.map sgD), .sl 5 (b.map sgD), .sl 1 (k.map iD)] (.bool true) := by
 have h0 := ev_long a
 have h1 := ev_long b
 have h7 := ev_awake3
 have hlk : (k.map iD).length = k.length := List.length_map _
 cases ha : longB a.length with
 | true =>
  rw [ha] at h0
  refine ev_of_awp tysOk mixed (fn := Tryz.f3) Tryz.func3 rfl rfl rfl ?_
  conv => whnf
  repeat' (first|((with_reducible refine Split.of_true ?_);conv=>whnf)|((with_reducible refine AltK.l ?_);(conv=>whnf);(first|(refine CallK.mk _ (h0) ?_)|(refine CallK.mk _ (h7) ?_));conv=>whnf)|fail)
  rfl
 | false =>
  rw [ha] at h0
  cases hb : longB b.length with
  | true =>
   rw [hb] at h1
   refine ev_of_awp tysOk mixed (fn := Tryz.f3) Tryz.func3 rfl rfl rfl ?_
   conv => whnf
   repeat' (first|((with_reducible first|refine Split.of_true ?_|refine Split.of_false ?_);conv=>whnf)|((with_reducible refine AltK.l ?_);(conv=>whnf);(first|(refine CallK.mk _ (h0) ?_)|(refine CallK.mk _ (h1) ?_)|(refine CallK.mk _ (h7) ?_));conv=>whnf)|fail)
   rfl
  | false =>
   rw [hb] at h1
   by_cases hk : k.length ≤ 30
   ·have hal : a.length ≤ 1000 := long_le ha
    have hbl : b.length ≤ 1000 := long_le hb
    have h2 := ev_Without a k (by omega)
    have h3 := ev_WithoutR a k (by omega)
    have n1 := woRes_len a k
    have s1 := ev_sameE (woRes a k).1 (woRes a k).2 (by omega)
    generalize woRes a k = q1 at *
    obtain ⟨q11, q12⟩ := q1
    have h4 := ev_Merge a b
    have h5 := ev_MergeR a b
    have n2 := mergeRes_len a b
    have s2 := ev_sameE (mergeRes a b).1 (mergeRes a b).2 (by omega)
    generalize mergeRes a b = q2 at *
    obtain ⟨q21, q22⟩ := q2
    have h9 := ev_CheckS a
    have h10 := ev_CheckSR a
    generalize chkErr sgB Sg.n a = ce at *
    cases k with
    | nil =>
     have h6 := ev_Shift a 0
     have h8 := ev_ShiftR a 0
     have n3 := shRes_len a 0
     have s3 := ev_sameE (shRes a 0).1 (shRes a 0).2 (by omega)
     generalize shRes a 0 = q3 at *
     obtain ⟨q31, q32⟩ := q3
     refine ev_of_awp tysOk mixed (fn := Tryz.f3) Tryz.func3 rfl rfl rfl ?_
     conv => whnf
     repeat' (first|((with_reducible first|refine Split.of_true ?_|refine Split.of_false ?_);conv=>whnf)|((with_reducible refine Split.is_false ?_ ?_);decide;conv=>whnf)|((with_reducible refine Split.eqz (fun _=>?_) (fun _=>?_))<;>conv=>whnf)|((with_reducible refine AltK.l ?_);(conv=>whnf);(first|(refine CallK.mk _ (h0) ?_)|(refine CallK.mk _ (h1) ?_)|(refine CallK.mk _ (h7) ?_)|(refine CallK.mk _ (h2) ?_)|(refine CallK.mk _ (h3) ?_)|(refine CallK.mk _ (h4) ?_)|(refine CallK.mk _ (h5) ?_)|(refine CallK.mk _ (h6) ?_)|(refine CallK.mk _ (h8) ?_)|(refine CallK.mk _ (h9) ?_)|(refine CallK.mk _ (h10) ?_)|(refine CallK.mk _ (s1) ?_)|(refine CallK.mk _ (s2) ?_)|(refine CallK.mk _ (s3) ?_));conv=>whnf)|(exfalso;first|omega|contradiction)|fail)
     all_goals rfl
    | cons n k =>
     have hk1 : 0 < (n :: k).length := Nat.succ_pos _
     have h6 := ev_Shift a n
     have h8 := ev_ShiftR a n
     have n3 := shRes_len a n
     have s3 := ev_sameE (shRes a n).1 (shRes a n).2 (by omega)
     generalize shRes a n = q3 at *
     obtain ⟨q31, q32⟩ := q3
     refine ev_of_awp tysOk mixed (fn := Tryz.f3) Tryz.func3 rfl rfl rfl ?_
     conv => whnf
     repeat' (first|((refine PickE.mk _ rfl ?_);conv=>whnf)|((with_reducible first|refine Split.of_true ?_|refine Split.of_false ?_);conv=>whnf)|((with_reducible refine Split.eqz (fun _=>?_) (fun _=>?_))<;>conv=>whnf)|((with_reducible refine Split.dec (fun _=>?_) (fun _=>?_))<;>conv=>whnf)|((with_reducible refine Need.mk ?_ ?_);(first|omega|rfl|decide|(refine ⟨?_,?_⟩<;>simp<;>omega)|(simp;omega));conv=>whnf)|((with_reducible refine AltK.l ?_);(conv=>whnf);(first|(refine CallK.mk _ (h0) ?_)|(refine CallK.mk _ (h1) ?_)|(refine CallK.mk _ (h7) ?_)|(refine CallK.mk _ (h2) ?_)|(refine CallK.mk _ (h3) ?_)|(refine CallK.mk _ (h4) ?_)|(refine CallK.mk _ (h5) ?_)|(refine CallK.mk _ (h6) ?_)|(refine CallK.mk _ (h8) ?_)|(refine CallK.mk _ (h9) ?_)|(refine CallK.mk _ (h10) ?_)|(refine CallK.mk _ (s1) ?_)|(refine CallK.mk _ (s2) ?_)|(refine CallK.mk _ (s3) ?_));conv=>whnf)|(exfalso;first|omega|contradiction)|fail)
     all_goals rfl
   ·refine ev_of_awp tysOk mixed (fn := Tryz.f3) Tryz.func3 rfl rfl rfl ?_
    conv => whnf
    repeat' (first|((with_reducible refine Split.of_false ?_);conv=>whnf)|((with_reducible refine Split.dec (fun _=>?_) (fun _=>?_))<;>conv=>whnf)|((with_reducible refine Need.mk ?_ ?_);(first|omega|rfl|decide|(refine ⟨?_,?_⟩<;>simp<;>omega)|(simp;omega));conv=>whnf)|((with_reducible refine AltK.l ?_);(conv=>whnf);(first|(refine CallK.mk _ (h0) ?_)|(refine CallK.mk _ (h1) ?_)|(refine CallK.mk _ (h7) ?_));conv=>whnf)|(exfalso;first|omega|contradiction)|fail)
    rfl
end Go.Proofs.Tryz
end
