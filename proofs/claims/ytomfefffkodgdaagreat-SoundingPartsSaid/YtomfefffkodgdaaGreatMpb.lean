/- Texts SeJ SeL, joined; what is not needed is left out. -/
import Derived.Test.YtomfefffkodgdaaGreatMgI
import Derived.Test.YtomfefffkodgdaaGreatMgJ
import Derived.Test.YtomfefffkodgdaaGreatProg
import Derived.Shelf.SlLaysF0
import Derived.Shelf.Lays
import Derived.Test.YtomfefffkodgdaaGreatMgH
import Derived.Test.YtomfefffkodgdaaGreatMpa
section
namespace Go.Proofs.Tryz
open Go Go.Vm Go.Sort
set_option maxRecDepth 20000
set_option maxHeartbeats 4000000
def shS (y : Int) (s : Sg) : Sg := ⟨s.n, s.x, s.y, s.lo + y, s.hi + y⟩
def badS (y : Int) (s : Sg) : Bool := outsideB y (-200000) 200000 || !sgB (shS y s)
def shRes (l : List Sg) (y : Int) : List Sg × Int := if chkErr sgB Sg.n l ≠ 0 then ([], chkErr sgB Sg.n l) else if l.any (badS y) = true then ([], 2) else (l.map (shS y), 0)
def shL (y : Int) (l : List Sg) (i : Nat) : List Sg := (l.take i).map (shS y) ++ l.drop i
theorem shL_len (y : Int) (l : List Sg) (i : Nat) : (shL y l i).length = l.length := by
 simp only [shL, List.length_append, List.length_map, List.length_take, List.length_drop]; omega
theorem shL_at {y : Int} {l : List Sg} {i : Nat} {s : Sg} (h : l[i]? = some s) : (shL y l i)[i]? = some s := by
 have hi := (List.getElem?_eq_some_iff.1 h).1
 rw [shL, List.getElem?_append_right (by simp; omega)]
 simp only [List.length_map, List.length_take, List.getElem?_drop]
 rw [Nat.min_eq_left (by omega), Nat.sub_self, Nat.add_zero]; exact h
theorem shL_set {y : Int} {l : List Sg} {i : Nat} {s : Sg} (h : l[i]? = some s) : (shL y l i).set i (shS y s) = shL y l (i + 1) := by
 have hi := (List.getElem?_eq_some_iff.1 h).1
 rw [shL, List.set_append_right _ _ (by simp; omega), shL, take_snoc h, drop_of h]
 simp only [List.length_map, List.length_take, Nat.min_eq_left (Nat.le_of_lt hi), Nat.sub_self, List.set_cons_zero, List.map_append, List.map_cons, List.map_nil, List.append_assoc, List.singleton_append]
theorem sg_lv {s : Sg} (h : sgB s = true) : -100000 ≤ s.lo ∧ s.lo ≤ s.hi ∧ s.hi ≤ 100000 := by
 simp only [sgB, Bool.and_eq_true, decide_eq_true_eq] at h
 omega
theorem out_iff {n lo hi : Int} : outsideB n lo hi = false ↔ lo ≤ n ∧ n ≤ hi := by
 simp only [outsideB, Bool.or_eq_false_iff, decide_eq_false_iff_not]; omega
theorem PickE.setI {es : List D} {i : Nat} {z : D} {k : D → Prop} (hi : i < es.length) {n n' : Nat} (e : n = i) (e' : n' = i) (r : k z) : PickE (es.set n' z) n k := by
 subst e; subst e'
 exact ⟨z, List.getElem?_set_self hi, r⟩
theorem ev_Shift (l : List Sg) (y : Int) : Ev Tryz.prog 11 [.sl 5 (l.map sgD), iD y] (sgsE (shRes l y)) := by
 have hlen : (l.map sgD).length = l.length := List.length_map _
 have h1 := ev_CheckS l
 by_cases c0 : chkErr sgB Sg.n l = 0
 ·rw [shRes, if_neg (by simpa using c0)]
  rw [c0] at h1
  obtain ⟨hl5, hall, hu⟩ := chk_zero c0
  by_cases hn : l = []
  ·subst hn
   refine ev_of_awp tysOk mixed (fn := Tryz.f11) Tryz.func11 rfl rfl rfl ?_
   conv => whnf
   repeat' (first|((with_reducible refine Split.is_false ?_ ?_);decide;conv=>whnf)|((with_reducible refine AltK.l ?_);(conv=>whnf);(first|(refine CallK.mk _ (h1) ?_)|(refine CallK.mk _ (ev_cloneS [] (by simp)) ?_));conv=>whnf)|fail)
   refine LoopK.unr 1 ?_
   conv => whnf
   repeat' (first|((with_reducible refine Split.is_false ?_ ?_);decide;conv=>whnf)|fail)
   rfl
  ·have h3 := EvX.new1 (xs := [.sl 5 (l.map sgD)]) (xv_cloneS l (by have := List.length_pos_iff.2 hn; omega)) 15
   refine ev_of_awp tysOk mixed (fn := Tryz.f11) Tryz.func11 rfl rfl rfl ?_
   conv => whnf
   repeat' (first|((with_reducible refine Split.is_false ?_ ?_);decide;conv=>whnf)|((with_reducible refine AltK.r ?_);(conv=>whnf);(first|(refine CallX.mk _ _ (h3) rfl ?_));conv=>whnf)|((with_reducible refine AltK.l ?_);(conv=>whnf);(first|(refine CallK.mk _ (h1) ?_));conv=>whnf)|fail)
   refine LoopK.o2 (fun i : Nat => i ≤ l.length ∧ ((l.take i).any (badS y)) = false) (fun i => [(18, .d (.int .i64 i))]) (fun i => [(15, .row 40 5 ((shL y l i).map sgD) false)]) (fun i => l.length - i) 0 ⟨by simp, rfl⟩ (by refine ⟨?_, ?_, rfl⟩<;>(repeat' (first|exact True.intro|exact rfl|(refine ⟨?_,?_⟩)|(intro h;cases h;done)|fail));done) ?_
   rintro i ⟨hi, hc⟩
   have hnx : (i : Int) < l.length → ∃ m, l[i]? = some m := fun h => some_of_lt (by omega)
   have h4 := ev_w1 y (-200000) 200000
   have hsl : ((shL y l i).map sgD).length = l.length := by rw [List.length_map, shL_len]
   cases hy : outsideB y (-200000) 200000 with
   | true =>
    rw [hy] at h4
    by_cases hil : i < l.length
    ·obtain ⟨s, hs⟩ := some_of_lt hil
     conv => whnf
     repeat' (first|((with_reducible refine Split.of_true ?_);conv=>whnf)|(with_reducible refine Split.neg ?_)|((with_reducible refine Split.dec (fun _=>?_) (fun _=>?_))<;>conv=>whnf)|((with_reducible refine AltK.l ?_);(conv=>whnf);(first|(refine CallK.mk _ (h4) ?_));conv=>whnf)|(exfalso;first|omega|contradiction)|fail)
     rw [if_pos (any_at hs (by rw [badS, hy]; rfl))]
     rfl
    ·have ei : i = l.length := by omega
     subst ei
     conv => whnf
     repeat' (first|((with_reducible refine Split.of_true ?_);conv=>whnf)|(with_reducible refine Split.neg ?_)|((with_reducible refine Split.dec (fun _=>?_) (fun _=>?_))<;>conv=>whnf)|((with_reducible refine AltK.l ?_);(conv=>whnf);(first|(refine CallK.mk _ (h4) ?_));conv=>whnf)|(exfalso;first|omega|contradiction)|fail)
     rw [if_neg (by rw [List.take_length] at hc; rw [hc]; decide), shL, List.take_length, List.drop_length, List.append_nil]
     rfl
   | false =>
    rw [hy] at h4
    have hyb := out_iff.1 hy
    conv => whnf
    repeat' (first|((with_reducible refine Split.of_false ?_);conv=>whnf)|(with_reducible refine Split.neg ?_)|((with_reducible refine Split.dec (fun _=>?_) (fun _=>?_))<;>conv=>whnf)|((with_reducible refine Need.mk ?_ ?_);(first|omega|rfl|decide|(refine ⟨?_,?_⟩<;>simp<;>omega)|(simp;omega));conv=>whnf)|((with_reducible refine AltK.l ?_);(conv=>whnf);(first|(refine CallK.mk _ (h4) ?_));conv=>whnf)|fail)
    ·obtain ⟨s, hs⟩ := hnx (by omega)
     have hm := shL_at (y := y) hs
     have hlv := sg_lv (hall s (List.mem_of_getElem? hs))
     have hsl2 := shL_len y l i
     have hil2 : i < (shL y l i).length := by rw [hsl2]; omega
     have h5 := ev_valid (shS y s)
     have hst := any_snoc (p := badS y) hs
     rw [hc, Bool.false_or, badS, hy, Bool.false_or] at hst
     have hmp1 : (((shL y l i).map sgD).set i (.agg [iD s.n, iD s.x, iD s.y, iD (s.lo + y), iD s.hi])).set i (.agg [iD s.n, iD s.x, iD s.y, iD (s.lo + y), iD (s.hi + y)]) = (shL y l (i + 1)).map sgD := by
      rw [List.set_set, ← shL_set hs, List.map_set]; rfl
     cases hv : sgB (shS y s) with
     | true =>
      rw [hv] at h5 hst
      conv => whnf
      repeat' (first|((refine PickE.setI (i := i) (by simpa using hil2) (by omega) (by omega) ?_);conv=>whnf)|((refine PickE.map i hm (by omega) ?_);conv=>whnf)|((with_reducible refine Split.of_true ?_);conv=>whnf)|(with_reducible refine Split.neg ?_)|((with_reducible refine Need.mk ?_ ?_);(first|omega|rfl|decide|(refine ⟨?_,?_⟩<;>simp<;>omega)|(simp;omega));conv=>whnf)|((with_reducible refine Wr.inr ?_ ?_);(first|omega|(simp;omega));conv=>whnf)|((with_reducible refine AltK.l ?_);(conv=>whnf);(first|(refine CallK.mk _ (h4) ?_)|(refine CallK.mk _ (h5) ?_));conv=>whnf)|fail)
      exact Again.au (i + 1) ⟨by omega, hst⟩ (by omega) (by refine ⟨?_, ?_, rfl⟩<;>(repeat' (first|exact True.intro|exact rfl|(refine ⟨?_,?_⟩)|(intro h;cases h;done)|exact hmp1|fail));done)
     | false =>
      rw [hv] at h5
      conv => whnf
      repeat' (first|((refine PickE.setI (i := i) (by simpa using hil2) (by omega) (by omega) ?_);conv=>whnf)|((refine PickE.map i hm (by omega) ?_);conv=>whnf)|((with_reducible refine Split.of_false ?_);conv=>whnf)|(with_reducible refine Split.neg ?_)|((with_reducible refine Need.mk ?_ ?_);(first|omega|rfl|decide|(refine ⟨?_,?_⟩<;>simp<;>omega)|(simp;omega));conv=>whnf)|((with_reducible refine Wr.inr ?_ ?_);(first|omega|(simp;omega));conv=>whnf)|((with_reducible refine AltK.l ?_);(conv=>whnf);(first|(refine CallK.mk _ (h4) ?_)|(refine CallK.mk _ (h5) ?_));conv=>whnf)|fail)
      rw [if_pos (any_at hs (by rw [badS, hv]; simp))]
      rfl
    ·have ei : i = l.length := by omega
     subst ei
     rw [if_neg (by rw [List.take_length] at hc; rw [hc]; decide), shL, List.take_length, List.drop_length, List.append_nil]
     rfl
 ·rw [shRes, if_pos c0]
  refine ev_of_awp tysOk mixed (fn := Tryz.f11) Tryz.func11 rfl rfl rfl ?_
  conv => whnf
  repeat' (first|((with_reducible refine Split.nez (fun _=>?_) (fun _=>?_))<;>conv=>whnf)|((with_reducible refine AltK.l ?_);(conv=>whnf);(first|(refine CallK.mk _ (h1) ?_));conv=>whnf)|(exfalso;first|omega|contradiction)|fail)
  all_goals simp_all [retOf, sgsE, iD]
end Go.Proofs.Tryz
end

section
namespace Go.Proofs.Tryz
open Go Go.Vm Go.Sort
set_option maxRecDepth 20000
set_option maxHeartbeats 4000000
theorem ShOk.perm {l m : List Sg} (h : ShOk l) (hp : m.Perm l) : ShOk m :=
 ⟨by rw [hp.length_eq]; exact h.len, fun x hx => h.all x (hp.mem_iff.1 hx), noTwo_perm hp.symm h.two⟩
theorem cfl_none {a b : List Sg} (h : ∀ s ∈ b, ∀ t ∈ a, t.n ≠ s.n) : cfl a b = false := by
 rw [cfl, List.any_eq_false]
 intro s hs
 have : (a.find? fun t => t.n == s.n) = none := by
  rw [List.find?_eq_none]; intro t ht; simpa using h s hs t ht
 rw [this]; simp
theorem newB_all {a b : List Sg} (h : ∀ s ∈ b, ∀ t ∈ a, t.n ≠ s.n) : newB a b = b := by
 rw [newB, List.filter_eq_self]
 intro s hs
 rw [hasN_no.2 (h s hs)]; rfl
theorem merge_apart {a b S : List Sg} (ha : ShOk a) (hb : ShOk b) (h : ∀ s ∈ b, ∀ t ∈ a, t.n ≠ s.n) (hp : (a ++ b).Perm S) (hS : ShOk S) (hs : S.Pairwise fun x y => cfNum x y < 0) : mergeRes a b = (S, 0) := by
 rw [mergeRes, if_neg (by simpa using ha.chk), if_neg (by simpa using hb.chk), cfl_none h, if_neg (by decide), newB_all h, if_neg (by rw [hp.length_eq]; have := hS.len; omega), ← sortL_eq swoNum hp.symm hs]
theorem sorted_num {l : List Sg} (hu : NoTwo l) : (sortL cfNum l).Pairwise fun x y => cfNum x y < 0 :=
 sortL_strict swoNum (noTwo_nodup hu) fun x hx y hy k1 k2 => noTwo_eq hu x hx y hy (by rw [cfNum_lt] at k1 k2; omega)
theorem merge_nil {l : List Sg} (h : ShOk l) : mergeRes l [] = (sortL cfNum l, 0) := by
 refine merge_apart h ⟨Nat.zero_le _, (fun _ h => by cases h), List.Pairwise.nil⟩ (fun _ h => by cases h) ?_ (h.perm (sortL_perm cfNum l)) (sorted_num h.two)
 rw [List.append_nil]; exact (sortL_perm cfNum l).symm
theorem wo_ok {l : List Sg} {k : List Int} (h : ShOk l) (hk : (k.any fun n => !hasN l n) = false) : woRes l k = (l.filter fun s => !inK k s, 0) := by
 rw [woRes, if_neg (by simpa using h.chk), hk, if_neg (by decide)]
theorem wo_zero {l : List Sg} {k : List Int} (h : ShOk l) (h0 : (woRes l k).2 = 0) : (k.any fun n => !hasN l n) = false := by
 rw [woRes, if_neg (by simpa using h.chk)] at h0
 cases hk : k.any fun n => !hasN l n with
 | false => rfl
 | true => rw [hk, if_pos rfl] at h0; cases h0
theorem inK_some {l : List Sg} (hu : NoTwo l) {p : Sg → Bool} {s : Sg} (hs : s ∈ l) : inK ((l.filter p).map Sg.n) s = p s := by
 rw [Bool.eq_iff_iff, inK, List.any_eq_true]
 constructor
 ·rintro ⟨c, hc, e⟩
  obtain ⟨t, ht, rfl⟩ := List.mem_map.1 hc
  have ht := List.mem_filter.1 ht
  rw [noTwo_eq hu s hs t ht.1 (by simpa using Eq.symm (by simpa using e))]
  exact ht.2
 ·intro h
  exact ⟨s.n, List.mem_map.2 ⟨s, List.mem_filter.2 ⟨hs, h⟩, rfl⟩, by simp⟩
theorem rest_has {l : List Sg} {p : Sg → Bool} : (((l.filter p).map Sg.n).any fun n => !hasN l n) = false := by
 rw [List.any_eq_false]
 intro n hn
 obtain ⟨t, ht, rfl⟩ := List.mem_map.1 hn
 rw [hasN_iff.2 ⟨t, (List.mem_filter.1 ht).1, rfl⟩]; decide
theorem others_eq {l : List Sg} (hu : NoTwo l) (p : Sg → Bool) : (l.filter fun s => !inK ((l.filter p).map Sg.n) s) = l.filter fun s => !p s :=
 List.filter_congr fun s hs => by rw [inK_some hu hs]
theorem apart_parts {l : List Sg} (hu : NoTwo l) {p q : Sg → Bool} (h : ∀ s, p s = true → q s = true → False) : ∀ s ∈ l.filter q, ∀ t ∈ l.filter p, t.n ≠ s.n := by
 intro s hs t ht e
 have h1 := List.mem_filter.1 hs
 have h2 := List.mem_filter.1 ht
 have := noTwo_eq hu t h2.1 s h1.1 e
 subst this
 exact h t h2.2 h1.2
theorem filter_two (p : Sg → Bool) (l : List Sg) : (l.filter p ++ l.filter fun s => !p s).Perm l := List.filter_append_perm p l
theorem shS_back {y : Int} {s : Sg} : shS (-y) (shS y s) = s := by
 cases s
 simp only [shS, Sg.mk.injEq, true_and]
 omega
theorem sh_ok {l : List Sg} {y : Int} (h : ShOk l) : (shRes l y).2 = 0 ∧ (shRes l y).1 = l.map (shS y) ∧ l.any (badS y) = false ∨ (shRes l y).2 = 2 := by
 rw [shRes, if_neg (by simpa using h.chk)]
 cases hb : l.any (badS y) with
 | true => exact .inr rfl
 | false => exact .inl ⟨rfl, rfl, rfl⟩
theorem sh_there {l : List Sg} {y : Int} (h : ShOk l) (hb : l.any (badS y) = false) : ShOk (l.map (shS y)) := by
 refine ⟨by rw [List.length_map]; exact h.len, fun x hx => ?_, ?_⟩
 ·obtain ⟨s, hs, rfl⟩ := List.mem_map.1 hx
  have := List.any_eq_false.1 hb s hs
  simp only [badS, Bool.or_eq_true, not_or, Bool.not_eq_true, Bool.not_eq_false'] at this
  exact this.2
 ·exact List.pairwise_map.2 h.two
theorem sh_return {l : List Sg} {y : Int} (h : ShOk l) (hb : l.any (badS y) = false) : shRes (l.map (shS y)) (-y) = (l, 0) := by
 have e : (l.map (shS y)).map (shS (-y)) = l := by
  rw [List.map_map]
  conv => rhs; rw [← List.map_id l]
  exact List.map_congr_left fun s _ => shS_back
 have hb2 : (l.map (shS y)).any (badS (-y)) = false := by
  rw [List.any_eq_false]
  intro x hx
  obtain ⟨s, hs, rfl⟩ := List.mem_map.1 hx
  have h1 := List.any_eq_false.1 hb s hs
  simp only [badS, Bool.or_eq_true, not_or, Bool.not_eq_true, Bool.not_eq_false'] at h1
  have h2 : outsideB (-y) (-200000) 200000 = false := by
   have := out_iff.1 h1.1
   exact out_iff.2 (by omega)
  rw [badS, h2, shS_back, h.all s hs]; decide
 rw [shRes, if_neg (by simpa using (sh_there h hb).chk), hb2, if_neg (by decide), e]
theorem shift_two {l : List Sg} {y : Int} (h : ShOk l) : (∃ m : List Sg, Ev Tryz.prog 11 [.sl 5 (l.map sgD), iD y] (.tup [.sl 5 (m.map sgD), .int .i64 2])) ∨
 ∃ (m : List Sg) (z : Int), IntKind.i64.wrap (0 - y) = z ∧ Ev Tryz.prog 11 [.sl 5 (l.map sgD), iD y] (.tup [.sl 5 (m.map sgD), .int .i64 0]) ∧ Ev Tryz.prog 11 [.sl 5 (m.map sgD), iD z] (.tup [.sl 5 (l.map sgD), .int .i64 0]) := by
 have h1 := ev_Shift l y
 rcases sh_ok (y := y) h with ⟨e1, e2, hb⟩ | e
 ·refine .inr ⟨l.map (shS y), _, rfl, ?_, ?_⟩
  ·rw [sgsE, e1, e2] at h1; exact h1
  ·by_cases hl : l = []
   ·subst hl
    exact ev_Shift [] _
   ·obtain ⟨s, r, rfl⟩ := List.exists_cons_of_ne_nil hl
    have hy := List.any_eq_false.1 hb s (by simp)
    simp only [badS, Bool.or_eq_true, not_or, Bool.not_eq_true, Bool.not_eq_false'] at hy
    have := out_iff.1 hy.1
    rw [Int.zero_sub, wrap_in (by omega)]
    have h2 := ev_Shift ((s :: r).map (shS y)) (-y)
    rw [sh_return h hb] at h2
    exact h2
 ·exact .inl ⟨(shRes l y).1, by rw [sgsE, e] at h1; exact h1⟩
theorem ev_SoundingParts (l : List Sg) (k : List Int) (y : Int) : Ev Tryz.prog 4 [.sl 5 (l.map sgD), .sl 1 (k.map iD), iD y] (.bool true) := by
 have h0 := ev_long l
 have h1 := ev_CheckSR l
 have h7 := ev_awake3
 have hlk : (k.map iD).length = k.length := List.length_map _
 have hll : (l.map sgD).length = l.length := List.length_map _
 cases hl : longB l.length with
 | true =>
  rw [hl] at h0
  refine ev_of_awp tysOk mixed (fn := Tryz.f4) Tryz.func4 rfl rfl rfl ?_
  conv => whnf
  repeat' (first|((with_reducible refine Split.of_true ?_);conv=>whnf)|((with_reducible refine AltK.l ?_);(conv=>whnf);(first|(refine CallK.mk _ (h0) ?_)|(refine CallK.mk _ (h7) ?_));conv=>whnf)|fail)
  rfl
 | false =>
  rw [hl] at h0
  by_cases c0 : chkErr sgB Sg.n l = 0
  ·rw [c0] at h1
   have hok := ShOk.of c0
   by_cases hk : k.length ≤ 30
   ·have h2 := ev_Merge l []
    rw [merge_nil hok] at h2
    have hSp := sortL_perm cfNum l
    have hSo := sorted_num hok.two
    have hSk : ShOk (sortL cfNum l) := hok.perm hSp
    have hSl := sortL_len cfNum l
    generalize sortL cfNum l = S at *
    have hSm : (S.map sgD).length = S.length := List.length_map _
    replace h2 : Ev Tryz.prog 9 [.sl 5 (l.map sgD), .sl 5 []] (.tup [.sl 5 (S.map sgD), .int .i64 0]) := h2
    have hs1 := ev_SameS S (by have := hSk.len; omega)
    have hs2 := ev_SameS l (by have := hok.len; omega)
    rcases shift_two (y := y) hok with ⟨m, h8⟩ | ⟨m, z, hz, h8, h9⟩
    ·
     by_cases hw : (woRes S k).2 = 0
     ·have hwk := wo_zero hSk hw
      have h3 := ev_Without S k (by omega)
      rw [wo_ok hSk hwk] at h3
      replace h3 : Ev Tryz.prog 7 [.sl 5 (S.map sgD), .sl 1 (k.map iD)] (.tup [.sl 5 ((S.filter fun s => !inK k s).map sgD), .int .i64 0]) := h3
      have hfl : (S.filter fun s => !inK k s).length ≤ S.length := List.length_filter_le _ _
      have hlS := hSk.len
      have h4 := ev_Without S ((S.filter fun s => !inK k s).map Sg.n) (by rw [List.length_map]; omega)
      rw [wo_ok hSk rest_has, others_eq hSk.two] at h4
      have hpS := filter_two (fun s => !inK k s) S
      have h5 := ev_Merge (S.filter fun s => !inK k s) (S.filter fun s => !!inK k s)
      rw [merge_apart (hSk.sub List.filter_sublist) (hSk.sub List.filter_sublist) (apart_parts hSk.two fun s e1 e2 => by rw [e1] at e2; cases e2) hpS hSk hSo] at h5
      have h6 := ev_Merge (S.filter fun s => !!inK k s) (S.filter fun s => !inK k s)
      rw [merge_apart (hSk.sub List.filter_sublist) (hSk.sub List.filter_sublist) (apart_parts hSk.two fun s e1 e2 => by rw [e2] at e1; cases e1) (List.perm_append_comm.trans hpS) hSk hSo] at h6
      replace h4 : Ev Tryz.prog 7 [.sl 5 (S.map sgD), .sl 1 (((S.filter fun s => !inK k s).map Sg.n).map iD)] (.tup [.sl 5 ((S.filter fun s => !!inK k s).map sgD), .int .i64 0]) := h4
      replace h5 : Ev Tryz.prog 9 [.sl 5 ((S.filter fun s => !inK k s).map sgD), .sl 5 ((S.filter fun s => !!inK k s).map sgD)] (.tup [.sl 5 (S.map sgD), .int .i64 0]) := h5
      replace h6 : Ev Tryz.prog 9 [.sl 5 ((S.filter fun s => !!inK k s).map sgD), .sl 5 ((S.filter fun s => !inK k s).map sgD)] (.tup [.sl 5 (S.map sgD), .int .i64 0]) := h6
      generalize (S.filter fun s => !inK k s) = A at *
      generalize (S.filter fun s => !!inK k s) = B at *
      have hAm : (A.map sgD).length = A.length := List.length_map _
      refine ev_of_awp tysOk mixed (fn := Tryz.f4) Tryz.func4 rfl rfl rfl ?_
      conv => whnf
      repeat' (first|((with_reducible refine Split.of_false ?_);conv=>whnf)|((with_reducible refine Split.is_true ?_ ?_);decide;conv=>whnf)|((with_reducible refine Split.is_false ?_ ?_);decide;conv=>whnf)|((with_reducible refine Split.nez (fun _=>?_) (fun _=>?_))<;>conv=>whnf)|((with_reducible refine Split.dec (fun _=>?_) (fun _=>?_))<;>conv=>whnf)|((with_reducible refine AltK.l ?_);(conv=>whnf);(first|(refine CallK.mk _ (h0) ?_)|(refine CallK.mk _ (h1) ?_)|(refine CallK.mk _ (h7) ?_)|(refine CallK.mk _ (h2) ?_)|(refine CallK.mk _ (h3) ?_));conv=>whnf)|(exfalso;first|omega|contradiction)|fail)
      refine LoopK.o2 (fun i : Nat => i ≤ A.length) (fun i => [(11, .own 200 1 (((A.take i).map Sg.n).map iD).length), (12, .d (.int .i64 i))]) (fun i => [(200, .row 3 1 (((A.take i).map Sg.n).map iD) false)]) (fun i => A.length - i) 0 (by simp) (by refine ⟨?_, ?_, rfl⟩<;>(repeat' (first|exact True.intro|exact rfl|(refine ⟨?_,?_⟩)|fail));done) ?_
      rintro i hi
      have hnx : (i : Int) < A.length → ∃ m, A[i]? = some m := fun h => some_of_lt (by omega)
      have en : (((A.take i).map Sg.n).map iD).length = i := by simp; omega
      conv => whnf
      repeat' (first|((with_reducible refine Split.dec (fun _=>?_) (fun _=>?_))<;>conv=>whnf)|((with_reducible refine Need.mk ?_ ?_);(first|omega|rfl|decide|(refine ⟨?_,?_⟩<;>simp<;>omega)|(simp;omega));conv=>whnf)|fail)
      ·obtain ⟨s, hs⟩ := hnx (by omega)
       have hst : A.take (i + 1) = A.take i ++ [s] := take_snoc hs
       conv => whnf
       repeat' (first|((refine PickE.map i hs (by omega) ?_);conv=>whnf)|((with_reducible refine Need.mk ?_ ?_);(first|omega|rfl|decide|(refine ⟨?_,?_⟩<;>simp<;>omega)|(simp;omega));conv=>whnf)|((with_reducible refine Wr.inr ?_ ?_);(first|omega|(simp;omega));conv=>whnf)|fail)
       exact Again.au (i + 1) (by omega) (by omega) (by refine ⟨?_, ?_, rfl⟩<;>(repeat' (first|exact True.intro|exact rfl|(refine ⟨?_,?_⟩)|(intro h;cases h;done)|((first|refine own_congr ?_|refine int_congr ?_|skip);simp [hst];done)|fail));done)
      ·rw [← List.take_of_length_le (show A.length ≤ i by omega)] at h4
       conv => whnf
       repeat' (first|((with_reducible refine Split.of_true ?_);conv=>whnf)|(with_reducible refine Split.neg ?_)|((with_reducible refine Split.is_true ?_ ?_);decide;conv=>whnf)|((with_reducible refine Split.is_false ?_ ?_);decide;conv=>whnf)|((with_reducible refine AltK.l ?_);(conv=>whnf);(first|(refine CallK.mk _ (h7) ?_)|(refine CallK.mk _ (h4) ?_)|(refine CallK.mk _ (h5) ?_)|(refine CallK.mk _ (h6) ?_)|(refine CallK.mk _ (h8) ?_)|(refine CallK.mk _ (hs1) ?_));conv=>whnf)|fail)
       all_goals rfl
     ·have h3 := ev_Without S k (by omega)
      generalize woRes S k = q at *
      obtain ⟨q1, q2⟩ := q
      replace hw : q2 ≠ 0 := hw
      replace h3 : Ev Tryz.prog 7 [.sl 5 (S.map sgD), .sl 1 (k.map iD)] (.tup [.sl 5 (q1.map sgD), .int .i64 q2]) := h3
      refine ev_of_awp tysOk mixed (fn := Tryz.f4) Tryz.func4 rfl rfl rfl ?_
      conv => whnf
      repeat' (first|((with_reducible refine Split.of_false ?_);conv=>whnf)|((with_reducible refine Split.is_true ?_ ?_);decide;conv=>whnf)|((with_reducible refine Split.is_false ?_ ?_);decide;conv=>whnf)|((with_reducible refine Split.nez (fun _=>?_) (fun _=>?_))<;>conv=>whnf)|((with_reducible refine Split.eqz (fun _=>?_) (fun _=>?_))<;>conv=>whnf)|((with_reducible refine Split.dec (fun _=>?_) (fun _=>?_))<;>conv=>whnf)|((with_reducible refine AltK.l ?_);(conv=>whnf);(first|(refine CallK.mk _ (h0) ?_)|(refine CallK.mk _ (h1) ?_)|(refine CallK.mk _ (h2) ?_)|(refine CallK.mk _ (h3) ?_)|(refine CallK.mk _ (h7) ?_)|(refine CallK.mk _ (h8) ?_));conv=>whnf)|(exfalso;first|omega|contradiction)|fail)
      all_goals rfl
    ·
     by_cases hw : (woRes S k).2 = 0
     ·have hwk := wo_zero hSk hw
      have h3 := ev_Without S k (by omega)
      rw [wo_ok hSk hwk] at h3
      replace h3 : Ev Tryz.prog 7 [.sl 5 (S.map sgD), .sl 1 (k.map iD)] (.tup [.sl 5 ((S.filter fun s => !inK k s).map sgD), .int .i64 0]) := h3
      have hfl : (S.filter fun s => !inK k s).length ≤ S.length := List.length_filter_le _ _
      have hlS := hSk.len
      have h4 := ev_Without S ((S.filter fun s => !inK k s).map Sg.n) (by rw [List.length_map]; omega)
      rw [wo_ok hSk rest_has, others_eq hSk.two] at h4
      have hpS := filter_two (fun s => !inK k s) S
      have h5 := ev_Merge (S.filter fun s => !inK k s) (S.filter fun s => !!inK k s)
      rw [merge_apart (hSk.sub List.filter_sublist) (hSk.sub List.filter_sublist) (apart_parts hSk.two fun s e1 e2 => by rw [e1] at e2; cases e2) hpS hSk hSo] at h5
      have h6 := ev_Merge (S.filter fun s => !!inK k s) (S.filter fun s => !inK k s)
      rw [merge_apart (hSk.sub List.filter_sublist) (hSk.sub List.filter_sublist) (apart_parts hSk.two fun s e1 e2 => by rw [e2] at e1; cases e1) (List.perm_append_comm.trans hpS) hSk hSo] at h6
      replace h4 : Ev Tryz.prog 7 [.sl 5 (S.map sgD), .sl 1 (((S.filter fun s => !inK k s).map Sg.n).map iD)] (.tup [.sl 5 ((S.filter fun s => !!inK k s).map sgD), .int .i64 0]) := h4
      replace h5 : Ev Tryz.prog 9 [.sl 5 ((S.filter fun s => !inK k s).map sgD), .sl 5 ((S.filter fun s => !!inK k s).map sgD)] (.tup [.sl 5 (S.map sgD), .int .i64 0]) := h5
      replace h6 : Ev Tryz.prog 9 [.sl 5 ((S.filter fun s => !!inK k s).map sgD), .sl 5 ((S.filter fun s => !inK k s).map sgD)] (.tup [.sl 5 (S.map sgD), .int .i64 0]) := h6
      generalize (S.filter fun s => !inK k s) = A at *
      generalize (S.filter fun s => !!inK k s) = B at *
      have hAm : (A.map sgD).length = A.length := List.length_map _
      refine ev_of_awp tysOk mixed (fn := Tryz.f4) Tryz.func4 rfl rfl rfl ?_
      conv => whnf
      repeat' (first|((with_reducible refine Split.of_false ?_);conv=>whnf)|((with_reducible refine Split.is_true ?_ ?_);decide;conv=>whnf)|((with_reducible refine Split.is_false ?_ ?_);decide;conv=>whnf)|((with_reducible refine Split.nez (fun _=>?_) (fun _=>?_))<;>conv=>whnf)|((with_reducible refine Split.dec (fun _=>?_) (fun _=>?_))<;>conv=>whnf)|((with_reducible refine AltK.l ?_);(conv=>whnf);(first|(refine CallK.mk _ (h0) ?_)|(refine CallK.mk _ (h1) ?_)|(refine CallK.mk _ (h7) ?_)|(refine CallK.mk _ (h2) ?_)|(refine CallK.mk _ (h3) ?_));conv=>whnf)|(exfalso;first|omega|contradiction)|fail)
      refine LoopK.o2 (fun i : Nat => i ≤ A.length) (fun i => [(11, .own 200 1 (((A.take i).map Sg.n).map iD).length), (12, .d (.int .i64 i))]) (fun i => [(200, .row 3 1 (((A.take i).map Sg.n).map iD) false)]) (fun i => A.length - i) 0 (by simp) (by refine ⟨?_, ?_, rfl⟩<;>(repeat' (first|exact True.intro|exact rfl|(refine ⟨?_,?_⟩)|fail));done) ?_
      rintro i hi
      have hnx : (i : Int) < A.length → ∃ m, A[i]? = some m := fun h => some_of_lt (by omega)
      have en : (((A.take i).map Sg.n).map iD).length = i := by simp; omega
      conv => whnf
      repeat' (first|((with_reducible refine Split.dec (fun _=>?_) (fun _=>?_))<;>conv=>whnf)|((with_reducible refine Need.mk ?_ ?_);(first|omega|rfl|decide|(refine ⟨?_,?_⟩<;>simp<;>omega)|(simp;omega));conv=>whnf)|fail)
      ·obtain ⟨s, hs⟩ := hnx (by omega)
       have hst : A.take (i + 1) = A.take i ++ [s] := take_snoc hs
       conv => whnf
       repeat' (first|((refine PickE.map i hs (by omega) ?_);conv=>whnf)|((with_reducible refine Need.mk ?_ ?_);(first|omega|rfl|decide|(refine ⟨?_,?_⟩<;>simp<;>omega)|(simp;omega));conv=>whnf)|((with_reducible refine Wr.inr ?_ ?_);(first|omega|(simp;omega));conv=>whnf)|fail)
       exact Again.au (i + 1) (by omega) (by omega) (by refine ⟨?_, ?_, rfl⟩<;>(repeat' (first|exact True.intro|exact rfl|(refine ⟨?_,?_⟩)|(intro h;cases h;done)|((first|refine own_congr ?_|refine int_congr ?_|skip);simp [hst];done)|fail));done)
      ·rw [← List.take_of_length_le (show A.length ≤ i by omega)] at h4
       conv => whnf
       repeat' (first|((refine Wr.as z hz ?_);conv=>whnf)|((with_reducible refine Split.of_true ?_);conv=>whnf)|(with_reducible refine Split.neg ?_)|((with_reducible refine Split.is_true ?_ ?_);decide;conv=>whnf)|((with_reducible refine Split.is_false ?_ ?_);decide;conv=>whnf)|((with_reducible refine AltK.l ?_);(conv=>whnf);(first|(refine CallK.mk _ (h7) ?_)|(refine CallK.mk _ (h4) ?_)|(refine CallK.mk _ (h5) ?_)|(refine CallK.mk _ (h6) ?_)|(refine CallK.mk _ (h8) ?_)|(refine CallK.mk _ (h9) ?_)|(refine CallK.mk _ (hs1) ?_)|(refine CallK.mk _ (hs2) ?_));conv=>whnf)|fail)
       all_goals rfl
     ·have h3 := ev_Without S k (by omega)
      generalize woRes S k = q at *
      obtain ⟨q1, q2⟩ := q
      replace hw : q2 ≠ 0 := hw
      replace h3 : Ev Tryz.prog 7 [.sl 5 (S.map sgD), .sl 1 (k.map iD)] (.tup [.sl 5 (q1.map sgD), .int .i64 q2]) := h3
      refine ev_of_awp tysOk mixed (fn := Tryz.f4) Tryz.func4 rfl rfl rfl ?_
      conv => whnf
      repeat' (first|((refine Wr.as z hz ?_);conv=>whnf)|((with_reducible first|refine Split.of_true ?_|refine Split.of_false ?_);conv=>whnf)|((with_reducible refine Split.is_true ?_ ?_);decide;conv=>whnf)|((with_reducible refine Split.is_false ?_ ?_);decide;conv=>whnf)|((with_reducible refine Split.nez (fun _=>?_) (fun _=>?_))<;>conv=>whnf)|((with_reducible refine Split.eqz (fun _=>?_) (fun _=>?_))<;>conv=>whnf)|((with_reducible refine Split.dec (fun _=>?_) (fun _=>?_))<;>conv=>whnf)|((with_reducible refine AltK.l ?_);(conv=>whnf);(first|(refine CallK.mk _ (h0) ?_)|(refine CallK.mk _ (h1) ?_)|(refine CallK.mk _ (h2) ?_)|(refine CallK.mk _ (h3) ?_)|(refine CallK.mk _ (h7) ?_)|(refine CallK.mk _ (h8) ?_)|(refine CallK.mk _ (h9) ?_)|(refine CallK.mk _ (hs2) ?_));conv=>whnf)|(exfalso;first|omega|contradiction)|fail)
      all_goals rfl
   ·refine ev_of_awp tysOk mixed (fn := Tryz.f4) Tryz.func4 rfl rfl rfl ?_
    conv => whnf
    repeat' (first|((with_reducible refine Split.of_false ?_);conv=>whnf)|((with_reducible refine Split.is_false ?_ ?_);decide;conv=>whnf)|((with_reducible refine Split.dec (fun _=>?_) (fun _=>?_))<;>conv=>whnf)|((with_reducible refine AltK.l ?_);(conv=>whnf);(first|(refine CallK.mk _ (h0) ?_)|(refine CallK.mk _ (h1) ?_)|(refine CallK.mk _ (h7) ?_));conv=>whnf)|(exfalso;first|omega|contradiction)|fail)
    rfl
  ·refine ev_of_awp tysOk mixed (fn := Tryz.f4) Tryz.func4 rfl rfl rfl ?_
   conv => whnf
   repeat' (first|((with_reducible first|refine Split.of_true ?_|refine Split.of_false ?_);conv=>whnf)|((with_reducible refine Split.nez (fun _=>?_) (fun _=>?_))<;>conv=>whnf)|((with_reducible refine Split.dec (fun _=>?_) (fun _=>?_))<;>conv=>whnf)|((with_reducible refine AltK.l ?_);(conv=>whnf);(first|(refine CallK.mk _ (h0) ?_)|(refine CallK.mk _ (h1) ?_)|(refine CallK.mk _ (h7) ?_));conv=>whnf)|(exfalso;first|omega|contradiction)|fail)
   rfl
end Go.Proofs.Tryz
end
