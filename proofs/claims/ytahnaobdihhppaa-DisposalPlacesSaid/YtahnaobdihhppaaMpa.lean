/- Texts TwB TwC TwF TwM DpC DpE DpF DpH DpJ DpK DpL DpM DpP DpR DqA DqB TwZ, joined; what is not needed is left out. -/
import Derived.Test.YtahnaobdihhppaaProg
import Derived.Test.YtahnaobdihhppaaMgH
import Derived.Test.YtahnaobdihhppaaMgI
import Derived.Test.YtahnaobdihhppaaMgJ
import Derived.Test.YtahnaobdihhppaaMcd
section
namespace Go.Proofs.Try
open Go Go.Vm
set_option maxRecDepth 20000
set_option maxHeartbeats 2000000
theorem badAt_iff {s : ByteArray} {i : Nat} : badAt s i = true ↔ ¬ ((97 ≤ bAt s (i : Int).toNat ∧ bAt s (i : Int).toNat ≤ 122) ∨ (65 ≤ bAt s (i : Int).toNat ∧ bAt s (i : Int).toNat ≤ 90)) ∧
 (i = 0 ∨ ¬ ((48 ≤ bAt s (i : Int).toNat ∧ bAt s (i : Int).toNat ≤ 57) ∨ bAt s (i : Int).toNat = 45)) := by
 have e : bAt s (i : Int).toNat = bAt s i := rfl
 rw [e]
 generalize hc : bAt s i = c
 simp only [badAt, hc, letterZ, otherZ, Bool.and_eq_true, Bool.not_eq_true', Bool.or_eq_true, Bool.or_eq_false_iff, Bool.and_eq_false_iff, decide_eq_true_eq, decide_eq_false_iff_not]
 omega
end Go.Proofs.Try
end

section
namespace Go.Proofs.Try
open Go Go.Vm
set_option maxRecDepth 20000
set_option maxHeartbeats 2000000
theorem ev_IsName (s : ByteArray) : Ev Try.prog 110 [.str s] (.bool (nameB s)) := by
 refine ev_of_awp tysOk mixed (fn := Try.f110) Try.func110 rfl rfl rfl ?_
 conv => whnf
 repeat' (first|((with_reducible refine Split.of_true ?_);conv=>whnf)|((with_reducible refine Split.dec (fun _=>?_) (fun _=>?_))<;>conv=>whnf)|fail)
 ·have : s.size = 0 := by omega
  simp_all [retOf, nameB]
 ·simp_all [retOf, nameB] <;> omega
 refine LoopK.mk (fun i => i ≤ s.size ∧ ∀ k, k < i → badAt s k = false)
  (fun i => ⟨[(2, .d (.bool false)), (3, .d (.int .i64 i)), (0, .d (.str s))], []⟩)
  (fun i => s.size - i) 0 [] ⟨by omega, fun k h => absurd h (by omega)⟩ (by refine ⟨?_, ?_, rfl⟩<;>(repeat' (first|exact True.intro|exact rfl|(refine ⟨?_,?_⟩)|fail));done) ?_
 rintro i ⟨hi, hs⟩
 conv => whnf
 repeat' (first|((with_reducible first|refine Split.of_true ?_|refine Split.of_false ?_);conv=>whnf)|(with_reducible refine Split.neg ?_)|((with_reducible refine Split.nez (fun _=>?_) (fun _=>?_))<;>conv=>whnf)|((with_reducible refine Split.eqz (fun _=>?_) (fun _=>?_))<;>conv=>whnf)|((with_reducible refine Split.dec (fun _=>?_) (fun _=>?_))<;>conv=>whnf)|((with_reducible refine Need.mk ?_ ?_);(first|omega|rfl|decide|(refine ⟨?_,?_⟩<;>simp<;>omega)|(simp;omega));conv=>whnf)|((with_reducible refine Wr.inr ?_ ?_);(first|omega|(simp;omega));conv=>whnf)|(exfalso;first|omega|contradiction)|fail)
 all_goals first
  | exact congrArg D.bool (nameB_bad (i := i) (by omega) (badAt_iff.2 (by omega))).symm
  |(refine Again.mk (i+1) [] ⟨by omega, fun k hk => ?_⟩ (by omega) (by refine ⟨?_, ?_, rfl⟩<;>(repeat' (first|exact True.intro|exact rfl|(refine ⟨?_,?_⟩)|fail));done)
    rcases Nat.lt_or_ge k i with h | h
    ·exact hs k h
    ·have : k = i := by omega
     subst this
     exact Bool.eq_false_iff.2 fun h => by have := badAt_iff.1 h; omega)
  | skip
 have : ∀ k, k < s.size → badAt s k = false := fun k hk => hs k (by omega)
 have h1 : s.size ≠ 0 := by omega
 have h2 : s.size ≤ 12 := by omega
 simp [retOf, nameB, h1, h2]
 exact this
end Go.Proofs.Try
end

section
namespace Go.Proofs.Try
open Go Go.Vm
set_option maxRecDepth 20000
set_option maxHeartbeats 2000000
open Classical in
noncomputable def eqB {α : Type} (a b : α) : Bool := decide (a = b)
theorem eqB_of {α : Type} {a b : α} (h : a = b) : eqB a b = true := by simp [eqB, h]
theorem eqB_ne {α : Type} {a b : α} (h : a ≠ b) : eqB a b = false := by simp [eqB, h]
theorem take_succ_eq {α : Type} {a b : List α} {i : Nat} {x : α} (ha : a[i]? = some x) (hb : b[i]? = some x) (h : a.take i = b.take i) : a.take (i + 1) = b.take (i + 1) := by
 rw [List.take_add_one, List.take_add_one, h, ha, hb]
theorem eq_of_take {α : Type} {a b : List α} {i : Nat} (h : a.take i = b.take i) (ha : a.length ≤ i) (hb : b.length ≤ i) : a = b := by
 rwa [List.take_of_length_le ha, List.take_of_length_le hb] at h
end Go.Proofs.Try
end

section
namespace Go.Proofs.Try
open Go Go.Vm
set_option maxRecDepth 20000
set_option maxHeartbeats 2000000
theorem ev_Within (n lo hi : Int) : Ev Try.prog 75 [.int .i64 n, .int .i64 lo, .int .i64 hi] (.bool (!outsideB n lo hi)) := by
 refine ev_of_awp tysOk mixed (fn := Try.f75) Try.func75 rfl rfl rfl ?_
 conv => whnf
 repeat' (first|((with_reducible refine Split.dec (fun _=>?_) (fun _=>?_))<;>conv=>whnf)|fail)
 all_goals
  simp only [retOf, outsideB]
  congr 1
  rw [Bool.eq_iff_iff]
  simp
  omega
end Go.Proofs.Try
end

section
namespace Go.Proofs.Try
open Go Go.Vm
set_option maxRecDepth 20000
set_option maxHeartbeats 4000000
theorem sEq_eq {a b : ByteArray} (h : sEq a b = true) : a = b := toList_inj (by simpa [sEq] using h)
theorem ix_lt {α : Type} {p : α → Bool} {l : List α} : ixI p l < l.length := by
 unfold ixI
 split
 ·rename_i i h
  have := (List.findIdx?_eq_some_iff_getElem.1 h).1
  omega
 ·omega
end Go.Proofs.Try
end

section
namespace Go.Proofs.Try
open Go Go.Vm
set_option maxRecDepth 20000
set_option maxHeartbeats 4000000
theorem ev_Find9 (l : List Pt) (s : ByteArray) (hn : l.length ≤ 1000000) : Ev Try.prog 39 [.sl 6 (l.map ptD), .str s] (iD (ixI (fun x => sEq x.name s) l)) := by
 have hlen : (l.map ptD).length = l.length := List.length_map _
 refine ev_of_awp tysOk mixed (fn := Try.f39) Try.func39 rfl rfl rfl ?_
 conv => whnf
 skip
 refine LoopK.o2 (fun i : Nat => i ≤ l.length ∧ ∀ g ∈ l.take i, sEq g.name s = false) (fun i => [(5, .d (.int .i64 i))]) (fun _ => []) (fun i => l.length - i) 0 (by simp) (by refine ⟨?_, ?_, rfl⟩<;>(repeat' (first|exact True.intro|exact rfl|(refine ⟨?_,?_⟩)|fail));done) ?_
 rintro i ⟨hi, hp⟩
 by_cases hil : i < l.length
 ·obtain ⟨g, hg⟩ := some_of_lt hil
  by_cases he : g.name = s
  ·have e : l.findIdx? (fun x => sEq x.name s) = some i := by
    rw [List.findIdx?_eq_some_iff_getElem]
    refine ⟨by omega, by rw [(List.getElem?_eq_some_iff.1 hg).2, he]; exact sEq_self _, fun j hj => ?_⟩
    have := hp l[j] (List.mem_take_iff_getElem.2 ⟨j, by omega, rfl⟩)
    rw [this]; decide
   rw [ixI, e]
   conv => whnf
   repeat' (first|((refine PickE.map i hg (by omega) ?_);conv=>whnf)|((with_reducible refine Split.streq (fun _=>?_) (fun _=>?_))<;>conv=>whnf)|((with_reducible refine Split.dec (fun _=>?_) (fun _=>?_))<;>conv=>whnf)|((with_reducible refine Need.mk ?_ ?_);(first|omega|rfl|decide|(refine ⟨?_,?_⟩<;>simp<;>omega)|(simp;omega));conv=>whnf)|((with_reducible refine Wr.inr ?_ ?_);(first|omega|(simp;omega));conv=>whnf)|(exfalso;first|omega|contradiction)|fail)
   all_goals first
    | rfl
    |(exfalso; contradiction)
  ·conv => whnf
   repeat' (first|((refine PickE.map i hg (by omega) ?_);conv=>whnf)|((with_reducible refine Split.streq (fun _=>?_) (fun _=>?_))<;>conv=>whnf)|((with_reducible refine Split.dec (fun _=>?_) (fun _=>?_))<;>conv=>whnf)|((with_reducible refine Need.mk ?_ ?_);(first|omega|rfl|decide|(refine ⟨?_,?_⟩<;>simp<;>omega)|(simp;omega));conv=>whnf)|((with_reducible refine Wr.inr ?_ ?_);(first|omega|(simp;omega));conv=>whnf)|(exfalso;first|omega|contradiction)|fail)
   all_goals first
    |(exfalso; contradiction)
    |(refine Again.au (i + 1) ⟨by omega, fun x hx => ?_⟩ (by omega) (by refine ⟨?_, ?_, rfl⟩<;>(repeat' (first|exact True.intro|exact rfl|(refine ⟨?_,?_⟩)|fail));done)
      rw [take_snoc hg] at hx
      rcases List.mem_append.1 hx with hx | hx
      ·exact hp x hx
      ·rw [List.mem_singleton.1 hx]; exact sEq_ne he)
 ·have e : l.findIdx? (fun x => sEq x.name s) = none := by
   rw [List.findIdx?_eq_none_iff]
   intro x hx
   rw [← List.take_of_length_le (show l.length ≤ i by omega)] at hx
   exact hp x hx
  rw [ixI, e]
  conv => whnf
  repeat' (first|((with_reducible refine Split.dec (fun _=>?_) (fun _=>?_))<;>conv=>whnf)|((with_reducible refine Need.mk ?_ ?_);(first|omega|rfl|decide|(refine ⟨?_,?_⟩<;>simp<;>omega)|(simp;omega));conv=>whnf)|(exfalso;first|omega|contradiction)|fail)
  rfl
theorem ev_Factor9 (l : List Bk) (s : ByteArray) (hn : l.length ≤ 1000000) : Ev Try.prog 18 [.sl 3 (l.map bkD), .str s] (iD (ixI (fun x => sEq x.soil s) l)) := by
 have hlen : (l.map bkD).length = l.length := List.length_map _
 refine ev_of_awp tysOk mixed (fn := Try.f18) Try.func18 rfl rfl rfl ?_
 conv => whnf
 skip
 refine LoopK.o2 (fun i : Nat => i ≤ l.length ∧ ∀ g ∈ l.take i, sEq g.soil s = false) (fun i => [(5, .d (.int .i64 i))]) (fun _ => []) (fun i => l.length - i) 0 (by simp) (by refine ⟨?_, ?_, rfl⟩<;>(repeat' (first|exact True.intro|exact rfl|(refine ⟨?_,?_⟩)|fail));done) ?_
 rintro i ⟨hi, hp⟩
 by_cases hil : i < l.length
 ·obtain ⟨g, hg⟩ := some_of_lt hil
  by_cases he : g.soil = s
  ·have e : l.findIdx? (fun x => sEq x.soil s) = some i := by
    rw [List.findIdx?_eq_some_iff_getElem]
    refine ⟨by omega, by rw [(List.getElem?_eq_some_iff.1 hg).2, he]; exact sEq_self _, fun j hj => ?_⟩
    have := hp l[j] (List.mem_take_iff_getElem.2 ⟨j, by omega, rfl⟩)
    rw [this]; decide
   rw [ixI, e]
   conv => whnf
   repeat' (first|((refine PickE.map i hg (by omega) ?_);conv=>whnf)|((with_reducible refine Split.streq (fun _=>?_) (fun _=>?_))<;>conv=>whnf)|((with_reducible refine Split.dec (fun _=>?_) (fun _=>?_))<;>conv=>whnf)|((with_reducible refine Need.mk ?_ ?_);(first|omega|rfl|decide|(refine ⟨?_,?_⟩<;>simp<;>omega)|(simp;omega));conv=>whnf)|((with_reducible refine Wr.inr ?_ ?_);(first|omega|(simp;omega));conv=>whnf)|(exfalso;first|omega|contradiction)|fail)
   all_goals first
    | rfl
    |(exfalso; contradiction)
  ·conv => whnf
   repeat' (first|((refine PickE.map i hg (by omega) ?_);conv=>whnf)|((with_reducible refine Split.streq (fun _=>?_) (fun _=>?_))<;>conv=>whnf)|((with_reducible refine Split.dec (fun _=>?_) (fun _=>?_))<;>conv=>whnf)|((with_reducible refine Need.mk ?_ ?_);(first|omega|rfl|decide|(refine ⟨?_,?_⟩<;>simp<;>omega)|(simp;omega));conv=>whnf)|((with_reducible refine Wr.inr ?_ ?_);(first|omega|(simp;omega));conv=>whnf)|(exfalso;first|omega|contradiction)|fail)
   all_goals first
    |(exfalso; contradiction)
    |(refine Again.au (i + 1) ⟨by omega, fun x hx => ?_⟩ (by omega) (by refine ⟨?_, ?_, rfl⟩<;>(repeat' (first|exact True.intro|exact rfl|(refine ⟨?_,?_⟩)|fail));done)
      rw [take_snoc hg] at hx
      rcases List.mem_append.1 hx with hx | hx
      ·exact hp x hx
      ·rw [List.mem_singleton.1 hx]; exact sEq_ne he)
 ·have e : l.findIdx? (fun x => sEq x.soil s) = none := by
   rw [List.findIdx?_eq_none_iff]
   intro x hx
   rw [← List.take_of_length_le (show l.length ≤ i by omega)] at hx
   exact hp x hx
  rw [ixI, e]
  conv => whnf
  repeat' (first|((with_reducible refine Split.dec (fun _=>?_) (fun _=>?_))<;>conv=>whnf)|((with_reducible refine Need.mk ?_ ?_);(first|omega|rfl|decide|(refine ⟨?_,?_⟩<;>simp<;>omega)|(simp;omega));conv=>whnf)|(exfalso;first|omega|contradiction)|fail)
  rfl
theorem met_ix {α : Type} {nm : α → ByteArray} {l : List α} {s : ByteArray} : metB nm l s = true ↔ ¬ ixI (fun x => sEq (nm x) s) l < 0 := by
 constructor
 ·intro h hlt
  unfold metB at h
  rw [List.any_eq_true] at h
  obtain ⟨x, hx, he⟩ := h
  have he : nm x = s := by simpa using he
  unfold ixI at hlt
  cases hf : l.findIdx? (fun x => sEq (nm x) s) with
  | none =>
   have := List.findIdx?_eq_none_iff.1 hf x hx
   rw [he, sEq_self] at this; cases this
  | some i => rw [hf] at hlt; simp at hlt; omega
 ·intro h
  obtain ⟨i, r, -, hr, hs⟩ := ix_at h
  exact List.any_eq_true.2 ⟨r, List.mem_of_getElem? hr, by simpa using sEq_eq hs⟩
theorem ev_pitErr (p : Pt) (bef : List Pt) (hn : bef.length ≤ 1000000) (hc : p.cls.length ≤ 1000000) :
 Ev Try.prog 73 [ptD p, .sl 6 (bef.map ptD)] (iD (if nameB p.name = false then 4 else if metB Pt.name bef p.name = true then 5 else ptErr p)) := by
 have hlen : (p.cls.map iD).length = p.cls.length := List.length_map _
 have hN := ev_IsName p.name
 have hF := ev_Find9 bef p.name hn
 have hm := @met_ix _ Pt.name bef p.name
 have hA := ev_Within p.area 1 1000000000
 have hB := ev_Within p.base (-20000) 20000
 have hT := ev_Within p.top (-20000) 20000
 have hP := ev_Within p.price 0 10000
 generalize ixI (fun x => sEq x.name p.name) bef = ix at *
 generalize metB Pt.name bef p.name = mt at *
 cases hb : nameB p.name with
 | false =>
  rw [hb] at hN
  rw [if_pos rfl]
  refine ev_of_awp tysOk mixed (fn := Try.f73) Try.func73 rfl rfl rfl ?_
  conv => whnf
  repeat' (first|((with_reducible refine Split.of_false ?_);conv=>whnf)|(with_reducible refine Split.neg ?_)|((with_reducible refine AltK.l ?_);(conv=>whnf);(first|(refine CallK.mk _ (hN) ?_));conv=>whnf)|fail)
  rfl
 | true =>
 rw [hb] at hN
 rw [if_neg (by decide)]
 cases mt with
 | true =>
  have hi := hm.1 rfl
  rw [if_pos rfl]
  refine ev_of_awp tysOk mixed (fn := Try.f73) Try.func73 rfl rfl rfl ?_
  conv => whnf
  repeat' (first|((with_reducible refine Split.of_true ?_);conv=>whnf)|(with_reducible refine Split.neg ?_)|((with_reducible refine Split.dec (fun _=>?_) (fun _=>?_))<;>conv=>whnf)|((with_reducible refine AltK.l ?_);(conv=>whnf);(first|(refine CallK.mk _ (hN) ?_)|(refine CallK.mk _ (hF) ?_));conv=>whnf)|(exfalso;first|omega|contradiction)|fail)
  all_goals first
   | rfl
   |(exfalso; omega)
 | false =>
 have hi : ix < 0 := by
  rcases Int.lt_or_le ix 0 with h | h
  ·exact h
  ·exact absurd (hm.2 (by omega)) (by decide)
 clear hm
 rw [if_neg (by decide)]
 unfold ptErr
 generalize outsideB p.area 1 1000000000 = a1 at *
 generalize outsideB p.base (-20000) 20000 = a2 at *
 generalize outsideB p.top (-20000) 20000 = a3 at *
 generalize outsideB p.price 0 10000 = a4 at *
 by_cases h1 : (a1 || a2 || a3) = true
 ·rw [if_pos h1]
  refine ev_of_awp tysOk mixed (fn := Try.f73) Try.func73 rfl rfl rfl ?_
  conv => whnf
  repeat' (first|((with_reducible refine Split.of_true ?_);conv=>whnf)|(with_reducible refine Split.neg ?_)|((with_reducible refine Split.dec (fun _=>?_) (fun _=>?_))<;>conv=>whnf)|((with_reducible refine Split.mk (fun _=>?_) (fun _=>?_))<;>conv=>whnf)|((with_reducible refine AltK.l ?_);(conv=>whnf);(first|(refine CallK.mk _ (hN) ?_)|(refine CallK.mk _ (hF) ?_)|(refine CallK.mk _ (hA) ?_)|(refine CallK.mk _ (hB) ?_)|(refine CallK.mk _ (hT) ?_)|(refine CallK.mk _ (hP) ?_));conv=>whnf)|(exfalso;first|omega|contradiction)|fail)
  all_goals first
   | rfl
   |(exfalso; omega)
   |(exfalso; simp_all; done)
 rw [if_neg h1]
 have h1 : a1 = false ∧ a2 = false ∧ a3 = false := by simpa [and_assoc] using h1
 obtain ⟨rfl, rfl, rfl⟩ := h1
 by_cases h2 : p.top ≤ p.base
 ·rw [if_pos h2]
  refine ev_of_awp tysOk mixed (fn := Try.f73) Try.func73 rfl rfl rfl ?_
  conv => whnf
  repeat' (first|((with_reducible first|refine Split.of_true ?_|refine Split.of_false ?_);conv=>whnf)|(with_reducible refine Split.neg ?_)|((with_reducible refine Split.dec (fun _=>?_) (fun _=>?_))<;>conv=>whnf)|((with_reducible refine Split.mk (fun _=>?_) (fun _=>?_))<;>conv=>whnf)|((with_reducible refine AltK.l ?_);(conv=>whnf);(first|(refine CallK.mk _ (hN) ?_)|(refine CallK.mk _ (hF) ?_)|(refine CallK.mk _ (hA) ?_)|(refine CallK.mk _ (hB) ?_)|(refine CallK.mk _ (hT) ?_)|(refine CallK.mk _ (hP) ?_));conv=>whnf)|(exfalso;first|omega|contradiction)|fail)
  all_goals first
   | rfl
   |(exfalso; omega)
 rw [if_neg h2]
 cases a4 with
 | true =>
  rw [if_pos rfl]
  refine ev_of_awp tysOk mixed (fn := Try.f73) Try.func73 rfl rfl rfl ?_
  conv => whnf
  repeat' (first|((with_reducible first|refine Split.of_true ?_|refine Split.of_false ?_);conv=>whnf)|(with_reducible refine Split.neg ?_)|((with_reducible refine Split.dec (fun _=>?_) (fun _=>?_))<;>conv=>whnf)|((with_reducible refine AltK.l ?_);(conv=>whnf);(first|(refine CallK.mk _ (hN) ?_)|(refine CallK.mk _ (hF) ?_)|(refine CallK.mk _ (hA) ?_)|(refine CallK.mk _ (hB) ?_)|(refine CallK.mk _ (hT) ?_)|(refine CallK.mk _ (hP) ?_));conv=>whnf)|(exfalso;first|omega|contradiction)|fail)
  all_goals first
   | rfl
   |(exfalso; omega)
 | false =>
 rw [if_neg (by decide)]
 have e0 : clsGo none p.cls = clsGo (prevI p.cls 0) (p.cls.drop 0) := rfl
 refine ev_of_awp tysOk mixed (fn := Try.f73) Try.func73 rfl rfl rfl ?_
 conv => whnf
 repeat' (first|((with_reducible first|refine Split.of_true ?_|refine Split.of_false ?_);conv=>whnf)|(with_reducible refine Split.neg ?_)|((with_reducible refine Split.dec (fun _=>?_) (fun _=>?_))<;>conv=>whnf)|((with_reducible refine AltK.l ?_);(conv=>whnf);(first|(refine CallK.mk _ (hN) ?_)|(refine CallK.mk _ (hF) ?_)|(refine CallK.mk _ (hA) ?_)|(refine CallK.mk _ (hB) ?_)|(refine CallK.mk _ (hT) ?_)|(refine CallK.mk _ (hP) ?_));conv=>whnf)|(exfalso;first|omega|contradiction)|fail)
 refine LoopK.o2 (fun i : Nat => i ≤ p.cls.length ∧ clsGo none p.cls = clsGo (prevI p.cls i) (p.cls.drop i)) (fun i => [(5, .d (.int .i64 i))]) (fun _ => []) (fun i => p.cls.length - i) 0 ⟨by omega, e0⟩ (by refine ⟨?_, ?_, rfl⟩<;>(repeat' (first|exact True.intro|exact rfl|(refine ⟨?_,?_⟩)|(intro h;cases h;done)|fail));done) ?_
 rintro i ⟨hi', hp⟩
 by_cases hil : i < p.cls.length
 ·obtain ⟨c, hc⟩ := some_of_lt hil
  have hC := ev_Within c 0 9
  rw [cls_at hc] at hp
  cases ho : outsideB c 0 9 with
  | true =>
   rw [ho, if_pos rfl] at hp
   rw [ho] at hC
   conv => whnf
   repeat' (first|((refine PickE.map i hc (by omega) ?_);conv=>whnf)|((with_reducible refine Split.of_true ?_);conv=>whnf)|(with_reducible refine Split.neg ?_)|((with_reducible refine Split.dec (fun _=>?_) (fun _=>?_))<;>conv=>whnf)|((with_reducible refine Need.mk ?_ ?_);(first|omega|rfl|decide|(refine ⟨?_,?_⟩<;>simp<;>omega)|(simp;omega));conv=>whnf)|((with_reducible refine AltK.l ?_);(conv=>whnf);(first|(refine CallK.mk _ (hC) ?_));conv=>whnf)|(exfalso;first|omega|contradiction)|fail)
   rw [hp]; rfl
  | false =>
   rw [ho, if_neg (by decide)] at hp
   rw [ho] at hC
   by_cases hz : i = 0
   ·subst hz
    rw [if_neg (by simp [prevI])] at hp
    conv => whnf
    repeat' (first|((refine PickE.map 0 hc (by omega) ?_);conv=>whnf)|((with_reducible refine Split.of_false ?_);conv=>whnf)|(with_reducible refine Split.neg ?_)|((with_reducible refine Split.is_false ?_ ?_);decide;conv=>whnf)|((with_reducible refine Split.dec (fun _=>?_) (fun _=>?_))<;>conv=>whnf)|((with_reducible refine Need.mk ?_ ?_);(first|omega|rfl|decide|(refine ⟨?_,?_⟩<;>simp<;>omega)|(simp;omega));conv=>whnf)|((with_reducible refine Wr.inr ?_ ?_);(first|omega|(simp;omega));conv=>whnf)|((with_reducible refine AltK.l ?_);(conv=>whnf);(first|(refine CallK.mk _ (hC) ?_));conv=>whnf)|(exfalso;first|omega|contradiction)|fail)
    all_goals first
     | exact Again.au (0 + 1) ⟨by omega, hp⟩ (by omega) (by refine ⟨?_, ?_, rfl⟩<;>(repeat' (first|exact True.intro|exact rfl|(refine ⟨?_,?_⟩)|(intro h;cases h;done)|fail));done)
     |(exfalso; omega)
   ·obtain ⟨q, hq⟩ := some_of_lt (show i - 1 < p.cls.length by omega)
    have hpv : prevI p.cls i = some q := by
     cases i with
     | zero => exact absurd rfl hz
     | succ j => simpa [prevI] using hq
    rw [hpv] at hp
    by_cases hle : c ≤ q
    ·rw [if_pos (by simp [hle])] at hp
     conv => whnf
     repeat' (first|((refine PickE.map (i - 1) hq (by omega) ?_);conv=>whnf)|((refine PickE.map i hc (by omega) ?_);conv=>whnf)|((with_reducible refine Split.of_false ?_);conv=>whnf)|(with_reducible refine Split.neg ?_)|((with_reducible refine Split.dec (fun _=>?_) (fun _=>?_))<;>conv=>whnf)|((with_reducible refine Need.mk ?_ ?_);(first|omega|rfl|decide|(refine ⟨?_,?_⟩<;>simp<;>omega)|(simp;omega));conv=>whnf)|((with_reducible refine Wr.inr ?_ ?_);(first|omega|(simp;omega));conv=>whnf)|((with_reducible refine AltK.l ?_);(conv=>whnf);(first|(refine CallK.mk _ (hC) ?_));conv=>whnf)|(exfalso;first|omega|contradiction)|fail)
     all_goals first
      |(rw [hp]; rfl)
      |(exfalso; omega)
    ·rw [if_neg (by simp; omega)] at hp
     conv => whnf
     repeat' (first|((refine PickE.map (i - 1) hq (by omega) ?_);conv=>whnf)|((refine PickE.map i hc (by omega) ?_);conv=>whnf)|((with_reducible refine Split.of_false ?_);conv=>whnf)|(with_reducible refine Split.neg ?_)|((with_reducible refine Split.dec (fun _=>?_) (fun _=>?_))<;>conv=>whnf)|((with_reducible refine Need.mk ?_ ?_);(first|omega|rfl|decide|(refine ⟨?_,?_⟩<;>simp<;>omega)|(simp;omega));conv=>whnf)|((with_reducible refine Wr.inr ?_ ?_);(first|omega|(simp;omega));conv=>whnf)|((with_reducible refine AltK.l ?_);(conv=>whnf);(first|(refine CallK.mk _ (hC) ?_));conv=>whnf)|(exfalso;first|omega|contradiction)|fail)
     all_goals first
      | exact Again.au (i + 1) ⟨by omega, hp⟩ (by omega) (by refine ⟨?_, ?_, rfl⟩<;>(repeat' (first|exact True.intro|exact rfl|(refine ⟨?_,?_⟩)|(intro h;cases h;done)|fail));done)
      |(exfalso; omega)
 ·rw [List.drop_eq_nil_of_le (show p.cls.length ≤ i by omega)] at hp
  rw [hp]
  conv => whnf
  repeat' (first|((with_reducible refine Split.dec (fun _=>?_) (fun _=>?_))<;>conv=>whnf)|((with_reducible refine Need.mk ?_ ?_);(first|omega|rfl|decide|(refine ⟨?_,?_⟩<;>simp<;>omega)|(simp;omega));conv=>whnf)|(exfalso;first|omega|contradiction)|fail)
  cases prevI p.cls i <;> rfl
theorem ev_Deposited (l : List Dp) (n : Int) (hn : l.length ≤ 1000000) : Ev Try.prog 63 [.sl 3 (l.map dpD), iD n] (.bool (l.any fun x => x.batch == n)) := by
 have hlen : (l.map dpD).length = l.length := List.length_map _
 refine ev_of_awp tysOk mixed (fn := Try.f63) Try.func63 rfl rfl rfl ?_
 conv => whnf
 skip
 refine LoopK.o2 (fun i : Nat => i ≤ l.length ∧ (l.take i).any (fun x => x.batch == n) = false) (fun i => [(5, .d (.int .i64 i))]) (fun _ => []) (fun i => l.length - i) 0 ⟨by omega, rfl⟩ (by refine ⟨?_, ?_, rfl⟩<;>(repeat' (first|exact True.intro|exact rfl|(refine ⟨?_,?_⟩)|fail));done) ?_
 rintro i ⟨hi, hp⟩
 by_cases hil : i < l.length
 ·obtain ⟨d, hd⟩ := some_of_lt hil
  have hy := @any_yes _ (fun x : Dp => x.batch == n) l i d hd
  have hno := @any_no _ (fun x : Dp => x.batch == n) l i d hd hp
  conv => whnf
  repeat' (first|((refine PickE.map i hd (by omega) ?_);conv=>whnf)|((with_reducible refine Split.eqz (fun _=>?_) (fun _=>?_))<;>conv=>whnf)|((with_reducible refine Split.dec (fun _=>?_) (fun _=>?_))<;>conv=>whnf)|((with_reducible refine Need.mk ?_ ?_);(first|omega|rfl|decide|(refine ⟨?_,?_⟩<;>simp<;>omega)|(simp;omega));conv=>whnf)|((with_reducible refine Wr.inr ?_ ?_);(first|omega|(simp;omega));conv=>whnf)|(exfalso;first|omega|contradiction)|fail)
  ·rw [hy (by simpa using (by assumption : d.batch = n))]; rfl
  ·exact Again.au (i + 1) ⟨by omega, hno (by simpa using (by assumption : d.batch ≠ n))⟩ (by omega) (by refine ⟨?_, ?_, rfl⟩<;>(repeat' (first|exact True.intro|exact rfl|(refine ⟨?_,?_⟩)|fail));done)
 ·rw [List.take_of_length_le (by omega)] at hp
  rw [hp]
  conv => whnf
  repeat' (first|((with_reducible refine Split.dec (fun _=>?_) (fun _=>?_))<;>conv=>whnf)|((with_reducible refine Need.mk ?_ ?_);(first|omega|rfl|decide|(refine ⟨?_,?_⟩<;>simp<;>omega)|(simp;omega));conv=>whnf)|(exfalso;first|omega|contradiction)|fail)
  rfl
theorem ev_Capacity9 {p : Pt} (h : PtOk p) : Ev Try.prog 76 [ptD p] (iD (capS p)) := by
 have hc := cap_bd h
 have h2 := h.base
 have h3 := h.top
 unfold capS at *
 refine ev_of_awp tysOk mixed (fn := Try.f76) Try.func76 rfl rfl rfl ?_
 conv => whnf
 repeat' (first|((with_reducible refine Wr.inr ?_ ?_);(first|omega|(simp;omega));conv=>whnf)|fail)
 rfl
theorem ev_Taken9 (y : Yd) {k : Nat} {p : Pt} (hk : y.pits[k]? = some p) (hv : volOk y.deps) (hn : y.deps.length ≤ 300) : Ev Try.prog 40 [ydD y, iD k] (iD (takS p.name y.deps)) := by
 have hlen : (y.deps.map dpD).length = y.deps.length := List.length_map _
 refine ev_of_awp tysOk mixed (fn := Try.f40) Try.func40 rfl rfl rfl ?_
 conv => whnf
 skip
 refine LoopK.o2 (fun i : Nat => i ≤ y.deps.length) (fun i => [(5, .d (iD (takS p.name (y.deps.take i)))), (6, .d (.int .i64 i))]) (fun _ => []) (fun i => y.deps.length - i) 0 (by simp) (by refine ⟨?_, ?_, rfl⟩<;>(repeat' (first|exact True.intro|exact rfl|(refine ⟨?_,?_⟩)|(intro h;cases h;done)|fail));done) ?_
 rintro i hi
 have hb := takS_bd p.name (y.deps.take i) (fun x hx => hv x (List.mem_of_mem_take hx))
 have hl : (y.deps.take i).length ≤ 300 := by rw [List.length_take]; omega
 by_cases hil : i < y.deps.length
 ·obtain ⟨d, hd⟩ := some_of_lt hil
  have hs := takS_snoc (s := p.name) hd
  have hdv := hv d (List.mem_of_getElem? hd)
  by_cases he : d.pit = p.name
  ·rw [he, sEq_self, if_pos rfl] at hs
   conv => whnf
   repeat' (first|((refine PickE.map k hk (by omega) ?_);conv=>whnf)|((refine PickE.map i hd (by omega) ?_);conv=>whnf)|((with_reducible refine Split.streq (fun _=>?_) (fun _=>?_))<;>conv=>whnf)|((with_reducible refine Split.dec (fun _=>?_) (fun _=>?_))<;>conv=>whnf)|((with_reducible refine Need.mk ?_ ?_);(first|omega|rfl|decide|(refine ⟨?_,?_⟩<;>simp<;>omega)|(simp;omega));conv=>whnf)|((with_reducible refine Wr.inr ?_ ?_);(first|omega|(simp;omega));conv=>whnf)|(exfalso;first|omega|contradiction)|fail)
   ·refine Again.au (i + 1) (by omega) (by omega) ?_
    rw [hs]
    exact (by refine ⟨?_, ?_, rfl⟩<;>(repeat' (first|exact True.intro|exact rfl|(refine ⟨?_,?_⟩)|(intro h;cases h;done)|fail));done)
   all_goals (exfalso; contradiction)
  ·rw [sEq_ne he, if_neg (by decide)] at hs
   conv => whnf
   repeat' (first|((refine PickE.map k hk (by omega) ?_);conv=>whnf)|((refine PickE.map i hd (by omega) ?_);conv=>whnf)|((with_reducible refine Split.streq (fun _=>?_) (fun _=>?_))<;>conv=>whnf)|((with_reducible refine Split.dec (fun _=>?_) (fun _=>?_))<;>conv=>whnf)|((with_reducible refine Need.mk ?_ ?_);(first|omega|rfl|decide|(refine ⟨?_,?_⟩<;>simp<;>omega)|(simp;omega));conv=>whnf)|((with_reducible refine Wr.inr ?_ ?_);(first|omega|(simp;omega));conv=>whnf)|(exfalso;first|omega|contradiction)|fail)
   all_goals first
    |(exfalso; contradiction)
    |(refine Again.au (i + 1) (by omega) (by omega) ?_
      rw [hs, Int.add_zero]
      exact (by refine ⟨?_, ?_, rfl⟩<;>(repeat' (first|exact True.intro|exact rfl|(refine ⟨?_,?_⟩)|(intro h;cases h;done)|fail));done))
 ·have e : y.deps.take i = y.deps := List.take_of_length_le (by omega)
  conv => whnf
  repeat' (first|((with_reducible refine Split.dec (fun _=>?_) (fun _=>?_))<;>conv=>whnf)|((with_reducible refine Need.mk ?_ ?_);(first|omega|rfl|decide|(refine ⟨?_,?_⟩<;>simp<;>omega)|(simp;omega));conv=>whnf)|(exfalso;first|omega|contradiction)|fail)
  rw [e]; rfl
theorem ev_bulkingErr (y : Yd) : Ev Try.prog 74 [ydD y] (iD (if 20 < y.bulk.length then 8 else if nmGo Bk.soil bkErr [] y.bulk ≠ 0 then nmGo Bk.soil bkErr [] y.bulk else if y.carry.length ≠ y.bulk.length then 10 else carGo y.bulk y.carry)) := by
 have hlb : (y.bulk.map bkD).length = y.bulk.length := List.length_map _
 have hlc : (y.carry.map iD).length = y.carry.length := List.length_map _
 by_cases h3 : 20 < y.bulk.length
 ·rw [if_pos h3]
  refine ev_of_awp tysOk mixed (fn := Try.f74) Try.func74 rfl rfl rfl ?_
  conv => whnf
  repeat' (first|((with_reducible refine Split.dec (fun _=>?_) (fun _=>?_))<;>conv=>whnf)|(exfalso;first|omega|contradiction)|fail)
  all_goals first
   | rfl
   |(exfalso; omega)
 rw [if_neg h3]
 have z2 := @nmGo_zero _ Bk.soil bkErr y.bulk []
 have e0 : nmGo Bk.soil bkErr [] y.bulk = nmGo Bk.soil bkErr (y.bulk.take 0) (y.bulk.drop 0) := rfl
 generalize hE : nmGo Bk.soil bkErr [] y.bulk = e2 at *
 refine ev_of_awp tysOk mixed (fn := Try.f74) Try.func74 rfl rfl rfl ?_
 conv => whnf
 repeat' (first|((with_reducible refine Split.dec (fun _=>?_) (fun _=>?_))<;>conv=>whnf)|(exfalso;first|omega|contradiction)|fail)
 refine LoopK.o2 (fun i : Nat => i ≤ y.bulk.length ∧ e2 = nmGo Bk.soil bkErr (y.bulk.take i) (y.bulk.drop i)) (fun i => [(3, .d (.int .i64 i))]) (fun _ => []) (fun i => y.bulk.length - i) 0 ⟨by omega, e0⟩ (by refine ⟨?_, ?_, rfl⟩<;>(repeat' (first|exact True.intro|exact rfl|(refine ⟨?_,?_⟩)|(intro h;cases h;done)|fail));done) ?_
 rintro i ⟨hi, hp⟩
 by_cases hil : i < y.bulk.length
 ·obtain ⟨b, hb⟩ := some_of_lt hil
  rw [nmGo_at hb] at hp
  have hN := ev_IsName b.soil
  have hF := ev_Factor9 (y.bulk.take i) b.soil (by rw [List.length_take]; omega)
  have hm := @met_ix _ Bk.soil (y.bulk.take i) b.soil
  have hlt := @ix_lt _ (fun x : Bk => sEq x.soil b.soil) (y.bulk.take i)
  have w1 := ev_Within b.den 1 1000
  have w2 := ev_Within b.num 1 (10 * b.den)
  have hd : ((y.bulk.map bkD).take ((i : Int)).toNat).drop (Int.toNat 0) = (y.bulk.take i).map bkD := by rw [Int.toNat_natCast, Int.toNat_zero, List.drop_zero, List.map_take]
  rw [← hd] at hF
  generalize ixI (fun x => sEq x.soil b.soil) (y.bulk.take i) = ix at *
  generalize metB Bk.soil (y.bulk.take i) b.soil = mt at *
  cases hnb : nameB b.soil with
  | false =>
   rw [hnb, if_pos rfl] at hp
   rw [hnb] at hN
   rw [hp]
   conv => whnf
   repeat' (first|((refine PickE.map i hb (by omega) ?_);conv=>whnf)|((with_reducible refine Split.of_false ?_);conv=>whnf)|(with_reducible refine Split.neg ?_)|((with_reducible refine Split.nez (fun _=>?_) (fun _=>?_))<;>conv=>whnf)|((with_reducible refine Split.dec (fun _=>?_) (fun _=>?_))<;>conv=>whnf)|((with_reducible refine Need.mk ?_ ?_);(first|omega|rfl|decide|(refine ⟨?_,?_⟩<;>simp<;>omega)|(simp;omega));conv=>whnf)|((with_reducible refine AltK.l ?_);(conv=>whnf);(first|(refine CallK.mk _ (hN) ?_));conv=>whnf)|(exfalso;first|omega|contradiction)|fail)
   rfl
  | true =>
  rw [hnb, if_neg (by decide)] at hp
  rw [hnb] at hN
  cases mt with
  | true =>
   have hi' := hm.1 rfl
   rw [if_pos rfl] at hp
   rw [hp]
   conv => whnf
   repeat' (first|((refine PickE.map i hb (by omega) ?_);conv=>whnf)|((with_reducible refine Split.of_true ?_);conv=>whnf)|(with_reducible refine Split.neg ?_)|((with_reducible refine Split.nez (fun _=>?_) (fun _=>?_))<;>conv=>whnf)|((with_reducible refine Split.dec (fun _=>?_) (fun _=>?_))<;>conv=>whnf)|((with_reducible refine Need.mk ?_ ?_);(first|omega|rfl|decide|(refine ⟨?_,?_⟩<;>simp<;>omega)|(simp;omega));conv=>whnf)|((with_reducible refine AltK.l ?_);(conv=>whnf);(first|(refine CallK.mk _ (hN) ?_)|(refine CallK.mk _ (hF) ?_));conv=>whnf)|(exfalso;first|omega|contradiction)|fail)
   all_goals first
    | rfl
    |(exfalso; omega)
  | false =>
  have hi' : ix < 0 := by
   rcases Int.lt_or_le ix 0 with h | h
   ·exact h
   ·exact absurd (hm.2 (by omega)) (by decide)
  clear hm
  rw [if_neg (by decide)] at hp
  have eb : bkErr b = if (outsideB b.den 1 1000 || outsideB b.num 1 (10 * b.den)) = true then 2 else 0 := rfl
  rw [eb] at hp
  cases ho : outsideB b.den 1 1000 with
  | true =>
   rw [ho] at w1 hp
   rw [Bool.true_or, if_pos rfl, if_pos (by decide)] at hp
   rw [hp]
   conv => whnf
   repeat' (first|((refine PickE.map i hb (by omega) ?_);conv=>whnf)|((with_reducible refine Split.of_true ?_);conv=>whnf)|(with_reducible refine Split.neg ?_)|((with_reducible refine Split.nez (fun _=>?_) (fun _=>?_))<;>conv=>whnf)|((with_reducible refine Split.dec (fun _=>?_) (fun _=>?_))<;>conv=>whnf)|((with_reducible refine Need.mk ?_ ?_);(first|omega|rfl|decide|(refine ⟨?_,?_⟩<;>simp<;>omega)|(simp;omega));conv=>whnf)|((with_reducible refine AltK.l ?_);(conv=>whnf);(first|(refine CallK.mk _ (hN) ?_)|(refine CallK.mk _ (hF) ?_)|(refine CallK.mk _ (w1) ?_)|(refine CallK.mk _ (w2) ?_));conv=>whnf)|(exfalso;first|omega|contradiction)|fail)
   all_goals first
    | rfl
    |(exfalso; omega)
  | false =>
   have hdb : 1 ≤ b.den ∧ b.den ≤ 1000 := by simp [outsideB] at ho; omega
   rw [ho] at w1 hp
   rw [Bool.false_or] at hp
   cases ho2 : outsideB b.num 1 (10 * b.den) with
   | true =>
    rw [ho2] at w2 hp
    rw [if_pos rfl, if_pos (by decide)] at hp
    rw [hp]
    conv => whnf
    repeat' (first|((refine PickE.map i hb (by omega) ?_);conv=>whnf)|((with_reducible first|refine Split.of_true ?_|refine Split.of_false ?_);conv=>whnf)|(with_reducible refine Split.neg ?_)|((with_reducible refine Split.nez (fun _=>?_) (fun _=>?_))<;>conv=>whnf)|((with_reducible refine Split.dec (fun _=>?_) (fun _=>?_))<;>conv=>whnf)|((with_reducible refine Need.mk ?_ ?_);(first|omega|rfl|decide|(refine ⟨?_,?_⟩<;>simp<;>omega)|(simp;omega));conv=>whnf)|((with_reducible refine Wr.inr ?_ ?_);(first|omega|(simp;omega));conv=>whnf)|((with_reducible refine AltK.l ?_);(conv=>whnf);(first|(refine CallK.mk _ (hN) ?_)|(refine CallK.mk _ (hF) ?_)|(refine CallK.mk _ (w1) ?_)|(refine CallK.mk _ (w2) ?_));conv=>whnf)|(exfalso;first|omega|contradiction)|fail)
    all_goals first
     | rfl
     |(exfalso; omega)
   | false =>
    rw [ho2] at w2 hp
    simp only [Bool.false_eq_true, if_false, ne_eq, not_true_eq_false] at hp
    conv => whnf
    repeat' (first|((refine PickE.map i hb (by omega) ?_);conv=>whnf)|((with_reducible first|refine Split.of_true ?_|refine Split.of_false ?_);conv=>whnf)|(with_reducible refine Split.neg ?_)|((with_reducible refine Split.nez (fun _=>?_) (fun _=>?_))<;>conv=>whnf)|((with_reducible refine Split.dec (fun _=>?_) (fun _=>?_))<;>conv=>whnf)|((with_reducible refine Need.mk ?_ ?_);(first|omega|rfl|decide|(refine ⟨?_,?_⟩<;>simp<;>omega)|(simp;omega));conv=>whnf)|((with_reducible refine Wr.inr ?_ ?_);(first|omega|(simp;omega));conv=>whnf)|((with_reducible refine AltK.l ?_);(conv=>whnf);(first|(refine CallK.mk _ (hN) ?_)|(refine CallK.mk _ (hF) ?_)|(refine CallK.mk _ (w1) ?_)|(refine CallK.mk _ (w2) ?_));conv=>whnf)|(exfalso;first|omega|contradiction)|fail)
    all_goals first
     | exact Again.au (i + 1) ⟨by omega, hp⟩ (by omega) (by refine ⟨?_, ?_, rfl⟩<;>(repeat' (first|exact True.intro|exact rfl|(refine ⟨?_,?_⟩)|(intro h;cases h;done)|fail));done)
     |(exfalso; omega)
 rw [List.drop_eq_nil_of_le (show y.bulk.length ≤ i by omega)] at hp
 have hp : e2 = 0 := hp
 subst hp
 rw [if_neg (by decide)]
 have hbk : ∀ b ∈ y.bulk, 1 ≤ b.den ∧ b.den ≤ 1000 := fun b hb => by
  have := (z2 rfl b hb).1
  unfold bkErr at this
  split at this
  ·cases this
  ·rename_i h; simp [outsideB] at h; omega
 by_cases h5 : y.carry.length = y.bulk.length
 case neg =>
  rw [if_pos h5]
  conv => whnf
  repeat' (first|((with_reducible refine Split.nez (fun _=>?_) (fun _=>?_))<;>conv=>whnf)|((with_reducible refine Split.dec (fun _=>?_) (fun _=>?_))<;>conv=>whnf)|((with_reducible refine Need.mk ?_ ?_);(first|omega|rfl|decide|(refine ⟨?_,?_⟩<;>simp<;>omega)|(simp;omega));conv=>whnf)|(exfalso;first|omega|contradiction)|fail)
  all_goals first
   | rfl
   |(exfalso; omega)
 rw [if_neg (by simpa using h5)]
 have e0 : carGo y.bulk y.carry = carGo (y.bulk.drop 0) (y.carry.drop 0) := rfl
 conv => whnf
 repeat' (first|((with_reducible refine Split.nez (fun _=>?_) (fun _=>?_))<;>conv=>whnf)|((with_reducible refine Split.dec (fun _=>?_) (fun _=>?_))<;>conv=>whnf)|((with_reducible refine Need.mk ?_ ?_);(first|omega|rfl|decide|(refine ⟨?_,?_⟩<;>simp<;>omega)|(simp;omega));conv=>whnf)|(exfalso;first|omega|contradiction)|fail)
 refine LoopK.o2 (fun i : Nat => i ≤ y.carry.length ∧ carGo y.bulk y.carry = carGo (y.bulk.drop i) (y.carry.drop i)) (fun i => [(5, .d (.int .i64 i))]) (fun _ => []) (fun i => y.carry.length - i) 0 ⟨by omega, e0⟩ (by refine ⟨?_, ?_, rfl⟩<;>(repeat' (first|exact True.intro|exact rfl|(refine ⟨?_,?_⟩)|(intro h;cases h;done)|fail));done) ?_
 rintro i ⟨hi, hp⟩
 by_cases hil : i < y.carry.length
 ·obtain ⟨c, hc⟩ := some_of_lt hil
  obtain ⟨b, hb⟩ := some_of_lt (show i < y.bulk.length by omega)
  rw [car_at hb hc] at hp
  have hbb := hbk b (List.mem_of_getElem? hb)
  have w := ev_Within c 0 (b.den - 1)
  cases ho : outsideB c 0 (b.den - 1) with
  | true =>
   rw [ho, if_pos rfl] at hp
   rw [ho] at w
   rw [hp]
   conv => whnf
   repeat' (first|((refine PickE.map i hb (by omega) ?_);conv=>whnf)|((refine PickE.map i hc (by omega) ?_);conv=>whnf)|((with_reducible refine Split.of_true ?_);conv=>whnf)|(with_reducible refine Split.neg ?_)|((with_reducible refine Split.dec (fun _=>?_) (fun _=>?_))<;>conv=>whnf)|((with_reducible refine Need.mk ?_ ?_);(first|omega|rfl|decide|(refine ⟨?_,?_⟩<;>simp<;>omega)|(simp;omega));conv=>whnf)|((with_reducible refine Wr.inr ?_ ?_);(first|omega|(simp;omega));conv=>whnf)|((with_reducible refine AltK.l ?_);(conv=>whnf);(first|(refine CallK.mk _ (w) ?_));conv=>whnf)|(exfalso;first|omega|contradiction)|fail)
   rfl
  | false =>
   rw [ho, if_neg (by decide)] at hp
   rw [ho] at w
   conv => whnf
   repeat' (first|((refine PickE.map i hb (by omega) ?_);conv=>whnf)|((refine PickE.map i hc (by omega) ?_);conv=>whnf)|((with_reducible refine Split.of_false ?_);conv=>whnf)|(with_reducible refine Split.neg ?_)|((with_reducible refine Split.dec (fun _=>?_) (fun _=>?_))<;>conv=>whnf)|((with_reducible refine Need.mk ?_ ?_);(first|omega|rfl|decide|(refine ⟨?_,?_⟩<;>simp<;>omega)|(simp;omega));conv=>whnf)|((with_reducible refine Wr.inr ?_ ?_);(first|omega|(simp;omega));conv=>whnf)|((with_reducible refine AltK.l ?_);(conv=>whnf);(first|(refine CallK.mk _ (w) ?_));conv=>whnf)|(exfalso;first|omega|contradiction)|fail)
   exact Again.au (i + 1) ⟨by omega, hp⟩ (by omega) (by refine ⟨?_, ?_, rfl⟩<;>(repeat' (first|exact True.intro|exact rfl|(refine ⟨?_,?_⟩)|(intro h;cases h;done)|fail));done)
 ·rw [List.drop_eq_nil_of_le (show y.carry.length ≤ i by omega), carGo] at hp
  rw [hp]
  conv => whnf
  repeat' (first|((with_reducible refine Split.dec (fun _=>?_) (fun _=>?_))<;>conv=>whnf)|((with_reducible refine Need.mk ?_ ?_);(first|omega|rfl|decide|(refine ⟨?_,?_⟩<;>simp<;>omega)|(simp;omega));conv=>whnf)|(exfalso;first|omega|contradiction)|fail)
  rfl
end Go.Proofs.Try
end

section
namespace Go.Proofs.Try
open Go Go.Vm
set_option maxRecDepth 20000
set_option maxHeartbeats 4000000
def bErr (y : Yd) : Int := if 20 < y.bulk.length then 8 else if nmGo Bk.soil bkErr [] y.bulk ≠ 0 then nmGo Bk.soil bkErr [] y.bulk else if y.carry.length ≠ y.bulk.length then 10 else carGo y.bulk y.carry
theorem yd_split (y : Yd) : ydErr y = if 8 < y.pits.length then 8 else if nmGo Pt.name ptErr [] y.pits ≠ 0 then nmGo Pt.name ptErr [] y.pits else if bErr y ≠ 0 then bErr y else dpsErr y := by
 unfold ydErr bErr
 by_cases h1 : 8 < y.pits.length
 ·rw [if_pos h1, if_pos h1]
 rw [if_neg h1, if_neg h1]
 by_cases h2 : nmGo Pt.name ptErr [] y.pits ≠ 0
 ·rw [if_pos h2, if_pos h2]
 rw [if_neg h2, if_neg h2]
 by_cases h3 : 20 < y.bulk.length
 ·simp [h3]
 simp only [h3, if_false]
 by_cases h4 : nmGo Bk.soil bkErr [] y.bulk ≠ 0
 ·simp [h4]
 simp only [h4, if_false]
 by_cases h5 : y.carry.length ≠ y.bulk.length
 ·simp [h5]
 simp only [h5, if_false]
theorem ev_DCheckR (y : Yd) (hs : smallP y) : Ev Try.prog 26 [ydD y] (iD (ydErr y)) := by
 have hlp : (y.pits.map ptD).length = y.pits.length := List.length_map _
 have hld : (y.deps.map dpD).length = y.deps.length := List.length_map _
 rw [yd_split]
 have hB : Ev Try.prog 74 [ydD y] (iD (bErr y)) := ev_bulkingErr y
 by_cases h1 : 8 < y.pits.length
 ·rw [if_pos h1]
  refine ev_of_awp tysOk mixed (fn := Try.f26) Try.func26 rfl rfl rfl ?_
  conv => whnf
  repeat' (first|((with_reducible refine Split.dec (fun _=>?_) (fun _=>?_))<;>conv=>whnf)|(exfalso;first|omega|contradiction)|fail)
  all_goals first
   | rfl
   |(exfalso; omega)
 rw [if_neg h1]
 have z1 := @nmGo_zero _ Pt.name ptErr y.pits []
 have e0 : nmGo Pt.name ptErr [] y.pits = nmGo Pt.name ptErr (y.pits.take 0) (y.pits.drop 0) := rfl
 generalize hE : nmGo Pt.name ptErr [] y.pits = e1 at *
 refine ev_of_awp tysOk mixed (fn := Try.f26) Try.func26 rfl rfl rfl ?_
 conv => whnf
 repeat' (first|((with_reducible refine Split.dec (fun _=>?_) (fun _=>?_))<;>conv=>whnf)|(exfalso;first|omega|contradiction)|fail)
 refine LoopK.o2 (fun i : Nat => i ≤ y.pits.length ∧ e1 = nmGo Pt.name ptErr (y.pits.take i) (y.pits.drop i)) (fun i => [(3, .d (.int .i64 i))]) (fun _ => []) (fun i => y.pits.length - i) 0 ⟨by omega, e0⟩ (by refine ⟨?_, ?_, rfl⟩<;>(repeat' (first|exact True.intro|exact rfl|(refine ⟨?_,?_⟩)|(intro h;cases h;done)|fail));done) ?_
 rintro i ⟨hi, hp⟩
 by_cases hil : i < y.pits.length
 ·obtain ⟨p, hpi⟩ := some_of_lt hil
  rw [nmGo_at hpi] at hp
  have hQ := ev_pitErr p (y.pits.take i) (by rw [List.length_take]; omega) (hs p (List.mem_of_getElem? hpi))
  have hd : ((y.pits.map ptD).take ((i : Int)).toNat).drop (Int.toNat 0) = (y.pits.take i).map ptD := by rw [Int.toNat_natCast, Int.toNat_zero, List.drop_zero, List.map_take]
  rw [← hd] at hQ
  by_cases hz : (if nameB p.name = false then 4 else if metB Pt.name (y.pits.take i) p.name = true then 5 else ptErr p) = 0
  ·rw [hz] at hQ
   have hp : e1 = nmGo Pt.name ptErr (y.pits.take (i + 1)) (y.pits.drop (i + 1)) := by
    rw [hp]
    split at hz
    ·cases hz
    rename_i g1
    rw [if_neg g1]
    split at hz
    ·cases hz
    rename_i g2
    rw [if_neg g2, if_neg (by simpa using hz)]
   conv => whnf
   repeat' (first|((refine PickE.map i hpi (by omega) ?_);conv=>whnf)|((with_reducible refine Split.is_false ?_ ?_);decide;conv=>whnf)|((with_reducible refine Split.dec (fun _=>?_) (fun _=>?_))<;>conv=>whnf)|((with_reducible refine Need.mk ?_ ?_);(first|omega|rfl|decide|(refine ⟨?_,?_⟩<;>simp<;>omega)|(simp;omega));conv=>whnf)|((with_reducible refine Wr.inr ?_ ?_);(first|omega|(simp;omega));conv=>whnf)|((with_reducible refine AltK.l ?_);(conv=>whnf);(first|(refine CallK.mk _ (hQ) ?_));conv=>whnf)|(exfalso;first|omega|contradiction)|fail)
   exact Again.au (i + 1) ⟨by omega, hp⟩ (by omega) (by refine ⟨?_, ?_, rfl⟩<;>(repeat' (first|exact True.intro|exact rfl|(refine ⟨?_,?_⟩)|(intro h;cases h;done)|fail));done)
  ·have hp : e1 = (if nameB p.name = false then 4 else if metB Pt.name (y.pits.take i) p.name = true then 5 else ptErr p) := by
    rw [hp]
    by_cases g1 : nameB p.name = false
    ·rw [if_pos g1, if_pos g1]
    rw [if_neg g1, if_neg g1]
    by_cases g2 : metB Pt.name (y.pits.take i) p.name = true
    ·rw [if_pos g2, if_pos g2]
    rw [if_neg g2, if_neg g2] at *
    rw [if_neg g1] at hz
    rw [if_pos hz]
   rw [← hp] at hQ hz
   rw [if_pos hz]
   conv => whnf
   repeat' (first|((refine PickE.map i hpi (by omega) ?_);conv=>whnf)|((with_reducible refine Split.nez (fun _=>?_) (fun _=>?_))<;>conv=>whnf)|((with_reducible refine Split.dec (fun _=>?_) (fun _=>?_))<;>conv=>whnf)|((with_reducible refine Need.mk ?_ ?_);(first|omega|rfl|decide|(refine ⟨?_,?_⟩<;>simp<;>omega)|(simp;omega));conv=>whnf)|((with_reducible refine Wr.inr ?_ ?_);(first|omega|(simp;omega));conv=>whnf)|((with_reducible refine AltK.l ?_);(conv=>whnf);(first|(refine CallK.mk _ (hQ) ?_));conv=>whnf)|(exfalso;first|omega|contradiction)|fail)
   rfl
 rw [List.drop_eq_nil_of_le (show y.pits.length ≤ i by omega)] at hp
 have hp : e1 = 0 := hp
 subst hp
 rw [if_neg (by decide)]
 have hP : ∀ p ∈ y.pits, PtOk p := fun p hp => pt_ok (z1 rfl p hp).1
 generalize bErr y = eb at *
 by_cases hz : eb = 0
 case neg =>
  rw [if_pos hz]
  conv => whnf
  repeat' (first|((with_reducible refine Split.nez (fun _=>?_) (fun _=>?_))<;>conv=>whnf)|((with_reducible refine Split.dec (fun _=>?_) (fun _=>?_))<;>conv=>whnf)|((with_reducible refine Need.mk ?_ ?_);(first|omega|rfl|decide|(refine ⟨?_,?_⟩<;>simp<;>omega)|(simp;omega));conv=>whnf)|((with_reducible refine AltK.l ?_);(conv=>whnf);(first|(refine CallK.mk _ (hB) ?_));conv=>whnf)|(exfalso;first|omega|contradiction)|fail)
  rfl
 subst hz
 rw [if_neg (by decide)]
 unfold dpsErr
 by_cases h0 : 200 < y.deps.length
 ·rw [if_pos h0]
  conv => whnf
  repeat' (first|((with_reducible refine Split.is_false ?_ ?_);decide;conv=>whnf)|((with_reducible refine Split.dec (fun _=>?_) (fun _=>?_))<;>conv=>whnf)|((with_reducible refine Need.mk ?_ ?_);(first|omega|rfl|decide|(refine ⟨?_,?_⟩<;>simp<;>omega)|(simp;omega));conv=>whnf)|((with_reducible refine AltK.l ?_);(conv=>whnf);(first|(refine CallK.mk _ (hB) ?_));conv=>whnf)|(exfalso;first|omega|contradiction)|fail)
  all_goals first
   | rfl
   |(exfalso; omega)
 rw [if_neg h0]
 have e0 : dpGo y [] y.deps = dpGo y (y.deps.take 0) (y.deps.drop 0) := rfl
 conv => whnf
 repeat' (first|((with_reducible refine Split.is_false ?_ ?_);decide;conv=>whnf)|((with_reducible refine Split.dec (fun _=>?_) (fun _=>?_))<;>conv=>whnf)|((with_reducible refine Need.mk ?_ ?_);(first|omega|rfl|decide|(refine ⟨?_,?_⟩<;>simp<;>omega)|(simp;omega));conv=>whnf)|((with_reducible refine AltK.l ?_);(conv=>whnf);(first|(refine CallK.mk _ (hB) ?_));conv=>whnf)|(exfalso;first|omega|contradiction)|fail)
 refine LoopK.o2 (fun i : Nat => i ≤ y.deps.length ∧ dpGo y [] y.deps = dpGo y (y.deps.take i) (y.deps.drop i)) (fun i => [(6, .d (.int .i64 i))]) (fun _ => []) (fun i => y.deps.length - i) 0 ⟨by omega, e0⟩ (by refine ⟨?_, ?_, rfl⟩<;>(repeat' (first|exact True.intro|exact rfl|(refine ⟨?_,?_⟩)|(intro h;cases h;done)|fail));done) ?_
 rintro i ⟨hi, hp⟩
 by_cases hil : i < y.deps.length
 ·obtain ⟨d, hd⟩ := some_of_lt hil
  rw [dpGo_at hd] at hp
  have w1 := ev_Within d.batch 1 1000000
  have w2 := ev_Within d.vol 0 100000000000000
  have w3 : Ev Try.prog 39 [.sl 6 (y.pits.map ptD), .str d.pit] (iD (pitI y d.pit)) := ev_Find9 y.pits d.pit (by omega)
  have w4 := ev_Deposited (y.deps.take i) d.batch (by rw [List.length_take]; omega)
  have hdd : ((y.deps.map dpD).take ((i : Int)).toNat).drop (Int.toNat 0) = (y.deps.take i).map dpD := by rw [Int.toNat_natCast, Int.toNat_zero, List.drop_zero, List.map_take]
  rw [← hdd] at w4
  generalize (y.deps.take i).any (fun x => x.batch == d.batch) = sn at *
  generalize outsideB d.batch 1 1000000 = b1 at *
  generalize outsideB d.vol 0 100000000000000 = b2 at *
  cases b1 with
  | true =>
   rw [if_pos rfl] at hp
   conv => whnf
   repeat' (first|((refine PickE.map i hd (by omega) ?_);conv=>whnf)|((with_reducible refine Split.of_true ?_);conv=>whnf)|(with_reducible refine Split.neg ?_)|((with_reducible refine Split.dec (fun _=>?_) (fun _=>?_))<;>conv=>whnf)|((with_reducible refine Need.mk ?_ ?_);(first|omega|rfl|decide|(refine ⟨?_,?_⟩<;>simp<;>omega)|(simp;omega));conv=>whnf)|((with_reducible refine AltK.l ?_);(conv=>whnf);(first|(refine CallK.mk _ (w1) ?_)|(refine CallK.mk _ (w2) ?_)|(refine CallK.mk _ (w3) ?_)|(refine CallK.mk _ (w4) ?_));conv=>whnf)|(exfalso;first|omega|contradiction)|fail)
   rw [hp]; rfl
  | false =>
  rw [if_neg (by decide)] at hp
  cases sn with
  | true =>
   rw [if_pos rfl] at hp
   conv => whnf
   repeat' (first|((refine PickE.map i hd (by omega) ?_);conv=>whnf)|((with_reducible first|refine Split.of_true ?_|refine Split.of_false ?_);conv=>whnf)|(with_reducible refine Split.neg ?_)|((with_reducible refine Split.dec (fun _=>?_) (fun _=>?_))<;>conv=>whnf)|((with_reducible refine Need.mk ?_ ?_);(first|omega|rfl|decide|(refine ⟨?_,?_⟩<;>simp<;>omega)|(simp;omega));conv=>whnf)|((with_reducible refine AltK.l ?_);(conv=>whnf);(first|(refine CallK.mk _ (w1) ?_)|(refine CallK.mk _ (w2) ?_)|(refine CallK.mk _ (w3) ?_)|(refine CallK.mk _ (w4) ?_));conv=>whnf)|(exfalso;first|omega|contradiction)|fail)
   rw [hp]; rfl
  | false =>
  rw [if_neg (by decide)] at hp
  by_cases hpt : pitI y d.pit < 0
  ·rw [if_pos hpt] at hp
   conv => whnf
   repeat' (first|((refine PickE.map i hd (by omega) ?_);conv=>whnf)|((with_reducible refine Split.of_false ?_);conv=>whnf)|(with_reducible refine Split.neg ?_)|((with_reducible refine Split.dec (fun _=>?_) (fun _=>?_))<;>conv=>whnf)|((with_reducible refine Split.mk (fun _=>?_) (fun _=>?_))<;>conv=>whnf)|((with_reducible refine Need.mk ?_ ?_);(first|omega|rfl|decide|(refine ⟨?_,?_⟩<;>simp<;>omega)|(simp;omega));conv=>whnf)|((with_reducible refine Wr.inr ?_ ?_);(first|omega|(simp;omega));conv=>whnf)|((with_reducible refine AltK.l ?_);(conv=>whnf);(first|(refine CallK.mk _ (w1) ?_)|(refine CallK.mk _ (w2) ?_)|(refine CallK.mk _ (w3) ?_)|(refine CallK.mk _ (w4) ?_));conv=>whnf)|(exfalso;first|omega|contradiction)|fail)
   all_goals first
    |(rw [hp]; rfl)
    |(exfalso; omega)
  ·rw [if_neg hpt] at hp
   cases b2 with
   | true =>
    rw [if_pos rfl] at hp
    conv => whnf
    repeat' (first|((refine PickE.map i hd (by omega) ?_);conv=>whnf)|((with_reducible first|refine Split.of_true ?_|refine Split.of_false ?_);conv=>whnf)|(with_reducible refine Split.neg ?_)|((with_reducible refine Split.dec (fun _=>?_) (fun _=>?_))<;>conv=>whnf)|((with_reducible refine Need.mk ?_ ?_);(first|omega|rfl|decide|(refine ⟨?_,?_⟩<;>simp<;>omega)|(simp;omega));conv=>whnf)|((with_reducible refine AltK.l ?_);(conv=>whnf);(first|(refine CallK.mk _ (w1) ?_)|(refine CallK.mk _ (w2) ?_)|(refine CallK.mk _ (w3) ?_)|(refine CallK.mk _ (w4) ?_));conv=>whnf)|(exfalso;first|omega|contradiction)|fail)
    all_goals first
     |(rw [hp]; rfl)
     |(exfalso; omega)
   | false =>
    rw [if_neg (by decide)] at hp
    conv => whnf
    repeat' (first|((refine PickE.map i hd (by omega) ?_);conv=>whnf)|((with_reducible refine Split.of_false ?_);conv=>whnf)|(with_reducible refine Split.neg ?_)|((with_reducible refine Split.dec (fun _=>?_) (fun _=>?_))<;>conv=>whnf)|((with_reducible refine Need.mk ?_ ?_);(first|omega|rfl|decide|(refine ⟨?_,?_⟩<;>simp<;>omega)|(simp;omega));conv=>whnf)|((with_reducible refine Wr.inr ?_ ?_);(first|omega|(simp;omega));conv=>whnf)|((with_reducible refine AltK.l ?_);(conv=>whnf);(first|(refine CallK.mk _ (w1) ?_)|(refine CallK.mk _ (w2) ?_)|(refine CallK.mk _ (w3) ?_)|(refine CallK.mk _ (w4) ?_));conv=>whnf)|(exfalso;first|omega|contradiction)|fail)
    all_goals first
     | exact Again.au (i + 1) ⟨by omega, hp⟩ (by omega) (by refine ⟨?_, ?_, rfl⟩<;>(repeat' (first|exact True.intro|exact rfl|(refine ⟨?_,?_⟩)|(intro h;cases h;done)|fail));done)
     |(exfalso; omega)
 ·rw [List.drop_eq_nil_of_le (show y.deps.length ≤ i by omega)] at hp
  have hp : dpGo y [] y.deps = 0 := hp
  have hv := dpGo_vol hp
  rw [hp, if_neg (by decide)]
  conv => whnf
  repeat' (first|((with_reducible refine Split.dec (fun _=>?_) (fun _=>?_))<;>conv=>whnf)|((with_reducible refine Need.mk ?_ ?_);(first|omega|rfl|decide|(refine ⟨?_,?_⟩<;>simp<;>omega)|(simp;omega));conv=>whnf)|(exfalso;first|omega|contradiction)|fail)
  refine LoopK.o2 (fun k : Nat => k ≤ y.pits.length ∧ (y.pits.take k).any (fun p => decide (roomS y p < 0)) = false) (fun k => [(8, .d (.int .i64 k))]) (fun _ => []) (fun k => y.pits.length - k) 0 ⟨by omega, rfl⟩ (by refine ⟨?_, ?_, rfl⟩<;>(repeat' (first|exact True.intro|exact rfl|(refine ⟨?_,?_⟩)|(intro h;cases h;done)|fail));done) ?_
  rintro k ⟨hk, hq⟩
  by_cases hkl : k < y.pits.length
  ·obtain ⟨p, hpk⟩ := some_of_lt hkl
   have hR := ev_Taken9 y hpk hv (by omega)
   have hC := ev_Capacity9 (hP p (List.mem_of_getElem? hpk))
   have hy := @any_yes _ (fun p => decide (roomS y p < 0)) y.pits k p hpk
   have hno := @any_no _ (fun p => decide (roomS y p < 0)) y.pits k p hpk hq
   have er : roomS y p = capS p - takS p.name y.deps := rfl
   rw [er] at hy hno
   generalize takS p.name y.deps = tk at *
   generalize capS p = cp at *
   conv => whnf
   repeat' (first|((refine PickE.map k hpk (by omega) ?_);conv=>whnf)|((with_reducible refine Split.dec (fun _=>?_) (fun _=>?_))<;>conv=>whnf)|((with_reducible refine Need.mk ?_ ?_);(first|omega|rfl|decide|(refine ⟨?_,?_⟩<;>simp<;>omega)|(simp;omega));conv=>whnf)|((with_reducible refine Wr.inr ?_ ?_);(first|omega|(simp;omega));conv=>whnf)|((with_reducible refine AltK.l ?_);(conv=>whnf);(first|(refine CallK.mk _ (hR) ?_)|(refine CallK.mk _ (hC) ?_));conv=>whnf)|(exfalso;first|omega|contradiction)|fail)
   ·rw [hy (by simp; omega), if_pos rfl]; rfl
   ·exact Again.au (k + 1) ⟨by omega, hno (by simp;omega)⟩ (by omega) (by refine ⟨?_, ?_, rfl⟩<;>(repeat' (first|exact True.intro|exact rfl|(refine ⟨?_,?_⟩)|(intro h;cases h;done)|fail));done)
  ·rw [List.take_of_length_le (by omega)] at hq
   rw [hq]
   conv => whnf
   repeat' (first|((with_reducible refine Split.dec (fun _=>?_) (fun _=>?_))<;>conv=>whnf)|(exfalso;first|omega|contradiction)|fail)
   rfl
theorem ev_BatchErr (y : Yd) (b : Bt) (hn : y.bulk.length ≤ 1000000) : Ev Try.prog 57 [ydD y, btD b] (iD (batErr y b)) := by
 have w1 := ev_Within b.n 1 1000000
 have w2 := ev_Within b.bed 0 1000000000000
 have w3 := ev_Within b.over 0 b.bed
 have w4 := ev_Within b.cls 0 9
 have w5 : Ev Try.prog 18 [.sl 3 (y.bulk.map bkD), .str b.soil] (iD (facI y b.soil)) := ev_Factor9 y.bulk b.soil hn
 unfold batErr
 generalize outsideB b.n 1 1000000 = a1 at *
 generalize outsideB b.bed 0 1000000000000 = a2 at *
 generalize outsideB b.over 0 b.bed = a3 at *
 generalize outsideB b.cls 0 9 = a4 at *
 generalize facI y b.soil = f at *
 by_cases hf : f < 0
 ·rw [if_pos hf]
  refine ev_of_awp tysOk mixed (fn := Try.f57) Try.func57 rfl rfl rfl ?_
  conv => whnf
  repeat' (first|((with_reducible refine Split.of_true ?_);conv=>whnf)|(with_reducible refine Split.neg ?_)|((with_reducible refine Split.dec (fun _=>?_) (fun _=>?_))<;>conv=>whnf)|((with_reducible refine Split.mk (fun _=>?_) (fun _=>?_))<;>conv=>whnf)|((with_reducible refine AltK.l ?_);(conv=>whnf);(first|(refine CallK.mk _ (w1) ?_)|(refine CallK.mk _ (w2) ?_)|(refine CallK.mk _ (w3) ?_)|(refine CallK.mk _ (w4) ?_)|(refine CallK.mk _ (w5) ?_));conv=>whnf)|(exfalso;first|omega|contradiction)|fail)
  all_goals first
   |(simp_all [retOf, iD]; done)
   |(exfalso; omega)
 ·rw [if_neg hf]
  refine ev_of_awp tysOk mixed (fn := Try.f57) Try.func57 rfl rfl rfl ?_
  conv => whnf
  repeat' (first|((with_reducible refine Split.of_true ?_);conv=>whnf)|(with_reducible refine Split.neg ?_)|((with_reducible refine Split.dec (fun _=>?_) (fun _=>?_))<;>conv=>whnf)|((with_reducible refine Split.mk (fun _=>?_) (fun _=>?_))<;>conv=>whnf)|((with_reducible refine AltK.l ?_);(conv=>whnf);(first|(refine CallK.mk _ (w1) ?_)|(refine CallK.mk _ (w2) ?_)|(refine CallK.mk _ (w3) ?_)|(refine CallK.mk _ (w4) ?_)|(refine CallK.mk _ (w5) ?_));conv=>whnf)|(exfalso;first|omega|contradiction)|fail)
  all_goals first
   |(simp_all [retOf, iD]; done)
   |(exfalso; omega)
theorem ev_with9 (y : Yd) (b : Bt) (hs : smallP y) : Ev Try.prog 15 [ydD y, btD b] (iD (withErr y b)) := by
 have h1 := ev_DCheckR y hs
 unfold withErr
 by_cases h0 : ydErr y = 0
 ·have h2 := ev_BatchErr y b (by have := bulk_few h0; omega)
  rw [h0] at h1
  rw [if_neg (by simpa using h0)]
  refine ev_of_awp tysOk mixed (fn := Try.f15) Try.func15 rfl rfl rfl ?_
  conv => whnf
  repeat' (first|((with_reducible refine Split.is_false ?_ ?_);decide;conv=>whnf)|((with_reducible refine AltK.l ?_);(conv=>whnf);(first|(refine CallK.mk _ (h1) ?_)|(refine CallK.mk _ (h2) ?_));conv=>whnf)|fail)
  rfl
 ·rw [if_pos h0]
  refine ev_of_awp tysOk mixed (fn := Try.f15) Try.func15 rfl rfl rfl ?_
  conv => whnf
  repeat' (first|((with_reducible refine Split.nez (fun _=>?_) (fun _=>?_))<;>conv=>whnf)|((with_reducible refine AltK.l ?_);(conv=>whnf);(first|(refine CallK.mk _ (h1) ?_));conv=>whnf)|(exfalso;first|omega|contradiction)|fail)
  rfl
end Go.Proofs.Try
end

section
namespace Go.Proofs.Try
open Go Go.Vm
set_option maxRecDepth 20000
set_option maxHeartbeats 4000000
theorem ev_Bulked9 {y : Yd} {b : Bt} {k : Nat} {f : Bk} {c : Int} (h : Wok y b k f c) : Ev Try.prog 17 [ydD y, btD b, iD c] (.tup [iD (volN b f c), iD (carN b f c)]) := by
 have hbl := h.yok.bulk
 have hd := h.fo.den
 have hco := h.co
 have hnum := h.fo.num
 have hbed := h.bok.bed
 have hov := h.bok.over
 have hF : Ev Try.prog 18 [.sl 3 (y.bulk.map bkD), .str b.soil] (iD (facI y b.soil)) := ev_Factor9 y.bulk b.soil (by omega)
 rw [h.ixk] at hF
 obtain ⟨m1, m2⟩ := bulkN_bd h.bok h.fo (c := c) (by omega)
 have e1 : ((b.bed - b.over) * f.num + c).tmod f.den = ((b.bed - b.over) * f.num + c) % f.den := Int.tmod_eq_emod_of_nonneg (by omega)
 unfold volN carN
 refine ev_of_awp tysOk mixed (fn := Try.f17) Try.func17 rfl rfl rfl ?_
 conv => whnf
 repeat' (first|((refine PickE.map k h.fat (by omega) ?_);conv=>whnf)|((with_reducible refine Need.mk ?_ ?_);(first|omega|rfl|decide|(refine ⟨?_,?_⟩<;>simp<;>omega)|(simp;omega));conv=>whnf)|((with_reducible refine Wr.quo ?_ ?_ ?_ ?_);omega;omega;omega;conv=>whnf)|((with_reducible refine Wr.inr ?_ ?_);(first|omega|(simp;omega));conv=>whnf)|((with_reducible refine AltK.l ?_);(conv=>whnf);(first|(refine CallK.mk _ (hF) ?_));conv=>whnf)|fail)
 rw [e1]; rfl
end Go.Proofs.Try
end

section
namespace Go.Proofs.Try
open Go Go.Vm
set_option maxRecDepth 20000
set_option maxHeartbeats 8000000
theorem ev_PlaceNo {y : Yd} {b : Bt} {s : ByteArray} (hsm : smallP y) (h0 : withErr y b ≠ 0) : Ev Try.prog 19 [ydD y, btD b, .str s] (.tup [ydD y0, iD (withErr y b)]) := by
 have h1 := ev_CheckBatch y b hsm
 refine ev_of_awp tysOk mixed (fn := Try.f19) Try.func19 rfl rfl rfl ?_
 conv => whnf
 repeat' (first|((with_reducible refine Split.nez (fun _=>?_) (fun _=>?_))<;>conv=>whnf)|((with_reducible refine Need.mk ?_ ?_);(first|omega|rfl|decide|(refine ⟨?_,?_⟩<;>simp<;>omega)|(simp;omega));conv=>whnf)|((with_reducible refine AltK.l ?_);(conv=>whnf);(first|(refine CallK.mk _ (h1) ?_));conv=>whnf)|(exfalso;first|omega|contradiction)|fail)
 rfl
end Go.Proofs.Try
end

section
namespace Go.Proofs.Try
open Go Go.Vm
set_option maxRecDepth 20000
set_option maxHeartbeats 8000000
theorem ev_CopyInts9 (l : List Int) (hn : l.length ≤ 1000000) : Ev Try.prog 56 [.sl 1 (l.map iD)] (.sl 1 (l.map iD)) := by
 have hl : (l.map iD).length = l.length := List.length_map _
 refine ev_of_awp tysOk mixed (fn := Try.f56) Try.func56 rfl rfl rfl ?_
 conv => whnf
 repeat' (first|((with_reducible refine Need.mk ?_ ?_);(first|omega|rfl|decide|(refine ⟨?_,?_⟩<;>simp<;>omega)|(simp;omega));conv=>whnf)|fail)
 rfl
theorem ev_Copied (y : Yd) (h1 : y.pits.length ≤ 1000) (h2 : y.bulk.length ≤ 1000) (h3 : y.deps.length ≤ 1000) (h4 : y.carry.length ≤ 1000) (hcl : ∀ p ∈ y.pits, p.cls.length ≤ 100000) : Ev Try.prog 14 [ydD y] (ydD y) := by
 have hlp : (y.pits.map ptD).length = y.pits.length := List.length_map _
 have hlb : (y.bulk.map bkD).length = y.bulk.length := List.length_map _
 have hld : (y.deps.map dpD).length = y.deps.length := List.length_map _
 have hlc : (y.carry.map iD).length = y.carry.length := List.length_map _
 have hC := ev_CopyInts9 y.carry (by omega)
 refine ev_of_awp tysOk mixed (fn := Try.f14) Try.func14 rfl rfl rfl ?_
 conv => whnf
 repeat' (first|((with_reducible refine Need.mk ?_ ?_);(first|omega|rfl|decide|(refine ⟨?_,?_⟩<;>simp<;>omega)|(simp;omega));conv=>whnf)|fail)
 refine LoopK.o2 (fun i : Nat => i ≤ y.pits.length) (fun i => [(4, .d (.int .i64 i))]) (fun i => [(1, .var [.own 200 6 ((y.pits.take i).map ptD).length, .d (.sl 3 (y.bulk.map bkD)), .d (.sl 3 (y.deps.map dpD)), .d (.sl 1 (y.carry.map iD))] false), (200, .row 60 6 ((y.pits.take i).map ptD) false)]) (fun i => y.pits.length - i) 0 (by omega) (by refine ⟨?_, ?_, rfl⟩<;>(repeat' (first|exact True.intro|exact rfl|(refine ⟨?_,?_⟩)|(intro h;cases h;done)|fail));done) ?_
 rintro i hi
 have htl : ((y.pits.take i).map ptD).length = i := by simp; omega
 by_cases hil : i < y.pits.length
 ·obtain ⟨p, hp⟩ := some_of_lt hil
  have hc := ev_CopyInts9 p.cls (Nat.le_trans (hcl p (List.mem_of_getElem? hp)) (by decide))
  have hmp1 : (y.pits.take i).map ptD ++ ptD p :: List.replicate 0 (ptD p) = (y.pits.take (i + 1)).map ptD := by rw [take_snoc hp]; simp
  have hmp2 : (y.pits.take i).map ptD ++ [ptD p] = (y.pits.take (i + 1)).map ptD := by rw [take_snoc hp]; simp
  conv => whnf
  repeat' (first|((refine PickE.map i hp (by omega) ?_);conv=>whnf)|((with_reducible refine Split.dec (fun _=>?_) (fun _=>?_))<;>conv=>whnf)|((with_reducible refine Need.mk ?_ ?_);(first|omega|rfl|decide|(refine ⟨?_,?_⟩<;>simp<;>omega)|(simp;omega));conv=>whnf)|((with_reducible refine Wr.inr ?_ ?_);(first|omega|(simp;omega));conv=>whnf)|((with_reducible refine AltK.l ?_);(conv=>whnf);(first|(refine CallK.mk _ (hc) ?_));conv=>whnf)|(exfalso;first|omega|contradiction)|fail)
  exact Again.au (i + 1) (by omega) (by omega) (by refine ⟨?_, ?_, rfl⟩<;>(repeat' (first|exact True.intro|exact rfl|(refine ⟨?_,?_⟩)|(intro h;cases h;done)|exact hmp1|((first|refine own_congr ?_|refine int_congr ?_);simp [List.length_map];omega)|fail));done)
 ·have e : y.pits.take i = y.pits := List.take_of_length_le (by omega)
  rw [e] at htl ⊢
  conv => whnf
  repeat' (first|((with_reducible refine Split.dec (fun _=>?_) (fun _=>?_))<;>conv=>whnf)|((with_reducible refine Need.mk ?_ ?_);(first|omega|rfl|decide|(refine ⟨?_,?_⟩<;>simp<;>omega)|(simp;omega));conv=>whnf)|((with_reducible refine AltK.l ?_);(conv=>whnf);(first|(refine CallK.mk _ (hC) ?_));conv=>whnf)|(exfalso;first|omega|contradiction)|fail)
  rfl
def smallA (y : Yd) : Bool := !((decide (y.pits.length > 4) && decide (y.pits.length ≤ 8)) || decide (y.pits.length > 12) || (decide (y.bulk.length > 4) && decide (y.bulk.length ≤ 20)) || decide (y.bulk.length > 25) || decide (y.carry.length > 30) || (decide (y.deps.length > 8) && decide (y.deps.length ≤ 200)) || decide (y.deps.length > 205))
def smallB (y : Yd) : Bool := smallA y && y.pits.all (fun p => decide (p.name.size ≤ 40) && decide (p.cls.length ≤ 12)) && y.bulk.all (fun b => decide (b.soil.size ≤ 40)) && y.deps.all (fun d => decide (d.pit.size ≤ 40))
structure SmOk (y : Yd) : Prop where
 p : y.pits.length ≤ 4 ∨ (8 < y.pits.length ∧ y.pits.length ≤ 12)
 b : y.bulk.length ≤ 4 ∨ (20 < y.bulk.length ∧ y.bulk.length ≤ 25)
 c : y.carry.length ≤ 30
 d : y.deps.length ≤ 8 ∨ (200 < y.deps.length ∧ y.deps.length ≤ 205)
theorem sm_ok {y : Yd} (h : smallA y = true) : SmOk y := by
 simp only [smallA, Bool.not_eq_true', Bool.or_eq_false_iff, Bool.and_eq_false_iff, decide_eq_false_iff_not] at h
 exact ⟨by omega, by omega, by omega, by omega⟩
theorem sm_no {y : Yd} (h : smallA y = false) : ¬ SmOk y := by
 intro ⟨h1, h2, h3, h4⟩
 have : smallA y = true := by
  simp only [smallA, Bool.not_eq_true', Bool.or_eq_false_iff, Bool.and_eq_false_iff, decide_eq_false_iff_not]
  omega
 rw [h] at this; cases this
theorem all_snoc9 {α : Type} {l : List α} {p : α → Bool} {i : Nat} {m : α} (hm : l[i]? = some m) (h : (l.take i).all p = true) (hp : p m = true) : (l.take (i + 1)).all p = true := by
 rw [take_snoc hm, List.all_append, h]; simp [hp]
theorem all_not9 {α : Type} {l : List α} {p : α → Bool} {i : Nat} {m : α} (hm : l[i]? = some m) (hp : p m = false) : l.all p = false := by
 rw [List.all_eq_false]; exact ⟨m, List.mem_of_getElem? hm, by simp [hp]⟩
theorem ev_Small (y : Yd) : Ev Try.prog 12 [ydD y] (.bool (smallB y)) := by
 have hlp : (y.pits.map ptD).length = y.pits.length := List.length_map _
 have hlb : (y.bulk.map bkD).length = y.bulk.length := List.length_map _
 have hld : (y.deps.map dpD).length = y.deps.length := List.length_map _
 have hlc : (y.carry.map iD).length = y.carry.length := List.length_map _
 cases hA : smallA y with
 | false =>
  have hno := sm_no hA
  have e : smallB y = false := by rw [smallB, hA]; rfl
  have hx : ¬ ((y.pits.length ≤ 4 ∨ (8 < y.pits.length ∧ y.pits.length ≤ 12)) ∧ (y.bulk.length ≤ 4 ∨ (20 < y.bulk.length ∧ y.bulk.length ≤ 25)) ∧ y.carry.length ≤ 30 ∧ (y.deps.length ≤ 8 ∨ (200 < y.deps.length ∧ y.deps.length ≤ 205))) := fun h => hno ⟨h.1, h.2.1, h.2.2.1, h.2.2.2⟩
  rw [e]
  refine ev_of_awp tysOk mixed (fn := Try.f12) Try.func12 rfl rfl rfl ?_
  conv => whnf
  repeat' (first|((with_reducible first|refine Split.of_true ?_|refine Split.of_false ?_);conv=>whnf)|((with_reducible refine Split.dec (fun _=>?_) (fun _=>?_))<;>conv=>whnf)|(exfalso;first|omega|contradiction)|fail)
  all_goals first
   | rfl
   |(exfalso; omega)
 | true =>
 obtain ⟨q1, q2, q3, q4⟩ := sm_ok hA
 have e : smallB y = (y.pits.all (fun p => decide (p.name.size ≤ 40) && decide (p.cls.length ≤ 12)) && y.bulk.all (fun b => decide (b.soil.size ≤ 40)) && y.deps.all (fun d => decide (d.pit.size ≤ 40))) := by rw [smallB, hA, Bool.true_and]
 rw [e]
 clear e hA
 refine ev_of_awp tysOk mixed (fn := Try.f12) Try.func12 rfl rfl rfl ?_
 conv => whnf
 repeat' (first|((with_reducible first|refine Split.of_true ?_|refine Split.of_false ?_);conv=>whnf)|((with_reducible refine Split.dec (fun _=>?_) (fun _=>?_))<;>conv=>whnf)|(exfalso;first|omega|contradiction)|fail)
 all_goals first
  |(exfalso; omega)
  | skip
 all_goals
  refine LoopK.o2 (fun i : Nat => i ≤ y.pits.length ∧ (y.pits.take i).all (fun p => decide (p.name.size ≤ 40) && decide (p.cls.length ≤ 12)) = true) (fun i => [(3, .d (.int .i64 i))]) (fun _ => []) (fun i => y.pits.length - i) 0 ⟨by omega, rfl⟩ (by refine ⟨?_, ?_, rfl⟩<;>(repeat' (first|exact True.intro|exact rfl|(refine ⟨?_,?_⟩)|(intro h;cases h;done)|fail));done) ?_
  rintro i ⟨hi, hp⟩
  by_cases hil : i < y.pits.length
  ·obtain ⟨p, hpi⟩ := some_of_lt hil
   have hcl : (p.cls.map iD).length = p.cls.length := List.length_map _
   have hn := @all_not9 _ y.pits (fun p => decide (p.name.size ≤ 40) && decide (p.cls.length ≤ 12)) i p hpi
   have hy := @all_snoc9 _ y.pits (fun p => decide (p.name.size ≤ 40) && decide (p.cls.length ≤ 12)) i p hpi hp
   clear hp
   conv => whnf
   repeat' (first|((refine PickE.map i hpi (by omega) ?_);conv=>whnf)|((with_reducible refine Split.of_true ?_);conv=>whnf)|((with_reducible refine Split.dec (fun _=>?_) (fun _=>?_))<;>conv=>whnf)|((with_reducible refine Need.mk ?_ ?_);(first|omega|rfl|decide|(refine ⟨?_,?_⟩<;>simp<;>omega)|(simp;omega));conv=>whnf)|((with_reducible refine Wr.inr ?_ ?_);(first|omega|(simp;omega));conv=>whnf)|(exfalso;first|omega|contradiction)|fail)
   all_goals first
    | exact Again.au (i + 1) ⟨by omega, hy (by simp;omega)⟩ (by omega) (by refine ⟨?_, ?_, rfl⟩<;>(repeat' (first|exact True.intro|exact rfl|(refine ⟨?_,?_⟩)|(intro h;cases h;done)|fail));done)
    |(rw [hn (by simp; omega)]; rfl)
  rw [List.take_of_length_le (by omega)] at hp
  rw [hp, Bool.true_and]
  clear hp
  conv => whnf
  repeat' (first|((with_reducible refine Split.dec (fun _=>?_) (fun _=>?_))<;>conv=>whnf)|((with_reducible refine Need.mk ?_ ?_);(first|omega|rfl|decide|(refine ⟨?_,?_⟩<;>simp<;>omega)|(simp;omega));conv=>whnf)|(exfalso;first|omega|contradiction)|fail)
  refine LoopK.o2 (fun i : Nat => i ≤ y.bulk.length ∧ (y.bulk.take i).all (fun b => decide (b.soil.size ≤ 40)) = true) (fun i => [(4, .d (.int .i64 i))]) (fun _ => []) (fun i => y.bulk.length - i) 0 ⟨by omega, rfl⟩ (by refine ⟨?_, ?_, rfl⟩<;>(repeat' (first|exact True.intro|exact rfl|(refine ⟨?_,?_⟩)|(intro h;cases h;done)|fail));done) ?_
  rintro i ⟨hi, hp⟩
  by_cases hil : i < y.bulk.length
  ·obtain ⟨p, hpi⟩ := some_of_lt hil
   have hn := @all_not9 _ y.bulk (fun b => decide (b.soil.size ≤ 40)) i p hpi
   have hy := @all_snoc9 _ y.bulk (fun b => decide (b.soil.size ≤ 40)) i p hpi hp
   clear hp
   conv => whnf
   repeat' (first|((refine PickE.map i hpi (by omega) ?_);conv=>whnf)|((with_reducible refine Split.dec (fun _=>?_) (fun _=>?_))<;>conv=>whnf)|((with_reducible refine Need.mk ?_ ?_);(first|omega|rfl|decide|(refine ⟨?_,?_⟩<;>simp<;>omega)|(simp;omega));conv=>whnf)|((with_reducible refine Wr.inr ?_ ?_);(first|omega|(simp;omega));conv=>whnf)|(exfalso;first|omega|contradiction)|fail)
   all_goals first
    | exact Again.au (i + 1) ⟨by omega, hy (by simp;omega)⟩ (by omega) (by refine ⟨?_, ?_, rfl⟩<;>(repeat' (first|exact True.intro|exact rfl|(refine ⟨?_,?_⟩)|(intro h;cases h;done)|fail));done)
    |(rw [hn (by simp; omega)]; rfl)
  rw [List.take_of_length_le (by omega)] at hp
  rw [hp, Bool.true_and]
  clear hp
  conv => whnf
  repeat' (first|((with_reducible refine Split.dec (fun _=>?_) (fun _=>?_))<;>conv=>whnf)|((with_reducible refine Need.mk ?_ ?_);(first|omega|rfl|decide|(refine ⟨?_,?_⟩<;>simp<;>omega)|(simp;omega));conv=>whnf)|(exfalso;first|omega|contradiction)|fail)
  refine LoopK.o2 (fun i : Nat => i ≤ y.deps.length ∧ (y.deps.take i).all (fun b => decide (b.pit.size ≤ 40)) = true) (fun i => [(5, .d (.int .i64 i))]) (fun _ => []) (fun i => y.deps.length - i) 0 ⟨by omega, rfl⟩ (by refine ⟨?_, ?_, rfl⟩<;>(repeat' (first|exact True.intro|exact rfl|(refine ⟨?_,?_⟩)|(intro h;cases h;done)|fail));done) ?_
  rintro i ⟨hi, hp⟩
  by_cases hil : i < y.deps.length
  ·obtain ⟨p, hpi⟩ := some_of_lt hil
   have hn := @all_not9 _ y.deps (fun b => decide (b.pit.size ≤ 40)) i p hpi
   have hy := @all_snoc9 _ y.deps (fun b => decide (b.pit.size ≤ 40)) i p hpi hp
   clear hp
   conv => whnf
   repeat' (first|((refine PickE.map i hpi (by omega) ?_);conv=>whnf)|((with_reducible refine Split.dec (fun _=>?_) (fun _=>?_))<;>conv=>whnf)|((with_reducible refine Need.mk ?_ ?_);(first|omega|rfl|decide|(refine ⟨?_,?_⟩<;>simp<;>omega)|(simp;omega));conv=>whnf)|((with_reducible refine Wr.inr ?_ ?_);(first|omega|(simp;omega));conv=>whnf)|(exfalso;first|omega|contradiction)|fail)
   all_goals first
    | exact Again.au (i + 1) ⟨by omega, hy (by simp;omega)⟩ (by omega) (by refine ⟨?_, ?_, rfl⟩<;>(repeat' (first|exact True.intro|exact rfl|(refine ⟨?_,?_⟩)|(intro h;cases h;done)|fail));done)
    |(rw [hn (by simp; omega)]; rfl)
  rw [List.take_of_length_le (by omega)] at hp
  rw [hp]
  conv => whnf
  repeat' (first|((with_reducible refine Split.dec (fun _=>?_) (fun _=>?_))<;>conv=>whnf)|((with_reducible refine Need.mk ?_ ?_);(first|omega|rfl|decide|(refine ⟨?_,?_⟩<;>simp<;>omega)|(simp;omega));conv=>whnf)|(exfalso;first|omega|contradiction)|fail)
  rfl
end Go.Proofs.Try
end

section
namespace Go.Proofs.Try
open Go Go.Vm
set_option maxRecDepth 20000
set_option maxHeartbeats 8000000
theorem ev_deposits9 (a b : List Dp) (h : a.length ≤ 1000000) : Ev Try.prog 43 [.sl 3 (a.map dpD), .sl 3 (b.map dpD)] (.bool (eqB a b)) := by
 have hla : (a.map dpD).length = a.length := List.length_map _
 have hlb : (b.map dpD).length = b.length := List.length_map _
 refine ev_of_awp tysOk mixed (fn := Try.f43) Try.func43 rfl rfl rfl ?_
 conv => whnf
 repeat' (first|((with_reducible refine Split.nez (fun _=>?_) (fun _=>?_))<;>conv=>whnf)|fail)
 ·exact congrArg D.bool (eqB_ne fun e => by subst e; omega).symm
 refine LoopK.o2 (fun i : Nat => i ≤ a.length ∧ a.take i = b.take i) (fun i => [(5, .d (.int .i64 i))]) (fun _ => []) (fun i => a.length - i) 0 (by simp) (by refine ⟨?_, ?_, rfl⟩<;>(repeat' (first|exact True.intro|exact rfl|(refine ⟨?_,?_⟩)|fail));done) ?_
 rintro i ⟨hi, ht⟩
 have hab : a.length = b.length := by omega
 by_cases hil : i < a.length
 ·obtain ⟨x, hx⟩ := some_of_lt hil
  obtain ⟨y, hy⟩ := some_of_lt (show i < b.length by omega)
  have hne : x ≠ y → eqB a b = false := fun h => eqB_ne fun e => h (by subst e; exact Option.some.inj (hx.symm.trans hy))
  conv => whnf
  repeat' (first|((refine PickE.map i hy (by omega) ?_);conv=>whnf)|((refine PickE.map i hx (by omega) ?_);conv=>whnf)|((with_reducible refine Split.of_true ?_);conv=>whnf)|(with_reducible refine Split.neg ?_)|((with_reducible refine Split.eqz (fun _=>?_) (fun _=>?_))<;>conv=>whnf)|(with_reducible refine Split.and ?_)|((with_reducible refine Split.streq (fun _=>?_) (fun _=>?_))<;>conv=>whnf)|((with_reducible refine Split.dec (fun _=>?_) (fun _=>?_))<;>conv=>whnf)|((with_reducible refine Need.mk ?_ ?_);(first|omega|rfl|decide|(refine ⟨?_,?_⟩<;>simp<;>omega)|(simp;omega));conv=>whnf)|((with_reducible refine Wr.inr ?_ ?_);(first|omega|(simp;omega));conv=>whnf)|(exfalso;first|omega|contradiction)|fail)
  all_goals first
   |(exact congrArg D.bool (hne fun e => by subst e; contradiction).symm)
   |(have e : x = y := by
      cases x
      cases y
      simp only [Dp.mk.injEq]
      exact ⟨by assumption, by assumption, by assumption⟩
     subst e
     exact Again.au (i + 1) ⟨by omega, take_succ_eq hx hy ht⟩ (by omega) (by refine ⟨?_, ?_, rfl⟩<;>(repeat' (first|exact True.intro|exact rfl|(refine ⟨?_,?_⟩)|fail));done))
 ·conv => whnf
  repeat' (first|((with_reducible refine Split.dec (fun _=>?_) (fun _=>?_))<;>conv=>whnf)|((with_reducible refine Need.mk ?_ ?_);(first|omega|rfl|decide|(refine ⟨?_,?_⟩<;>simp<;>omega)|(simp;omega));conv=>whnf)|(exfalso;first|omega|contradiction)|fail)
  exact congrArg D.bool (eqB_of (eq_of_take ht (by omega) (by omega))).symm
theorem ev_Ints9 (a b : List Int) (ha : a.length ≤ 1000000) : Ev Try.prog 64 [.sl 1 (a.map iD), .sl 1 (b.map iD)] (.bool (eqB a b)) := by
 have hla : (a.map iD).length = a.length := List.length_map _
 have hlb : (b.map iD).length = b.length := List.length_map _
 refine ev_of_awp tysOk mixed (fn := Try.f64) Try.func64 rfl rfl rfl ?_
 conv => whnf
 repeat' (first|((with_reducible refine Split.nez (fun _=>?_) (fun _=>?_))<;>conv=>whnf)|fail)
 ·exact congrArg D.bool (eqB_ne fun e => by subst e; omega).symm
 refine LoopK.o2 (fun i : Nat => i ≤ a.length ∧ a.take i = b.take i) (fun i => [(5, .d (.int .i64 i))]) (fun _ => []) (fun i => a.length - i) 0 (by simp) (by refine ⟨?_, ?_, rfl⟩<;>(repeat' (first|exact True.intro|exact rfl|(refine ⟨?_,?_⟩)|fail));done) ?_
 rintro i ⟨hi, ht⟩
 have hab : a.length = b.length := by omega
 by_cases hil : i < a.length
 ·obtain ⟨x, hx⟩ := some_of_lt hil
  obtain ⟨y, hy⟩ := some_of_lt (show i < b.length by omega)
  have hne : x ≠ y → eqB a b = false := fun h => eqB_ne fun e => h (by subst e; exact Option.some.inj (hx.symm.trans hy))
  conv => whnf
  repeat' (first|((refine PickE.map i hy (by omega) ?_);conv=>whnf)|((refine PickE.map i hx (by omega) ?_);conv=>whnf)|((with_reducible refine Split.nez (fun _=>?_) (fun _=>?_))<;>conv=>whnf)|((with_reducible refine Split.dec (fun _=>?_) (fun _=>?_))<;>conv=>whnf)|((with_reducible refine Need.mk ?_ ?_);(first|omega|rfl|decide|(refine ⟨?_,?_⟩<;>simp<;>omega)|(simp;omega));conv=>whnf)|((with_reducible refine Wr.inr ?_ ?_);(first|omega|(simp;omega));conv=>whnf)|(exfalso;first|omega|contradiction)|fail)
  all_goals first
   |(exact congrArg D.bool (hne (by assumption)).symm)
   |(have e : x = y := by assumption
     subst e
     exact Again.au (i + 1) ⟨by omega, take_succ_eq hx hy ht⟩ (by omega) (by refine ⟨?_, ?_, rfl⟩<;>(repeat' (first|exact True.intro|exact rfl|(refine ⟨?_,?_⟩)|fail));done))
 ·conv => whnf
  repeat' (first|((with_reducible refine Split.dec (fun _=>?_) (fun _=>?_))<;>conv=>whnf)|((with_reducible refine Need.mk ?_ ?_);(first|omega|rfl|decide|(refine ⟨?_,?_⟩<;>simp<;>omega)|(simp;omega));conv=>whnf)|(exfalso;first|omega|contradiction)|fail)
  exact congrArg D.bool (eqB_of (eq_of_take ht (by omega) (by omega))).symm
end Go.Proofs.Try
end

section
namespace Go.Proofs.Try
open Go Go.Vm
set_option maxRecDepth 20000
set_option maxHeartbeats 8000000
structure SmB (y : Yd) : Prop where
 p : y.pits.length ≤ 12
 b : y.bulk.length ≤ 25
 c : y.carry.length ≤ 30
 d : y.deps.length ≤ 205
 cl : ∀ x ∈ y.pits, x.cls.length ≤ 12
theorem smB {y : Yd} (h : smallB y = true) : SmB y := by
 simp only [smallB, Bool.and_eq_true, List.all_eq_true, decide_eq_true_eq] at h
 obtain ⟨⟨⟨h1, h2⟩, -⟩, -⟩ := h
 obtain ⟨q1, q2, q3, q4⟩ := sm_ok h1
 exact ⟨by omega, by omega, by omega, by omega, fun x hx => (h2 x hx).2⟩
theorem SmB.copied {y : Yd} (h : SmB y) : Ev Try.prog 14 [ydD y] (ydD y) :=
 ev_Copied y (by have := h.p; omega) (by have := h.b; omega) (by have := h.d; omega) (by have := h.c; omega) (fun p hp => Nat.le_trans (h.cl p hp) (by decide))
theorem SmB.sp {y : Yd} (h : SmB y) : smallP y := fun p hp => Nat.le_trans (h.cl p hp) (by decide)
end Go.Proofs.Try
end

section
namespace Go.Proofs.Try
open Go Go.Vm
set_option maxRecDepth 20000
set_option maxHeartbeats 8000000
theorem ev_Room9 (y : Yd) {k : Nat} {p : Pt} (hk : y.pits[k]? = some p) (hp : PtOk p) (hv : volOk y.deps) (hn : y.deps.length ≤ 300) : Ev Try.prog 41 [ydD y, iD k] (iD (roomS y p)) := by
 have h1 := ev_Capacity9 hp
 have h2 := ev_Taken9 y hk hv hn
 have b1 := cap_bd hp
 have b2 := takS_bd p.name y.deps hv
 unfold roomS
 generalize capS p = c at *
 generalize takS p.name y.deps = t at *
 refine ev_of_awp tysOk mixed (fn := Try.f41) Try.func41 rfl rfl rfl ?_
 conv => whnf
 repeat' (first|((refine PickE.map k hk (by omega) ?_);conv=>whnf)|((with_reducible refine Need.mk ?_ ?_);(first|omega|rfl|decide|(refine ⟨?_,?_⟩<;>simp<;>omega)|(simp;omega));conv=>whnf)|((with_reducible refine Wr.inr ?_ ?_);(first|omega|(simp;omega));conv=>whnf)|((with_reducible refine AltK.l ?_);(conv=>whnf);(first|(refine CallK.mk _ (h1) ?_)|(refine CallK.mk _ (h2) ?_));conv=>whnf)|fail)
 rfl
end Go.Proofs.Try
end

section
namespace Go.Proofs.Try
open Go Go.Vm
set_option maxRecDepth 20000
set_option maxHeartbeats 8000000
theorem ev_Accepts9 (p : Pt) (cls : Int) (hn : p.cls.length ≤ 1000000) : Ev Try.prog 77 [ptD p, iD cls] (.bool (accB p cls)) := by
 have hlen : (p.cls.map iD).length = p.cls.length := List.length_map _
 unfold accB
 refine ev_of_awp tysOk mixed (fn := Try.f77) Try.func77 rfl rfl rfl ?_
 conv => whnf
 skip
 refine LoopK.o2 (fun i : Nat => i ≤ p.cls.length ∧ (p.cls.take i).any (fun c => c == cls) = false) (fun i => [(5, .d (.int .i64 i))]) (fun _ => []) (fun i => p.cls.length - i) 0 ⟨by omega, rfl⟩ (by refine ⟨?_, ?_, rfl⟩<;>(repeat' (first|exact True.intro|exact rfl|(refine ⟨?_,?_⟩)|(intro h;cases h;done)|fail));done) ?_
 rintro i ⟨hi, hp⟩
 by_cases hil : i < p.cls.length
 ·obtain ⟨c, hc⟩ := some_of_lt hil
  have hy := @any_yes _ (fun c : Int => c == cls) p.cls i c hc
  have hno := @any_no _ (fun c : Int => c == cls) p.cls i c hc hp
  conv => whnf
  repeat' (first|((refine PickE.map i hc (by omega) ?_);conv=>whnf)|((with_reducible refine Split.eqz (fun _=>?_) (fun _=>?_))<;>conv=>whnf)|((with_reducible refine Split.dec (fun _=>?_) (fun _=>?_))<;>conv=>whnf)|((with_reducible refine Need.mk ?_ ?_);(first|omega|rfl|decide|(refine ⟨?_,?_⟩<;>simp<;>omega)|(simp;omega));conv=>whnf)|((with_reducible refine Wr.inr ?_ ?_);(first|omega|(simp;omega));conv=>whnf)|(exfalso;first|omega|contradiction)|fail)
  ·rw [hy (by simpa using (by assumption : c = cls))]; rfl
  ·exact Again.au (i + 1) ⟨by omega, hno (by simpa using (by assumption : c ≠ cls))⟩ (by omega) (by refine ⟨?_, ?_, rfl⟩<;>(repeat' (first|exact True.intro|exact rfl|(refine ⟨?_,?_⟩)|(intro h;cases h;done)|fail));done)
 ·rw [List.take_of_length_le (by omega)] at hp
  rw [hp]
  conv => whnf
  repeat' (first|((with_reducible refine Split.dec (fun _=>?_) (fun _=>?_))<;>conv=>whnf)|((with_reducible refine Need.mk ?_ ?_);(first|omega|rfl|decide|(refine ⟨?_,?_⟩<;>simp<;>omega)|(simp;omega));conv=>whnf)|(exfalso;first|omega|contradiction)|fail)
  rfl
theorem ev_Refusal9 {y : Yd} {b : Bt} {k : Nat} {f : Bk} {c : Int} (h : Wok y b k f c) {j : Nat} {p : Pt} (hp : y.pits[j]? = some p) (hc : p.cls.length ≤ 1000000) : Ev Try.prog 29 [ydD y, btD b, iD j] (iD (refS y p b.cls (volN b f c))) := by
 have hpm := List.mem_of_getElem? hp
 have hpo := h.yok.pit p hpm
 have hd := h.yok.deps
 have hbl := h.yok.bulk
 have h1 := ev_Accepts9 p b.cls hc
 have h2 := ev_Bulked9 h
 have h3 := ev_Room9 y hp hpo.1 h.yok.vol (by omega)
 have h7 : Ev Try.prog 18 [.sl 3 (y.bulk.map bkD), .str b.soil] (iD (facI y b.soil)) := ev_Factor9 y.bulk b.soil (by omega)
 rw [h.ixk] at h7
 have hct := h.cat
 unfold refS
 generalize volN b f c = v at *
 generalize carN b f c = cn at *
 generalize roomS y p = rm at *
 cases ha : accB p b.cls with
 | false =>
  rw [if_pos rfl]
  rw [ha] at h1
  refine ev_of_awp tysOk mixed (fn := Try.f29) Try.func29 rfl rfl rfl ?_
  conv => whnf
  repeat' (first|((refine PickE.map j hp (by omega) ?_);conv=>whnf)|((with_reducible refine Split.of_false ?_);conv=>whnf)|(with_reducible refine Split.neg ?_)|((with_reducible refine Need.mk ?_ ?_);(first|omega|rfl|decide|(refine ⟨?_,?_⟩<;>simp<;>omega)|(simp;omega));conv=>whnf)|((with_reducible refine AltK.l ?_);(conv=>whnf);(first|(refine CallK.mk _ (h1) ?_));conv=>whnf)|fail)
  rfl
 | true =>
  rw [if_neg (by decide)]
  rw [ha] at h1
  by_cases hr : rm < v
  ·rw [if_pos hr]
   refine ev_of_awp tysOk mixed (fn := Try.f29) Try.func29 rfl rfl rfl ?_
   conv => whnf
   repeat' (first|((refine PickE.map k hct (by omega) ?_);conv=>whnf)|((refine PickE.map j hp (by omega) ?_);conv=>whnf)|((with_reducible refine Split.of_true ?_);conv=>whnf)|(with_reducible refine Split.neg ?_)|((with_reducible refine Split.dec (fun _=>?_) (fun _=>?_))<;>conv=>whnf)|((with_reducible refine Need.mk ?_ ?_);(first|omega|rfl|decide|(refine ⟨?_,?_⟩<;>simp<;>omega)|(simp;omega));conv=>whnf)|((with_reducible refine AltK.l ?_);(conv=>whnf);(first|(refine CallK.mk _ (h1) ?_)|(refine CallK.mk _ (h2) ?_)|(refine CallK.mk _ (h3) ?_)|(refine CallK.mk _ (h7) ?_));conv=>whnf)|(exfalso;first|omega|contradiction)|fail)
   all_goals first
    | rfl
    |(exfalso; omega)
  ·rw [if_neg hr]
   refine ev_of_awp tysOk mixed (fn := Try.f29) Try.func29 rfl rfl rfl ?_
   conv => whnf
   repeat' (first|((refine PickE.map k hct (by omega) ?_);conv=>whnf)|((refine PickE.map j hp (by omega) ?_);conv=>whnf)|((with_reducible refine Split.of_true ?_);conv=>whnf)|(with_reducible refine Split.neg ?_)|((with_reducible refine Split.dec (fun _=>?_) (fun _=>?_))<;>conv=>whnf)|((with_reducible refine Need.mk ?_ ?_);(first|omega|rfl|decide|(refine ⟨?_,?_⟩<;>simp<;>omega)|(simp;omega));conv=>whnf)|((with_reducible refine AltK.l ?_);(conv=>whnf);(first|(refine CallK.mk _ (h1) ?_)|(refine CallK.mk _ (h2) ?_)|(refine CallK.mk _ (h3) ?_)|(refine CallK.mk _ (h7) ?_));conv=>whnf)|(exfalso;first|omega|contradiction)|fail)
   all_goals first
    | rfl
    |(exfalso; omega)
theorem nmGo_dist {α : Type} {nm : α → ByteArray} {own : α → Int} : ∀ {r o : List α}, nmGo nm own o r = 0 → (∀ x ∈ r, metB nm o (nm x) = false) ∧ r.Pairwise fun a b => nm a ≠ nm b
 | [], _, _ => ⟨fun _ h => (by cases h), List.Pairwise.nil⟩
 | a :: r, o, h => by
  rw [nmGo] at h
  split at h
  ·cases h
  split at h
  ·cases h
  rename_i h2
  split at h
  ·contradiction
  obtain ⟨i1, i2⟩ := nmGo_dist h
  have key : ∀ x ∈ r, metB nm o (nm x) = false ∧ nm a ≠ nm x := fun x hx => by
   have := i1 x hx
   rw [metB, List.any_append, Bool.or_eq_false_iff] at this
   exact ⟨this.1, by simpa using this.2⟩
  refine ⟨fun x hx => ?_, List.pairwise_cons.2 ⟨fun x hx => (key x hx).2, i2⟩⟩
  rcases List.mem_cons.1 hx with rfl | hx
  ·simpa using h2
  ·exact (key x hx).1
theorem yd_dist {y : Yd} (h : ydErr y = 0) : y.pits.Pairwise fun a b => a.name ≠ b.name := by
 unfold ydErr at h
 split at h
 ·cases h
 split at h
 ·contradiction
 rename_i h1
 exact (nmGo_dist (show nmGo Pt.name ptErr [] y.pits = 0 by simpa using h1)).2
end Go.Proofs.Try
end

section
namespace Go.Proofs.Try
open Go Go.Vm
set_option maxRecDepth 20000
set_option maxHeartbeats 8000000
theorem eqB_self9 {α : Type} (a : α) : eqB a a = true := by simp [eqB]
theorem ev_SameSelf (y : Yd) (h1 : y.pits.length ≤ 1000000) (h2 : y.bulk.length ≤ 1000000) (h3 : y.deps.length ≤ 1000000) (h4 : y.carry.length ≤ 1000000) (hc : ∀ p ∈ y.pits, p.cls.length ≤ 1000000) : Ev Try.prog 22 [ydD y, ydD y] (.bool true) := by
 have hlp : (y.pits.map ptD).length = y.pits.length := List.length_map _
 have hlb : (y.bulk.map bkD).length = y.bulk.length := List.length_map _
 have w1 := ev_Ints9 y.carry y.carry h4
 have w2 := ev_deposits9 y.deps y.deps h3
 rw [eqB_self9] at w1 w2
 refine ev_of_awp tysOk mixed (fn := Try.f22) Try.func22 rfl rfl rfl ?_
 conv => whnf
 repeat' (first|((with_reducible refine Split.of_true ?_);conv=>whnf)|(with_reducible refine Split.neg ?_)|((with_reducible refine Split.nez (fun _=>?_) (fun _=>?_))<;>conv=>whnf)|((with_reducible refine AltK.l ?_);(conv=>whnf);(first|(refine CallK.mk _ (w1) ?_)|(refine CallK.mk _ (w2) ?_));conv=>whnf)|(exfalso;first|omega|contradiction)|fail)
 refine LoopK.o2 (fun i : Nat => i ≤ y.pits.length) (fun i => [(5, .d (.int .i64 i))]) (fun _ => []) (fun i => y.pits.length - i) 0 (by simp) (by refine ⟨?_, ?_, rfl⟩<;>(repeat' (first|exact True.intro|exact rfl|(refine ⟨?_,?_⟩)|(intro h;cases h;done)|fail));done) ?_
 rintro i hi
 by_cases hil : i < y.pits.length
 ·obtain ⟨p, hp⟩ := some_of_lt hil
  have w3 := ev_Ints9 p.cls p.cls (hc p (List.mem_of_getElem? hp))
  rw [eqB_self9] at w3
  conv => whnf
  repeat' (first|((refine PickE.map i hp (by omega) ?_);conv=>whnf)|((with_reducible refine Split.of_true ?_);conv=>whnf)|(with_reducible refine Split.neg ?_)|((with_reducible refine Split.nez (fun _=>?_) (fun _=>?_))<;>conv=>whnf)|((with_reducible refine Split.streq (fun _=>?_) (fun _=>?_))<;>conv=>whnf)|((with_reducible refine Split.dec (fun _=>?_) (fun _=>?_))<;>conv=>whnf)|((with_reducible refine Need.mk ?_ ?_);(first|omega|rfl|decide|(refine ⟨?_,?_⟩<;>simp<;>omega)|(simp;omega));conv=>whnf)|((with_reducible refine Wr.inr ?_ ?_);(first|omega|(simp;omega));conv=>whnf)|((with_reducible refine AltK.l ?_);(conv=>whnf);(first|(refine CallK.mk _ (w3) ?_));conv=>whnf)|(exfalso;first|omega|contradiction)|fail)
  all_goals first
   | exact Again.au (i + 1) (by omega) (by omega) (by refine ⟨?_, ?_, rfl⟩<;>(repeat' (first|exact True.intro|exact rfl|(refine ⟨?_,?_⟩)|(intro h;cases h;done)|fail));done)
   |(exfalso; first | omega | contradiction)
 ·conv => whnf
  repeat' (first|((with_reducible refine Split.dec (fun _=>?_) (fun _=>?_))<;>conv=>whnf)|((with_reducible refine Need.mk ?_ ?_);(first|omega|rfl|decide|(refine ⟨?_,?_⟩<;>simp<;>omega)|(simp;omega));conv=>whnf)|(exfalso;first|omega|contradiction)|fail)
  refine LoopK.o2 (fun i : Nat => i ≤ y.bulk.length) (fun i => [(8, .d (.int .i64 i))]) (fun _ => []) (fun i => y.bulk.length - i) 0 (by simp) (by refine ⟨?_, ?_, rfl⟩<;>(repeat' (first|exact True.intro|exact rfl|(refine ⟨?_,?_⟩)|(intro h;cases h;done)|fail));done) ?_
  rintro k hk
  by_cases hkl : k < y.bulk.length
  ·obtain ⟨b, hb⟩ := some_of_lt hkl
   conv => whnf
   repeat' (first|((refine PickE.map k hb (by omega) ?_);conv=>whnf)|((with_reducible refine Split.of_true ?_);conv=>whnf)|(with_reducible refine Split.neg ?_)|((with_reducible refine Split.eqz (fun _=>?_) (fun _=>?_))<;>conv=>whnf)|(with_reducible refine Split.and ?_)|((with_reducible refine Split.streq (fun _=>?_) (fun _=>?_))<;>conv=>whnf)|((with_reducible refine Split.dec (fun _=>?_) (fun _=>?_))<;>conv=>whnf)|((with_reducible refine Need.mk ?_ ?_);(first|omega|rfl|decide|(refine ⟨?_,?_⟩<;>simp<;>omega)|(simp;omega));conv=>whnf)|((with_reducible refine Wr.inr ?_ ?_);(first|omega|(simp;omega));conv=>whnf)|(exfalso;first|omega|contradiction)|fail)
   all_goals first
    | exact Again.au (k + 1) (by omega) (by omega) (by refine ⟨?_, ?_, rfl⟩<;>(repeat' (first|exact True.intro|exact rfl|(refine ⟨?_,?_⟩)|(intro h;cases h;done)|fail));done)
    |(exfalso; first | omega | contradiction)
  ·conv => whnf
   repeat' (first|((with_reducible refine Split.dec (fun _=>?_) (fun _=>?_))<;>conv=>whnf)|((with_reducible refine Need.mk ?_ ?_);(first|omega|rfl|decide|(refine ⟨?_,?_⟩<;>simp<;>omega)|(simp;omega));conv=>whnf)|(exfalso;first|omega|contradiction)|fail)
   rfl
theorem ev_zero9 : Ev Try.prog 21 [ydD y0] (.bool true) := by
 have h := ev_SameSelf y0 (by simp [y0]) (by simp [y0]) (by simp [y0]) (by simp [y0]) (by simp [y0])
 refine ev_of_awp tysOk mixed (fn := Try.f21) Try.func21 rfl rfl rfl ?_
 conv => whnf
 repeat' (first|((with_reducible refine AltK.l ?_);(conv=>whnf);(first|(refine CallK.mk _ (h) ?_));conv=>whnf)|fail)
 rfl
end Go.Proofs.Try
end

section
namespace Go.Proofs.Try
open Go Go.Vm
set_option maxRecDepth 20000
set_option maxHeartbeats 8000000
theorem carGo_of : ∀ {bs : List Bk} {cs : List Int}, (∀ (i : Nat) b c, bs[i]? = some b → cs[i]? = some c → 0 ≤ c ∧ c ≤ b.den - 1) → carGo bs cs = 0
 | [], [], _ => rfl
 | [], _ :: _, _ => rfl
 | _ :: _, [], _ => rfl
 | b :: bs, c :: cs, h => by
  have h0 := h 0 b c rfl rfl
  rw [carGo, if_neg (by simp [outsideB]; omega)]
  exact carGo_of fun i b' c' hb hc => h (i + 1) b' c' (by simpa using hb) (by simpa using hc)
theorem dpGo_pits {y y' : Yd} (h : y'.pits = y.pits) : ∀ {l o : List Dp}, dpGo y' o l = dpGo y o l
 | [], _ => rfl
 | d :: r, o => by
  have e : pitI y' d.pit = pitI y d.pit := by rw [pitI, h]; rfl
  rw [dpGo, dpGo, e, dpGo_pits h]
theorem dpGo_app {y : Yd} {d : Dp} : ∀ {l o : List Dp}, dpGo y o l = 0 → dpGo y (o ++ l) [d] = 0 → dpGo y o (l ++ [d]) = 0
 | [], o, _, h => by simpa using h
 | x :: r, o, h, h' => by
  rw [dpGo] at h
  rw [List.cons_append, dpGo]
  split at h
  ·cases h
  rename_i h1
  split at h
  ·cases h
  rename_i h2
  split at h
  ·cases h
  rename_i h3
  split at h
  ·cases h
  rename_i h4
  rw [if_neg h1, if_neg h2, if_neg h3, if_neg h4]
  exact dpGo_app h (by simpa using h')
theorem pl_at {y : Yd} {b : Bt} {s : ByteArray} {v : Int} (h : plErr y b s v = 0) : depB y b.n = false ∧ ¬ pitI y s < 0 ∧ y.deps.length < 200 ∧ ∃ (j : Nat) (p : Pt), pitI y s = j ∧ y.pits[j]? = some p ∧ p.name = s ∧ v ≤ roomS y p := by
 unfold plErr at h
 split at h
 ·cases h
 rename_i h1
 split at h
 ·cases h
 rename_i h2
 obtain ⟨j, p, hj, hp, hs⟩ := ix_at h2
 have hj : pitI y s = j := hj
 rw [hj, Int.toNat_natCast, hp] at h
 simp only at h
 split at h
 ·contradiction
 rename_i h3
 split at h
 ·cases h
 rename_i h4
 refine ⟨by simpa using h1, h2, by omega, j, p, hj, hp, sEq_eq hs, ?_⟩
 have h3 : refS y p b.cls v = 0 := by simpa using h3
 unfold refS at h3
 split at h3
 ·cases h3
 split at h3
 ·cases h3
 ·omega
theorem takS_one {s : ByteArray} {l : List Dp} {d : Dp} : takS s (l ++ [d]) = takS s l + if sEq d.pit s = true then d.vol else 0 := by
 rw [takS_app]; simp [takS]
theorem plY_ok {y : Yd} {b : Bt} {s : ByteArray} {k : Nat} {f : Bk} {c : Int} (hy : ydErr y = 0) (h : Wok y b k f c) (h0 : plErr y b s (volN b f c) = 0) : ydErr (plY y b s k f c) = 0 := by
 obtain ⟨p1, p2, p3, j, p, hj, hp, hs, hv⟩ := pl_at h0
 have hvb := volN_bd h
 have hpo := (h.yok.pit p (List.mem_of_getElem? hp)).1
 have hcap := cap_bd hpo
 have htk := takS_bd p.name y.deps h.yok.vol
 have hvl : volN b f c ≤ 100000000000000 := by unfold roomS at hv; omega
 rw [yd_split] at hy ⊢
 split at hy
 ·cases hy
 rename_i h1
 split at hy
 ·contradiction
 rename_i h2
 split at hy
 ·contradiction
 rename_i h3
 rw [if_neg (show ¬ 8 < (plY y b s k f c).pits.length from h1), if_neg (show ¬ nmGo Pt.name ptErr [] (plY y b s k f c).pits ≠ 0 from h2)]
 have hb : bErr (plY y b s k f c) = 0 := by
  have h3 : bErr y = 0 := by simpa using h3
  unfold bErr at h3 ⊢
  split at h3
  ·cases h3
  rename_i g1
  split at h3
  ·contradiction
  rename_i g2
  split at h3
  ·cases h3
  rename_i g3
  rw [if_neg (show ¬ 20 < (plY y b s k f c).bulk.length from g1), if_neg (show ¬ nmGo Bk.soil bkErr [] (plY y b s k f c).bulk ≠ 0 from g2), if_neg (by show ¬ (y.carry.set k (carN b f c)).length ≠ y.bulk.length; rw [List.length_set]; exact g3)]
  refine carGo_of fun i b' c' hb' hc' => ?_
  replace hb' : y.bulk[i]? = some b' := hb'
  replace hc' : (y.carry.set k (carN b f c))[i]? = some c' := hc'
  rw [List.getElem?_set] at hc'
  split at hc'
  ·rename_i e
   subst e
   rw [if_pos (lt_of_some h.cat)] at hc'
   cases hc'
   rw [h.fat] at hb'
   cases hb'
   omega
  ·exact carGo_zero h3 i b' c' hb' hc'
 rw [hb, if_neg (by simp)]
 unfold dpsErr at hy ⊢
 split at hy
 ·cases hy
 split at hy
 ·contradiction
 rename_i g1
 split at hy
 ·cases hy
 rename_i g2
 have g1 : dpGo y [] y.deps = 0 := by simpa using g1
 have hpe : ∀ x, pitI (plY y b s k f c) x = pitI y x := fun x => rfl
 have d1 : dpGo (plY y b s k f c) [] (plY y b s k f c).deps = 0 := by
  refine (dpGo_pits (y' := plY y b s k f c) (y := y) rfl).trans ?_
  refine dpGo_app g1 ?_
  have hn := h.bok.n
  rw [List.nil_append, dpGo, if_neg (by simp [outsideB]; omega), if_neg (by show ¬ depB y b.n = true; rw [p1]; decide), if_neg p2, if_neg (by simp [outsideB]; omega)]
  rfl
 rw [if_neg (by show ¬ 200 < (y.deps ++ [_]).length; rw [List.length_append, List.length_singleton]; omega), d1, if_neg (by simp)]
 have d2 : (plY y b s k f c).pits.any (fun q => decide (roomS (plY y b s k f c) q < 0)) = false := by
  rw [List.any_eq_false]
  intro q hq
  replace hq : q ∈ y.pits := hq
  have hq0 : 0 ≤ roomS y q := h.yok.room q hq
  have e : roomS (plY y b s k f c) q = roomS y q - if sEq s q.name = true then volN b f c else 0 := by
   show capS q - takS q.name (y.deps ++ [⟨b.n, s, volN b f c⟩]) = _
   rw [takS_one, roomS]; dsimp only; omega
  rw [e]
  split
  ·rename_i hqs
   have hqs := sEq_eq hqs
   obtain ⟨i, hi⟩ := List.getElem?_of_mem hq
   have hd := yd_dist (y := y) (by
    rw [yd_split, if_neg h1, if_neg h2, if_neg h3, dpsErr, if_neg (by omega), g1, if_neg (by simp), if_neg g2])
   have : i = j := by
    rcases Nat.lt_trichotomy i j with hlt | he | hlt
    ·have := List.pairwise_iff_getElem.1 hd i j (lt_of_some hi) (lt_of_some hp) hlt
     rw [(List.getElem?_eq_some_iff.1 hi).2, (List.getElem?_eq_some_iff.1 hp).2] at this
     exact absurd (hqs.symm.trans hs.symm) this
    ·exact he
    ·have := List.pairwise_iff_getElem.1 hd j i (lt_of_some hp) (lt_of_some hi) hlt
     rw [(List.getElem?_eq_some_iff.1 hi).2, (List.getElem?_eq_some_iff.1 hp).2] at this
     exact absurd (hs.trans hqs) this
   subst this
   rw [hp] at hi
   cases hi
   simp; omega
  ·simp; omega
 rw [d2, if_neg (by decide)]
theorem ev_PlaceErr9 {y : Yd} {b : Bt} {k : Nat} {f : Bk} {c : Int} (s : ByteArray) (hcl : ∀ x ∈ y.pits, x.cls.length ≤ 100000) (h : Wok y b k f c) : Ev Try.prog 20 [ydD y, btD b, .str s] (iD (plErr y b s (volN b f c))) := by
 have hP := h.yok.pits
 have hD := h.yok.deps
 have h1 := ev_Deposited y.deps b.n (by omega)
 have h2 : Ev Try.prog 39 [.sl 6 (y.pits.map ptD), .str s] (iD (pitI y s)) := ev_Find9 y.pits s (by omega)
 have hld : (y.deps.map dpD).length = y.deps.length := List.length_map _
 by_cases hdb : depB y b.n = true
 ·have e : plErr y b s (volN b f c) = 5 := by rw [plErr, if_pos hdb]
  rw [e]
  rw [show (y.deps.any fun x => x.batch == b.n) = true from hdb] at h1
  refine ev_of_awp tysOk mixed (fn := Try.f20) Try.func20 rfl rfl rfl ?_
  conv => whnf
  repeat' (first|((with_reducible refine Split.of_true ?_);conv=>whnf)|((with_reducible refine AltK.l ?_);(conv=>whnf);(first|(refine CallK.mk _ (h1) ?_));conv=>whnf)|fail)
  rfl
 have hdb' : depB y b.n = false := by simpa using hdb
 rw [show (y.deps.any fun x => x.batch == b.n) = false from hdb'] at h1
 by_cases hi : pitI y s < 0
 ·have e : plErr y b s (volN b f c) = 6 := by rw [plErr, if_neg hdb, if_pos hi]
  rw [e]
  refine ev_of_awp tysOk mixed (fn := Try.f20) Try.func20 rfl rfl rfl ?_
  conv => whnf
  repeat' (first|((with_reducible refine Split.of_false ?_);conv=>whnf)|((with_reducible refine Split.dec (fun _=>?_) (fun _=>?_))<;>conv=>whnf)|((with_reducible refine AltK.l ?_);(conv=>whnf);(first|(refine CallK.mk _ (h1) ?_)|(refine CallK.mk _ (h2) ?_));conv=>whnf)|(exfalso;first|omega|contradiction)|fail)
  all_goals first
   | rfl
   |(exfalso; omega)
 obtain ⟨j, p, hj, hpj, -⟩ := ix_at hi
 have hj : pitI y s = j := hj
 have e : plErr y b s (volN b f c) = if refS y p b.cls (volN b f c) ≠ 0 then refS y p b.cls (volN b f c) else if 200 ≤ y.deps.length then 8 else 0 := by
  rw [plErr, if_neg hdb, if_neg hi, hj, Int.toNat_natCast, hpj]
 rw [e]
 rw [hj] at h2 hi
 have hr := ev_Refusal9 h hpj (Nat.le_trans (hcl p (List.mem_of_getElem? hpj)) (by decide))
 clear e hj
 generalize refS y p b.cls (volN b f c) = rf at *
 by_cases hz : rf = 0
 case neg =>
  rw [if_pos hz]
  refine ev_of_awp tysOk mixed (fn := Try.f20) Try.func20 rfl rfl rfl ?_
  conv => whnf
  repeat' (first|((with_reducible refine Split.of_false ?_);conv=>whnf)|((with_reducible refine Split.nez (fun _=>?_) (fun _=>?_))<;>conv=>whnf)|((with_reducible refine Split.dec (fun _=>?_) (fun _=>?_))<;>conv=>whnf)|((with_reducible refine AltK.l ?_);(conv=>whnf);(first|(refine CallK.mk _ (h1) ?_)|(refine CallK.mk _ (h2) ?_)|(refine CallK.mk _ (hr) ?_));conv=>whnf)|(exfalso;first|omega|contradiction)|fail)
  all_goals first
   | rfl
   |(exfalso; omega)
 subst hz
 rw [if_neg (by decide)]
 by_cases h200 : 200 ≤ y.deps.length
 ·rw [if_pos h200]
  refine ev_of_awp tysOk mixed (fn := Try.f20) Try.func20 rfl rfl rfl ?_
  conv => whnf
  repeat' (first|((with_reducible refine Split.of_false ?_);conv=>whnf)|((with_reducible refine Split.is_false ?_ ?_);decide;conv=>whnf)|((with_reducible refine Split.dec (fun _=>?_) (fun _=>?_))<;>conv=>whnf)|((with_reducible refine AltK.l ?_);(conv=>whnf);(first|(refine CallK.mk _ (h1) ?_)|(refine CallK.mk _ (h2) ?_)|(refine CallK.mk _ (hr) ?_));conv=>whnf)|(exfalso;first|omega|contradiction)|fail)
  all_goals first
   | rfl
   |(exfalso; omega)
 ·rw [if_neg h200]
  refine ev_of_awp tysOk mixed (fn := Try.f20) Try.func20 rfl rfl rfl ?_
  conv => whnf
  repeat' (first|((with_reducible refine Split.of_false ?_);conv=>whnf)|((with_reducible refine Split.is_false ?_ ?_);decide;conv=>whnf)|((with_reducible refine Split.dec (fun _=>?_) (fun _=>?_))<;>conv=>whnf)|((with_reducible refine AltK.l ?_);(conv=>whnf);(first|(refine CallK.mk _ (h1) ?_)|(refine CallK.mk _ (h2) ?_)|(refine CallK.mk _ (hr) ?_));conv=>whnf)|(exfalso;first|omega|contradiction)|fail)
  all_goals first
   | rfl
   |(exfalso; omega)
theorem xv_CopyInts9 (l : List Int) (hn : l.length ≤ 1000000) : EvX Try.prog 56 [.d (.sl 1 (l.map iD))] [] (.own 9 1 (l.map iD).length) [(9, .row 3 1 (l.map iD) false)] := by
 have hl : (l.map iD).length = l.length := List.length_map _
 refine evx_of_awp tysOk mixed (fn := Try.f56) Try.func56 rfl rfl rfl ?_
 conv => whnf
 repeat' (first|((with_reducible refine Need.mk ?_ ?_);(first|omega|rfl|decide|(refine ⟨?_,?_⟩<;>simp<;>omega)|(simp;omega));conv=>whnf)|fail)
 exact ⟨⟨[(9, some 5)], (by refine ⟨?_, ?_, rfl⟩<;>(repeat' (first|exact True.intro|exact rfl|(refine ⟨?_,?_⟩)|(intro h;cases h;done)|(refine own_congr ?_;simp;done)|fail));done)⟩, rfl⟩
theorem ev_Place9 {y : Yd} {b : Bt} {k : Nat} {f : Bk} {c : Int} (s : ByteArray) (h : Wok y b k f c) : Ev Try.prog 23 [ydD y, btD b, .str s] (ydD (plY y b s k f c)) := by
 have hB := h.yok.bulk
 have hD := h.yok.deps
 have hC := h.yok.carL
 have h1 : Ev Try.prog 18 [.sl 3 (y.bulk.map bkD), .str b.soil] (iD (facI y b.soil)) := ev_Factor9 y.bulk b.soil (by omega)
 rw [h.ixk] at h1
 have h2 := ev_Bulked9 h
 have hct := h.cat
 have hX := EvX.new1 (xs := [.sl 1 (y.carry.map iD)]) (xv_CopyInts9 y.carry (by omega)) 28
 have hlc : (y.carry.map iD).length = y.carry.length := List.length_map _
 have hld : (y.deps.map dpD).length = y.deps.length := List.length_map _
 have hvb := volN_bd h
 have hkl := lt_of_some hct
 have epl : plY y b s k f c = { y with deps := y.deps ++ [⟨b.n, s, volN b f c⟩], carry := y.carry.set k (carN b f c) } := rfl
 rw [epl]
 clear epl
 generalize volN b f c = v at *
 generalize carN b f c = cn at *
 refine ev_of_awp tysOk mixed (fn := Try.f23) Try.func23 rfl rfl rfl ?_
 conv => whnf
 repeat' (first|((refine PickE.map k hct (by omega) ?_);conv=>whnf)|((with_reducible refine Need.mk ?_ ?_);(first|omega|rfl|decide|(refine ⟨?_,?_⟩<;>simp<;>omega)|(simp;omega));conv=>whnf)|((with_reducible refine AltK.r ?_);(conv=>whnf);(first|(refine CallX.mk _ _ (hX) rfl ?_));conv=>whnf)|((with_reducible refine AltK.l ?_);(conv=>whnf);(first|(refine CallK.mk _ (h1) ?_)|(refine CallK.mk _ (h2) ?_));conv=>whnf)|fail)
 simp [retOf, ydD, dpD, iD]
theorem ev_DisposalPlaces (hA : Ev Try.prog 11 [] (.bool true)) (y : Yd) (b : Bt) (s : ByteArray) : Ev Try.prog 4 [ydD y, btD b, .str s] (.bool true) := by
 have h1 := ev_Small y
 cases hs : smallB y with
 | false =>
  rw [hs] at h1
  refine ev_of_awp tysOk mixed (fn := Try.f4) Try.func4 rfl rfl rfl ?_
  conv => whnf
  repeat' (first|((with_reducible first|refine Split.of_true ?_|refine Split.of_false ?_);conv=>whnf)|(with_reducible refine Split.neg ?_)|((with_reducible refine AltK.l ?_);(conv=>whnf);(first|(refine CallK.mk _ (hA) ?_)|(refine CallK.mk _ (h1) ?_));conv=>whnf)|fail)
  rfl
 | true =>
 rw [hs] at h1
 have hB := smB hs
 have hcl : ∀ x ∈ y.pits, x.cls.length ≤ 100000 := fun x hx => Nat.le_trans (hB.cl x hx) (by decide)
 have h2 := hB.copied
 have h3 := ev_with9 y b hB.sp
 have h7 := ev_zero9
 by_cases h0 : withErr y b = 0
 case neg =>
  have h5 := ev_PlaceNo (s := s) hB.sp h0
  generalize withErr y b = er at *
  refine ev_of_awp tysOk mixed (fn := Try.f4) Try.func4 rfl rfl rfl ?_
  conv => whnf
  repeat' (first|((with_reducible first|refine Split.of_true ?_|refine Split.of_false ?_);conv=>whnf)|(with_reducible refine Split.neg ?_)|((with_reducible refine Split.nez (fun _=>?_) (fun _=>?_))<;>conv=>whnf)|((with_reducible refine Split.eqz (fun _=>?_) (fun _=>?_))<;>conv=>whnf)|((with_reducible refine Split.dec (fun _=>?_) (fun _=>?_))<;>conv=>whnf)|((with_reducible refine Need.mk ?_ ?_);(first|omega|rfl|decide|(refine ⟨?_,?_⟩<;>simp<;>omega)|(simp;omega));conv=>whnf)|((with_reducible refine AltK.l ?_);(conv=>whnf);(first|(refine CallK.mk _ (hA) ?_)|(refine CallK.mk _ (h1) ?_)|(refine CallK.mk _ (h2) ?_)|(refine CallK.mk _ (h3) ?_)|(refine CallK.mk _ (h5) ?_)|(refine CallK.mk _ (h7) ?_));conv=>whnf)|(exfalso;first|omega|contradiction)|fail)
  all_goals first
   | rfl
   |(exfalso; omega)
 obtain ⟨k, f, c, hW⟩ := with_ok h0
 have hyd : ydErr y = 0 := by
  unfold withErr at h0
  split at h0
  ·contradiction
  ·rename_i h; simpa using h
 have h5 := ev_Place (s := s) hcl h0 hW
 have h6 := ev_PlaceErr9 s hcl hW
 have h8 := ev_Place9 s hW
 rw [h0] at h3
 by_cases hp : plErr y b s (volN b f c) = 0
 ·have hk := plY_ok hyd hW hp
  have hd := (pl_at hp).2.2.1
  have hsp : smallP (plY y b s k f c) := hB.sp
  have h9 := ev_DCheck (plY y b s k f c) hsp
  have h10 := ev_SameSelf (plY y b s k f c) (by have := hW.yok.pits; show y.pits.length ≤ _; omega) (by have := hW.yok.bulk; show y.bulk.length ≤ _; omega) (by show (y.deps ++ [_]).length ≤ _; rw [List.length_append, List.length_singleton]; omega) (by have := hW.yok.bulk; have := hW.yok.carL; show (y.carry.set _ _).length ≤ _; rw [List.length_set]; omega) hsp
  rw [hk] at h9
  rw [if_pos hp] at h5
  rw [hp] at h5 h6
  generalize plY y b s k f c = Y at *
  refine ev_of_awp tysOk mixed (fn := Try.f4) Try.func4 rfl rfl rfl ?_
  conv => whnf
  repeat' (first|((with_reducible refine Split.of_true ?_);conv=>whnf)|(with_reducible refine Split.neg ?_)|((with_reducible refine Split.is_true ?_ ?_);decide;conv=>whnf)|((with_reducible refine Split.is_false ?_ ?_);decide;conv=>whnf)|((with_reducible refine Split.dec (fun _=>?_) (fun _=>?_))<;>conv=>whnf)|((with_reducible refine Need.mk ?_ ?_);(first|omega|rfl|decide|(refine ⟨?_,?_⟩<;>simp<;>omega)|(simp;omega));conv=>whnf)|((with_reducible refine AltK.l ?_);(conv=>whnf);(first|(refine CallK.mk _ (hA) ?_)|(refine CallK.mk _ (h1) ?_)|(refine CallK.mk _ (h2) ?_)|(refine CallK.mk _ (h3) ?_)|(refine CallK.mk _ (h5) ?_)|(refine CallK.mk _ (h6) ?_)|(refine CallK.mk _ (h8) ?_)|(refine CallK.mk _ (h9) ?_)|(refine CallK.mk _ (h10) ?_));conv=>whnf)|fail)
  all_goals first
   | rfl
   |(exfalso; omega)
 ·rw [if_neg hp] at h5
  generalize plErr y b s (volN b f c) = er at *
  refine ev_of_awp tysOk mixed (fn := Try.f4) Try.func4 rfl rfl rfl ?_
  conv => whnf
  repeat' (first|((with_reducible first|refine Split.of_true ?_|refine Split.of_false ?_);conv=>whnf)|(with_reducible refine Split.neg ?_)|((with_reducible refine Split.is_true ?_ ?_);decide;conv=>whnf)|((with_reducible refine Split.nez (fun _=>?_) (fun _=>?_))<;>conv=>whnf)|((with_reducible refine Split.eqz (fun _=>?_) (fun _=>?_))<;>conv=>whnf)|((with_reducible refine Split.dec (fun _=>?_) (fun _=>?_))<;>conv=>whnf)|((with_reducible refine Need.mk ?_ ?_);(first|omega|rfl|decide|(refine ⟨?_,?_⟩<;>simp<;>omega)|(simp;omega));conv=>whnf)|((with_reducible refine AltK.l ?_);(conv=>whnf);(first|(refine CallK.mk _ (hA) ?_)|(refine CallK.mk _ (h1) ?_)|(refine CallK.mk _ (h2) ?_)|(refine CallK.mk _ (h3) ?_)|(refine CallK.mk _ (h5) ?_)|(refine CallK.mk _ (h6) ?_)|(refine CallK.mk _ (h7) ?_));conv=>whnf)|(exfalso;first|omega|contradiction)|fail)
  all_goals first
   | rfl
   |(exfalso; omega)
end Go.Proofs.Try
end

section
namespace Go.Proofs.Try
open Go Go.Vm
theorem int_of {k : IntKind} {d : D} (h : Ty (.int k) d) : ∃ n, d = .int k n ∧ (Lit.int k n).wf = true := by cases h; exact ⟨_, rfl, by assumption⟩
theorem str_of {d : D} (h : Ty .str d) : ∃ s, d = .str s ∧ s.size ≤ 9223372036854775807 := by
 cases h with
 | str s h => exact ⟨_, rfl, h⟩
theorem sl_of {agg : Bool} {cs : List Cs} {d : D} (h : Ty (.sl agg cs) d) : ∃ es, d = .sl cs.length es ∧ (∀ e ∈ es, TyV (agg, cs) e) ∧ es.length ≤ 9223372036854775807 := by
 cases h with
 | sl hk hl h hn => exact ⟨_, rfl, fun e he => ⟨hk e he, hl e he, h e he⟩, hn⟩
theorem agg_of {cs : List Cs} {d : D} (h : TyV (true, cs) d) : ∃ ds, d = .agg ds ∧ ds.length = cs.length ∧ ∀ (j : Nat) c e, cs[j]? = some c → ds[j]? = some e → Ty c e := by
 obtain ⟨ds, rfl⟩ := h.1.1 rfl
 exact ⟨ds, rfl, h.2.1, h.2.2⟩
theorem one_of {c : Cs} {d : D} (h : TyV (false, [c]) d) : Ty c d := by
 have h1 := h.1.2 rfl
 have := h.2.2 0 c d rfl
 rw [(one_cells h1).1] at this
 exact this rfl
theorem map_of {α : Type} {f : α → D} {Q : D → Prop} (hf : ∀ d, Q d → ∃ a, d = f a) : ∀ {es : List D}, (∀ e ∈ es, Q e) → ∃ l : List α, es = l.map f
 | [], _ => ⟨[], rfl⟩
 | e :: es, h => by
  obtain ⟨a, rfl⟩ := hf e (h e (List.mem_cons_self ..))
  obtain ⟨l, rfl⟩ := map_of hf (fun e he => h e (List.mem_cons_of_mem _ he))
  exact ⟨a :: l, rfl⟩
end Go.Proofs.Try
end
