/- Texts TwB TwC TwM DpC DpE DpF DpH DpK DpM DpN DpQ DpR DqG DqK TwZ DqZ DqL, joined; what is not needed is left out. -/
import Derived.Test.YtahnaobdihhppaaProg
import Derived.Test.YtahnaobdihhppaaMgH
import Derived.Test.YtahnaobdihhppaaMgI
import Derived.Test.YtahnaobdihhppaaMgJ
import Derived.Test.YtahnaobdihhppaaMcd
section
namespace Go.Proofs.Try
open Go Go.Vm
set_option maxRecDepth 20000
set_option maxHeartbeats 2000000
theorem badAt_iff {s : ByteArray} {i : Nat} : badAt s i = true ↔ ¬ ((97 ≤ bAt s (i : Int).toNat ∧ bAt s (i : Int).toNat ≤ 122) ∨ (65 ≤ bAt s (i : Int).toNat ∧ bAt s (i : Int).toNat ≤ 90)) ∧
 (i = 0 ∨ ¬ ((48 ≤ bAt s (i : Int).toNat ∧ bAt s (i : Int).toNat ≤ 57) ∨ bAt s (i : Int).toNat = 45)) := by
 have e : bAt s (i : Int).toNat = bAt s i := rfl
 rw [e]
 generalize hc : bAt s i = c
 simp only [badAt, hc, letterZ, otherZ, Bool.and_eq_true, Bool.not_eq_true', Bool.or_eq_true, Bool.or_eq_false_iff, Bool.and_eq_false_iff, decide_eq_true_eq, decide_eq_false_iff_not]
 omega
end Go.Proofs.Try
end

section
namespace Go.Proofs.Try
open Go Go.Vm
set_option maxRecDepth 20000
set_option maxHeartbeats 2000000
theorem ev_IsName (s : ByteArray) : Ev Try.prog 110 [.str s] (.bool (nameB s)) := by
 refine ev_of_awp tysOk mixed (fn := Try.f110) Try.func110 rfl rfl rfl ?_
 conv => whnf
 repeat' (first|((with_reducible refine Split.of_true ?_);conv=>whnf)|((with_reducible refine Split.dec (fun _=>?_) (fun _=>?_))<;>conv=>whnf)|fail)
 ·have : s.size = 0 := by omega
  simp_all [retOf, nameB]
 ·simp_all [retOf, nameB] <;> omega
 refine LoopK.mk (fun i => i ≤ s.size ∧ ∀ k, k < i → badAt s k = false)
  (fun i => ⟨[(2, .d (.bool false)), (3, .d (.int .i64 i)), (0, .d (.str s))], []⟩)
  (fun i => s.size - i) 0 [] ⟨by omega, fun k h => absurd h (by omega)⟩ (by refine ⟨?_, ?_, rfl⟩<;>(repeat' (first|exact True.intro|exact rfl|(refine ⟨?_,?_⟩)|fail));done) ?_
 rintro i ⟨hi, hs⟩
 conv => whnf
 repeat' (first|((with_reducible first|refine Split.of_true ?_|refine Split.of_false ?_);conv=>whnf)|(with_reducible refine Split.neg ?_)|((with_reducible refine Split.nez (fun _=>?_) (fun _=>?_))<;>conv=>whnf)|((with_reducible refine Split.eqz (fun _=>?_) (fun _=>?_))<;>conv=>whnf)|((with_reducible refine Split.dec (fun _=>?_) (fun _=>?_))<;>conv=>whnf)|((with_reducible refine Need.mk ?_ ?_);(first|omega|rfl|decide|(refine ⟨?_,?_⟩<;>simp<;>omega)|(simp;omega));conv=>whnf)|((with_reducible refine Wr.inr ?_ ?_);(first|omega|(simp;omega));conv=>whnf)|(exfalso;first|omega|contradiction)|fail)
 all_goals first
  | exact congrArg D.bool (nameB_bad (i := i) (by omega) (badAt_iff.2 (by omega))).symm
  |(refine Again.mk (i+1) [] ⟨by omega, fun k hk => ?_⟩ (by omega) (by refine ⟨?_, ?_, rfl⟩<;>(repeat' (first|exact True.intro|exact rfl|(refine ⟨?_,?_⟩)|fail));done)
    rcases Nat.lt_or_ge k i with h | h
    ·exact hs k h
    ·have : k = i := by omega
     subst this
     exact Bool.eq_false_iff.2 fun h => by have := badAt_iff.1 h; omega)
  | skip
 have : ∀ k, k < s.size → badAt s k = false := fun k hk => hs k (by omega)
 have h1 : s.size ≠ 0 := by omega
 have h2 : s.size ≤ 12 := by omega
 simp [retOf, nameB, h1, h2]
 exact this
end Go.Proofs.Try
end

section
namespace Go.Proofs.Try
open Go Go.Vm
set_option maxRecDepth 20000
set_option maxHeartbeats 2000000
theorem ev_Within (n lo hi : Int) : Ev Try.prog 75 [.int .i64 n, .int .i64 lo, .int .i64 hi] (.bool (!outsideB n lo hi)) := by
 refine ev_of_awp tysOk mixed (fn := Try.f75) Try.func75 rfl rfl rfl ?_
 conv => whnf
 repeat' (first|((with_reducible refine Split.dec (fun _=>?_) (fun _=>?_))<;>conv=>whnf)|fail)
 all_goals
  simp only [retOf, outsideB]
  congr 1
  rw [Bool.eq_iff_iff]
  simp
  omega
end Go.Proofs.Try
end

section
namespace Go.Proofs.Try
open Go Go.Vm
set_option maxRecDepth 20000
set_option maxHeartbeats 4000000
theorem ix_lt {α : Type} {p : α → Bool} {l : List α} : ixI p l < l.length := by
 unfold ixI
 split
 ·rename_i i h
  have := (List.findIdx?_eq_some_iff_getElem.1 h).1
  omega
 ·omega
end Go.Proofs.Try
end

section
namespace Go.Proofs.Try
open Go Go.Vm
set_option maxRecDepth 20000
set_option maxHeartbeats 4000000
theorem ev_Find9 (l : List Pt) (s : ByteArray) (hn : l.length ≤ 1000000) : Ev Try.prog 39 [.sl 6 (l.map ptD), .str s] (iD (ixI (fun x => sEq x.name s) l)) := by
 have hlen : (l.map ptD).length = l.length := List.length_map _
 refine ev_of_awp tysOk mixed (fn := Try.f39) Try.func39 rfl rfl rfl ?_
 conv => whnf
 skip
 refine LoopK.o2 (fun i : Nat => i ≤ l.length ∧ ∀ g ∈ l.take i, sEq g.name s = false) (fun i => [(5, .d (.int .i64 i))]) (fun _ => []) (fun i => l.length - i) 0 (by simp) (by refine ⟨?_, ?_, rfl⟩<;>(repeat' (first|exact True.intro|exact rfl|(refine ⟨?_,?_⟩)|fail));done) ?_
 rintro i ⟨hi, hp⟩
 by_cases hil : i < l.length
 ·obtain ⟨g, hg⟩ := some_of_lt hil
  by_cases he : g.name = s
  ·have e : l.findIdx? (fun x => sEq x.name s) = some i := by
    rw [List.findIdx?_eq_some_iff_getElem]
    refine ⟨by omega, by rw [(List.getElem?_eq_some_iff.1 hg).2, he]; exact sEq_self _, fun j hj => ?_⟩
    have := hp l[j] (List.mem_take_iff_getElem.2 ⟨j, by omega, rfl⟩)
    rw [this]; decide
   rw [ixI, e]
   conv => whnf
   repeat' (first|((refine PickE.map i hg (by omega) ?_);conv=>whnf)|((with_reducible refine Split.streq (fun _=>?_) (fun _=>?_))<;>conv=>whnf)|((with_reducible refine Split.dec (fun _=>?_) (fun _=>?_))<;>conv=>whnf)|((with_reducible refine Need.mk ?_ ?_);(first|omega|rfl|decide|(refine ⟨?_,?_⟩<;>simp<;>omega)|(simp;omega));conv=>whnf)|((with_reducible refine Wr.inr ?_ ?_);(first|omega|(simp;omega));conv=>whnf)|(exfalso;first|omega|contradiction)|fail)
   all_goals first
    | rfl
    |(exfalso; contradiction)
  ·conv => whnf
   repeat' (first|((refine PickE.map i hg (by omega) ?_);conv=>whnf)|((with_reducible refine Split.streq (fun _=>?_) (fun _=>?_))<;>conv=>whnf)|((with_reducible refine Split.dec (fun _=>?_) (fun _=>?_))<;>conv=>whnf)|((with_reducible refine Need.mk ?_ ?_);(first|omega|rfl|decide|(refine ⟨?_,?_⟩<;>simp<;>omega)|(simp;omega));conv=>whnf)|((with_reducible refine Wr.inr ?_ ?_);(first|omega|(simp;omega));conv=>whnf)|(exfalso;first|omega|contradiction)|fail)
   all_goals first
    |(exfalso; contradiction)
    |(refine Again.au (i + 1) ⟨by omega, fun x hx => ?_⟩ (by omega) (by refine ⟨?_, ?_, rfl⟩<;>(repeat' (first|exact True.intro|exact rfl|(refine ⟨?_,?_⟩)|fail));done)
      rw [take_snoc hg] at hx
      rcases List.mem_append.1 hx with hx | hx
      ·exact hp x hx
      ·rw [List.mem_singleton.1 hx]; exact sEq_ne he)
 ·have e : l.findIdx? (fun x => sEq x.name s) = none := by
   rw [List.findIdx?_eq_none_iff]
   intro x hx
   rw [← List.take_of_length_le (show l.length ≤ i by omega)] at hx
   exact hp x hx
  rw [ixI, e]
  conv => whnf
  repeat' (first|((with_reducible refine Split.dec (fun _=>?_) (fun _=>?_))<;>conv=>whnf)|((with_reducible refine Need.mk ?_ ?_);(first|omega|rfl|decide|(refine ⟨?_,?_⟩<;>simp<;>omega)|(simp;omega));conv=>whnf)|(exfalso;first|omega|contradiction)|fail)
  rfl
theorem ev_Factor9 (l : List Bk) (s : ByteArray) (hn : l.length ≤ 1000000) : Ev Try.prog 18 [.sl 3 (l.map bkD), .str s] (iD (ixI (fun x => sEq x.soil s) l)) := by
 have hlen : (l.map bkD).length = l.length := List.length_map _
 refine ev_of_awp tysOk mixed (fn := Try.f18) Try.func18 rfl rfl rfl ?_
 conv => whnf
 skip
 refine LoopK.o2 (fun i : Nat => i ≤ l.length ∧ ∀ g ∈ l.take i, sEq g.soil s = false) (fun i => [(5, .d (.int .i64 i))]) (fun _ => []) (fun i => l.length - i) 0 (by simp) (by refine ⟨?_, ?_, rfl⟩<;>(repeat' (first|exact True.intro|exact rfl|(refine ⟨?_,?_⟩)|fail));done) ?_
 rintro i ⟨hi, hp⟩
 by_cases hil : i < l.length
 ·obtain ⟨g, hg⟩ := some_of_lt hil
  by_cases he : g.soil = s
  ·have e : l.findIdx? (fun x => sEq x.soil s) = some i := by
    rw [List.findIdx?_eq_some_iff_getElem]
    refine ⟨by omega, by rw [(List.getElem?_eq_some_iff.1 hg).2, he]; exact sEq_self _, fun j hj => ?_⟩
    have := hp l[j] (List.mem_take_iff_getElem.2 ⟨j, by omega, rfl⟩)
    rw [this]; decide
   rw [ixI, e]
   conv => whnf
   repeat' (first|((refine PickE.map i hg (by omega) ?_);conv=>whnf)|((with_reducible refine Split.streq (fun _=>?_) (fun _=>?_))<;>conv=>whnf)|((with_reducible refine Split.dec (fun _=>?_) (fun _=>?_))<;>conv=>whnf)|((with_reducible refine Need.mk ?_ ?_);(first|omega|rfl|decide|(refine ⟨?_,?_⟩<;>simp<;>omega)|(simp;omega));conv=>whnf)|((with_reducible refine Wr.inr ?_ ?_);(first|omega|(simp;omega));conv=>whnf)|(exfalso;first|omega|contradiction)|fail)
   all_goals first
    | rfl
    |(exfalso; contradiction)
  ·conv => whnf
   repeat' (first|((refine PickE.map i hg (by omega) ?_);conv=>whnf)|((with_reducible refine Split.streq (fun _=>?_) (fun _=>?_))<;>conv=>whnf)|((with_reducible refine Split.dec (fun _=>?_) (fun _=>?_))<;>conv=>whnf)|((with_reducible refine Need.mk ?_ ?_);(first|omega|rfl|decide|(refine ⟨?_,?_⟩<;>simp<;>omega)|(simp;omega));conv=>whnf)|((with_reducible refine Wr.inr ?_ ?_);(first|omega|(simp;omega));conv=>whnf)|(exfalso;first|omega|contradiction)|fail)
   all_goals first
    |(exfalso; contradiction)
    |(refine Again.au (i + 1) ⟨by omega, fun x hx => ?_⟩ (by omega) (by refine ⟨?_, ?_, rfl⟩<;>(repeat' (first|exact True.intro|exact rfl|(refine ⟨?_,?_⟩)|fail));done)
      rw [take_snoc hg] at hx
      rcases List.mem_append.1 hx with hx | hx
      ·exact hp x hx
      ·rw [List.mem_singleton.1 hx]; exact sEq_ne he)
 ·have e : l.findIdx? (fun x => sEq x.soil s) = none := by
   rw [List.findIdx?_eq_none_iff]
   intro x hx
   rw [← List.take_of_length_le (show l.length ≤ i by omega)] at hx
   exact hp x hx
  rw [ixI, e]
  conv => whnf
  repeat' (first|((with_reducible refine Split.dec (fun _=>?_) (fun _=>?_))<;>conv=>whnf)|((with_reducible refine Need.mk ?_ ?_);(first|omega|rfl|decide|(refine ⟨?_,?_⟩<;>simp<;>omega)|(simp;omega));conv=>whnf)|(exfalso;first|omega|contradiction)|fail)
  rfl
theorem met_ix {α : Type} {nm : α → ByteArray} {l : List α} {s : ByteArray} : metB nm l s = true ↔ ¬ ixI (fun x => sEq (nm x) s) l < 0 := by
 constructor
 ·intro h hlt
  unfold metB at h
  rw [List.any_eq_true] at h
  obtain ⟨x, hx, he⟩ := h
  have he : nm x = s := by simpa using he
  unfold ixI at hlt
  cases hf : l.findIdx? (fun x => sEq (nm x) s) with
  | none =>
   have := List.findIdx?_eq_none_iff.1 hf x hx
   rw [he, sEq_self] at this; cases this
  | some i => rw [hf] at hlt; simp at hlt; omega
 ·intro h
  obtain ⟨i, r, -, hr, hs⟩ := ix_at h
  exact List.any_eq_true.2 ⟨r, List.mem_of_getElem? hr, by simpa using sEq_eq hs⟩
theorem ev_pitErr (p : Pt) (bef : List Pt) (hn : bef.length ≤ 1000000) (hc : p.cls.length ≤ 1000000) :
 Ev Try.prog 73 [ptD p, .sl 6 (bef.map ptD)] (iD (if nameB p.name = false then 4 else if metB Pt.name bef p.name = true then 5 else ptErr p)) := by
 have hlen : (p.cls.map iD).length = p.cls.length := List.length_map _
 have hN := ev_IsName p.name
 have hF := ev_Find9 bef p.name hn
 have hm := @met_ix _ Pt.name bef p.name
 have hA := ev_Within p.area 1 1000000000
 have hB := ev_Within p.base (-20000) 20000
 have hT := ev_Within p.top (-20000) 20000
 have hP := ev_Within p.price 0 10000
 generalize ixI (fun x => sEq x.name p.name) bef = ix at *
 generalize metB Pt.name bef p.name = mt at *
 cases hb : nameB p.name with
 | false =>
  rw [hb] at hN
  rw [if_pos rfl]
  refine ev_of_awp tysOk mixed (fn := Try.f73) Try.func73 rfl rfl rfl ?_
  conv => whnf
  repeat' (first|((with_reducible refine Split.of_false ?_);conv=>whnf)|(with_reducible refine Split.neg ?_)|((with_reducible refine AltK.l ?_);(conv=>whnf);(first|(refine CallK.mk _ (hN) ?_));conv=>whnf)|fail)
  rfl
 | true =>
 rw [hb] at hN
 rw [if_neg (by decide)]
 cases mt with
 | true =>
  have hi := hm.1 rfl
  rw [if_pos rfl]
  refine ev_of_awp tysOk mixed (fn := Try.f73) Try.func73 rfl rfl rfl ?_
  conv => whnf
  repeat' (first|((with_reducible refine Split.of_true ?_);conv=>whnf)|(with_reducible refine Split.neg ?_)|((with_reducible refine Split.dec (fun _=>?_) (fun _=>?_))<;>conv=>whnf)|((with_reducible refine AltK.l ?_);(conv=>whnf);(first|(refine CallK.mk _ (hN) ?_)|(refine CallK.mk _ (hF) ?_));conv=>whnf)|(exfalso;first|omega|contradiction)|fail)
  all_goals first
   | rfl
   |(exfalso; omega)
 | false =>
 have hi : ix < 0 := by
  rcases Int.lt_or_le ix 0 with h | h
  ·exact h
  ·exact absurd (hm.2 (by omega)) (by decide)
 clear hm
 rw [if_neg (by decide)]
 unfold ptErr
 generalize outsideB p.area 1 1000000000 = a1 at *
 generalize outsideB p.base (-20000) 20000 = a2 at *
 generalize outsideB p.top (-20000) 20000 = a3 at *
 generalize outsideB p.price 0 10000 = a4 at *
 by_cases h1 : (a1 || a2 || a3) = true
 ·rw [if_pos h1]
  refine ev_of_awp tysOk mixed (fn := Try.f73) Try.func73 rfl rfl rfl ?_
  conv => whnf
  repeat' (first|((with_reducible refine Split.of_true ?_);conv=>whnf)|(with_reducible refine Split.neg ?_)|((with_reducible refine Split.dec (fun _=>?_) (fun _=>?_))<;>conv=>whnf)|((with_reducible refine Split.mk (fun _=>?_) (fun _=>?_))<;>conv=>whnf)|((with_reducible refine AltK.l ?_);(conv=>whnf);(first|(refine CallK.mk _ (hN) ?_)|(refine CallK.mk _ (hF) ?_)|(refine CallK.mk _ (hA) ?_)|(refine CallK.mk _ (hB) ?_)|(refine CallK.mk _ (hT) ?_)|(refine CallK.mk _ (hP) ?_));conv=>whnf)|(exfalso;first|omega|contradiction)|fail)
  all_goals first
   | rfl
   |(exfalso; omega)
   |(exfalso; simp_all; done)
 rw [if_neg h1]
 have h1 : a1 = false ∧ a2 = false ∧ a3 = false := by simpa [and_assoc] using h1
 obtain ⟨rfl, rfl, rfl⟩ := h1
 by_cases h2 : p.top ≤ p.base
 ·rw [if_pos h2]
  refine ev_of_awp tysOk mixed (fn := Try.f73) Try.func73 rfl rfl rfl ?_
  conv => whnf
  repeat' (first|((with_reducible first|refine Split.of_true ?_|refine Split.of_false ?_);conv=>whnf)|(with_reducible refine Split.neg ?_)|((with_reducible refine Split.dec (fun _=>?_) (fun _=>?_))<;>conv=>whnf)|((with_reducible refine Split.mk (fun _=>?_) (fun _=>?_))<;>conv=>whnf)|((with_reducible refine AltK.l ?_);(conv=>whnf);(first|(refine CallK.mk _ (hN) ?_)|(refine CallK.mk _ (hF) ?_)|(refine CallK.mk _ (hA) ?_)|(refine CallK.mk _ (hB) ?_)|(refine CallK.mk _ (hT) ?_)|(refine CallK.mk _ (hP) ?_));conv=>whnf)|(exfalso;first|omega|contradiction)|fail)
  all_goals first
   | rfl
   |(exfalso; omega)
 rw [if_neg h2]
 cases a4 with
 | true =>
  rw [if_pos rfl]
  refine ev_of_awp tysOk mixed (fn := Try.f73) Try.func73 rfl rfl rfl ?_
  conv => whnf
  repeat' (first|((with_reducible first|refine Split.of_true ?_|refine Split.of_false ?_);conv=>whnf)|(with_reducible refine Split.neg ?_)|((with_reducible refine Split.dec (fun _=>?_) (fun _=>?_))<;>conv=>whnf)|((with_reducible refine AltK.l ?_);(conv=>whnf);(first|(refine CallK.mk _ (hN) ?_)|(refine CallK.mk _ (hF) ?_)|(refine CallK.mk _ (hA) ?_)|(refine CallK.mk _ (hB) ?_)|(refine CallK.mk _ (hT) ?_)|(refine CallK.mk _ (hP) ?_));conv=>whnf)|(exfalso;first|omega|contradiction)|fail)
  all_goals first
   | rfl
   |(exfalso; omega)
 | false =>
 rw [if_neg (by decide)]
 have e0 : clsGo none p.cls = clsGo (prevI p.cls 0) (p.cls.drop 0) := rfl
 refine ev_of_awp tysOk mixed (fn := Try.f73) Try.func73 rfl rfl rfl ?_
 conv => whnf
 repeat' (first|((with_reducible first|refine Split.of_true ?_|refine Split.of_false ?_);conv=>whnf)|(with_reducible refine Split.neg ?_)|((with_reducible refine Split.dec (fun _=>?_) (fun _=>?_))<;>conv=>whnf)|((with_reducible refine AltK.l ?_);(conv=>whnf);(first|(refine CallK.mk _ (hN) ?_)|(refine CallK.mk _ (hF) ?_)|(refine CallK.mk _ (hA) ?_)|(refine CallK.mk _ (hB) ?_)|(refine CallK.mk _ (hT) ?_)|(refine CallK.mk _ (hP) ?_));conv=>whnf)|(exfalso;first|omega|contradiction)|fail)
 refine LoopK.o2 (fun i : Nat => i ≤ p.cls.length ∧ clsGo none p.cls = clsGo (prevI p.cls i) (p.cls.drop i)) (fun i => [(5, .d (.int .i64 i))]) (fun _ => []) (fun i => p.cls.length - i) 0 ⟨by omega, e0⟩ (by refine ⟨?_, ?_, rfl⟩<;>(repeat' (first|exact True.intro|exact rfl|(refine ⟨?_,?_⟩)|(intro h;cases h;done)|fail));done) ?_
 rintro i ⟨hi', hp⟩
 by_cases hil : i < p.cls.length
 ·obtain ⟨c, hc⟩ := some_of_lt hil
  have hC := ev_Within c 0 9
  rw [cls_at hc] at hp
  cases ho : outsideB c 0 9 with
  | true =>
   rw [ho, if_pos rfl] at hp
   rw [ho] at hC
   conv => whnf
   repeat' (first|((refine PickE.map i hc (by omega) ?_);conv=>whnf)|((with_reducible refine Split.of_true ?_);conv=>whnf)|(with_reducible refine Split.neg ?_)|((with_reducible refine Split.dec (fun _=>?_) (fun _=>?_))<;>conv=>whnf)|((with_reducible refine Need.mk ?_ ?_);(first|omega|rfl|decide|(refine ⟨?_,?_⟩<;>simp<;>omega)|(simp;omega));conv=>whnf)|((with_reducible refine AltK.l ?_);(conv=>whnf);(first|(refine CallK.mk _ (hC) ?_));conv=>whnf)|(exfalso;first|omega|contradiction)|fail)
   rw [hp]; rfl
  | false =>
   rw [ho, if_neg (by decide)] at hp
   rw [ho] at hC
   by_cases hz : i = 0
   ·subst hz
    rw [if_neg (by simp [prevI])] at hp
    conv => whnf
    repeat' (first|((refine PickE.map 0 hc (by omega) ?_);conv=>whnf)|((with_reducible refine Split.of_false ?_);conv=>whnf)|(with_reducible refine Split.neg ?_)|((with_reducible refine Split.is_false ?_ ?_);decide;conv=>whnf)|((with_reducible refine Split.dec (fun _=>?_) (fun _=>?_))<;>conv=>whnf)|((with_reducible refine Need.mk ?_ ?_);(first|omega|rfl|decide|(refine ⟨?_,?_⟩<;>simp<;>omega)|(simp;omega));conv=>whnf)|((with_reducible refine Wr.inr ?_ ?_);(first|omega|(simp;omega));conv=>whnf)|((with_reducible refine AltK.l ?_);(conv=>whnf);(first|(refine CallK.mk _ (hC) ?_));conv=>whnf)|(exfalso;first|omega|contradiction)|fail)
    all_goals first
     | exact Again.au (0 + 1) ⟨by omega, hp⟩ (by omega) (by refine ⟨?_, ?_, rfl⟩<;>(repeat' (first|exact True.intro|exact rfl|(refine ⟨?_,?_⟩)|(intro h;cases h;done)|fail));done)
     |(exfalso; omega)
   ·obtain ⟨q, hq⟩ := some_of_lt (show i - 1 < p.cls.length by omega)
    have hpv : prevI p.cls i = some q := by
     cases i with
     | zero => exact absurd rfl hz
     | succ j => simpa [prevI] using hq
    rw [hpv] at hp
    by_cases hle : c ≤ q
    ·rw [if_pos (by simp [hle])] at hp
     conv => whnf
     repeat' (first|((refine PickE.map (i - 1) hq (by omega) ?_);conv=>whnf)|((refine PickE.map i hc (by omega) ?_);conv=>whnf)|((with_reducible refine Split.of_false ?_);conv=>whnf)|(with_reducible refine Split.neg ?_)|((with_reducible refine Split.dec (fun _=>?_) (fun _=>?_))<;>conv=>whnf)|((with_reducible refine Need.mk ?_ ?_);(first|omega|rfl|decide|(refine ⟨?_,?_⟩<;>simp<;>omega)|(simp;omega));conv=>whnf)|((with_reducible refine Wr.inr ?_ ?_);(first|omega|(simp;omega));conv=>whnf)|((with_reducible refine AltK.l ?_);(conv=>whnf);(first|(refine CallK.mk _ (hC) ?_));conv=>whnf)|(exfalso;first|omega|contradiction)|fail)
     all_goals first
      |(rw [hp]; rfl)
      |(exfalso; omega)
    ·rw [if_neg (by simp; omega)] at hp
     conv => whnf
     repeat' (first|((refine PickE.map (i - 1) hq (by omega) ?_);conv=>whnf)|((refine PickE.map i hc (by omega) ?_);conv=>whnf)|((with_reducible refine Split.of_false ?_);conv=>whnf)|(with_reducible refine Split.neg ?_)|((with_reducible refine Split.dec (fun _=>?_) (fun _=>?_))<;>conv=>whnf)|((with_reducible refine Need.mk ?_ ?_);(first|omega|rfl|decide|(refine ⟨?_,?_⟩<;>simp<;>omega)|(simp;omega));conv=>whnf)|((with_reducible refine Wr.inr ?_ ?_);(first|omega|(simp;omega));conv=>whnf)|((with_reducible refine AltK.l ?_);(conv=>whnf);(first|(refine CallK.mk _ (hC) ?_));conv=>whnf)|(exfalso;first|omega|contradiction)|fail)
     all_goals first
      | exact Again.au (i + 1) ⟨by omega, hp⟩ (by omega) (by refine ⟨?_, ?_, rfl⟩<;>(repeat' (first|exact True.intro|exact rfl|(refine ⟨?_,?_⟩)|(intro h;cases h;done)|fail));done)
      |(exfalso; omega)
 ·rw [List.drop_eq_nil_of_le (show p.cls.length ≤ i by omega)] at hp
  rw [hp]
  conv => whnf
  repeat' (first|((with_reducible refine Split.dec (fun _=>?_) (fun _=>?_))<;>conv=>whnf)|((with_reducible refine Need.mk ?_ ?_);(first|omega|rfl|decide|(refine ⟨?_,?_⟩<;>simp<;>omega)|(simp;omega));conv=>whnf)|(exfalso;first|omega|contradiction)|fail)
  cases prevI p.cls i <;> rfl
theorem ev_Deposited (l : List Dp) (n : Int) (hn : l.length ≤ 1000000) : Ev Try.prog 63 [.sl 3 (l.map dpD), iD n] (.bool (l.any fun x => x.batch == n)) := by
 have hlen : (l.map dpD).length = l.length := List.length_map _
 refine ev_of_awp tysOk mixed (fn := Try.f63) Try.func63 rfl rfl rfl ?_
 conv => whnf
 skip
 refine LoopK.o2 (fun i : Nat => i ≤ l.length ∧ (l.take i).any (fun x => x.batch == n) = false) (fun i => [(5, .d (.int .i64 i))]) (fun _ => []) (fun i => l.length - i) 0 ⟨by omega, rfl⟩ (by refine ⟨?_, ?_, rfl⟩<;>(repeat' (first|exact True.intro|exact rfl|(refine ⟨?_,?_⟩)|fail));done) ?_
 rintro i ⟨hi, hp⟩
 by_cases hil : i < l.length
 ·obtain ⟨d, hd⟩ := some_of_lt hil
  have hy := @any_yes _ (fun x : Dp => x.batch == n) l i d hd
  have hno := @any_no _ (fun x : Dp => x.batch == n) l i d hd hp
  conv => whnf
  repeat' (first|((refine PickE.map i hd (by omega) ?_);conv=>whnf)|((with_reducible refine Split.eqz (fun _=>?_) (fun _=>?_))<;>conv=>whnf)|((with_reducible refine Split.dec (fun _=>?_) (fun _=>?_))<;>conv=>whnf)|((with_reducible refine Need.mk ?_ ?_);(first|omega|rfl|decide|(refine ⟨?_,?_⟩<;>simp<;>omega)|(simp;omega));conv=>whnf)|((with_reducible refine Wr.inr ?_ ?_);(first|omega|(simp;omega));conv=>whnf)|(exfalso;first|omega|contradiction)|fail)
  ·rw [hy (by simpa using (by assumption : d.batch = n))]; rfl
  ·exact Again.au (i + 1) ⟨by omega, hno (by simpa using (by assumption : d.batch ≠ n))⟩ (by omega) (by refine ⟨?_, ?_, rfl⟩<;>(repeat' (first|exact True.intro|exact rfl|(refine ⟨?_,?_⟩)|fail));done)
 ·rw [List.take_of_length_le (by omega)] at hp
  rw [hp]
  conv => whnf
  repeat' (first|((with_reducible refine Split.dec (fun _=>?_) (fun _=>?_))<;>conv=>whnf)|((with_reducible refine Need.mk ?_ ?_);(first|omega|rfl|decide|(refine ⟨?_,?_⟩<;>simp<;>omega)|(simp;omega));conv=>whnf)|(exfalso;first|omega|contradiction)|fail)
  rfl
theorem ev_Capacity9 {p : Pt} (h : PtOk p) : Ev Try.prog 76 [ptD p] (iD (capS p)) := by
 have hc := cap_bd h
 have h2 := h.base
 have h3 := h.top
 unfold capS at *
 refine ev_of_awp tysOk mixed (fn := Try.f76) Try.func76 rfl rfl rfl ?_
 conv => whnf
 repeat' (first|((with_reducible refine Wr.inr ?_ ?_);(first|omega|(simp;omega));conv=>whnf)|fail)
 rfl
theorem ev_Taken9 (y : Yd) {k : Nat} {p : Pt} (hk : y.pits[k]? = some p) (hv : volOk y.deps) (hn : y.deps.length ≤ 300) : Ev Try.prog 40 [ydD y, iD k] (iD (takS p.name y.deps)) := by
 have hlen : (y.deps.map dpD).length = y.deps.length := List.length_map _
 refine ev_of_awp tysOk mixed (fn := Try.f40) Try.func40 rfl rfl rfl ?_
 conv => whnf
 skip
 refine LoopK.o2 (fun i : Nat => i ≤ y.deps.length) (fun i => [(5, .d (iD (takS p.name (y.deps.take i)))), (6, .d (.int .i64 i))]) (fun _ => []) (fun i => y.deps.length - i) 0 (by simp) (by refine ⟨?_, ?_, rfl⟩<;>(repeat' (first|exact True.intro|exact rfl|(refine ⟨?_,?_⟩)|(intro h;cases h;done)|fail));done) ?_
 rintro i hi
 have hb := takS_bd p.name (y.deps.take i) (fun x hx => hv x (List.mem_of_mem_take hx))
 have hl : (y.deps.take i).length ≤ 300 := by rw [List.length_take]; omega
 by_cases hil : i < y.deps.length
 ·obtain ⟨d, hd⟩ := some_of_lt hil
  have hs := takS_snoc (s := p.name) hd
  have hdv := hv d (List.mem_of_getElem? hd)
  by_cases he : d.pit = p.name
  ·rw [he, sEq_self, if_pos rfl] at hs
   conv => whnf
   repeat' (first|((refine PickE.map k hk (by omega) ?_);conv=>whnf)|((refine PickE.map i hd (by omega) ?_);conv=>whnf)|((with_reducible refine Split.streq (fun _=>?_) (fun _=>?_))<;>conv=>whnf)|((with_reducible refine Split.dec (fun _=>?_) (fun _=>?_))<;>conv=>whnf)|((with_reducible refine Need.mk ?_ ?_);(first|omega|rfl|decide|(refine ⟨?_,?_⟩<;>simp<;>omega)|(simp;omega));conv=>whnf)|((with_reducible refine Wr.inr ?_ ?_);(first|omega|(simp;omega));conv=>whnf)|(exfalso;first|omega|contradiction)|fail)
   ·refine Again.au (i + 1) (by omega) (by omega) ?_
    rw [hs]
    exact (by refine ⟨?_, ?_, rfl⟩<;>(repeat' (first|exact True.intro|exact rfl|(refine ⟨?_,?_⟩)|(intro h;cases h;done)|fail));done)
   all_goals (exfalso; contradiction)
  ·rw [sEq_ne he, if_neg (by decide)] at hs
   conv => whnf
   repeat' (first|((refine PickE.map k hk (by omega) ?_);conv=>whnf)|((refine PickE.map i hd (by omega) ?_);conv=>whnf)|((with_reducible refine Split.streq (fun _=>?_) (fun _=>?_))<;>conv=>whnf)|((with_reducible refine Split.dec (fun _=>?_) (fun _=>?_))<;>conv=>whnf)|((with_reducible refine Need.mk ?_ ?_);(first|omega|rfl|decide|(refine ⟨?_,?_⟩<;>simp<;>omega)|(simp;omega));conv=>whnf)|((with_reducible refine Wr.inr ?_ ?_);(first|omega|(simp;omega));conv=>whnf)|(exfalso;first|omega|contradiction)|fail)
   all_goals first
    |(exfalso; contradiction)
    |(refine Again.au (i + 1) (by omega) (by omega) ?_
      rw [hs, Int.add_zero]
      exact (by refine ⟨?_, ?_, rfl⟩<;>(repeat' (first|exact True.intro|exact rfl|(refine ⟨?_,?_⟩)|(intro h;cases h;done)|fail));done))
 ·have e : y.deps.take i = y.deps := List.take_of_length_le (by omega)
  conv => whnf
  repeat' (first|((with_reducible refine Split.dec (fun _=>?_) (fun _=>?_))<;>conv=>whnf)|((with_reducible refine Need.mk ?_ ?_);(first|omega|rfl|decide|(refine ⟨?_,?_⟩<;>simp<;>omega)|(simp;omega));conv=>whnf)|(exfalso;first|omega|contradiction)|fail)
  rw [e]; rfl
theorem ev_bulkingErr (y : Yd) : Ev Try.prog 74 [ydD y] (iD (if 20 < y.bulk.length then 8 else if nmGo Bk.soil bkErr [] y.bulk ≠ 0 then nmGo Bk.soil bkErr [] y.bulk else if y.carry.length ≠ y.bulk.length then 10 else carGo y.bulk y.carry)) := by
 have hlb : (y.bulk.map bkD).length = y.bulk.length := List.length_map _
 have hlc : (y.carry.map iD).length = y.carry.length := List.length_map _
 by_cases h3 : 20 < y.bulk.length
 ·rw [if_pos h3]
  refine ev_of_awp tysOk mixed (fn := Try.f74) Try.func74 rfl rfl rfl ?_
  conv => whnf
  repeat' (first|((with_reducible refine Split.dec (fun _=>?_) (fun _=>?_))<;>conv=>whnf)|(exfalso;first|omega|contradiction)|fail)
  all_goals first
   | rfl
   |(exfalso; omega)
 rw [if_neg h3]
 have z2 := @nmGo_zero _ Bk.soil bkErr y.bulk []
 have e0 : nmGo Bk.soil bkErr [] y.bulk = nmGo Bk.soil bkErr (y.bulk.take 0) (y.bulk.drop 0) := rfl
 generalize hE : nmGo Bk.soil bkErr [] y.bulk = e2 at *
 refine ev_of_awp tysOk mixed (fn := Try.f74) Try.func74 rfl rfl rfl ?_
 conv => whnf
 repeat' (first|((with_reducible refine Split.dec (fun _=>?_) (fun _=>?_))<;>conv=>whnf)|(exfalso;first|omega|contradiction)|fail)
 refine LoopK.o2 (fun i : Nat => i ≤ y.bulk.length ∧ e2 = nmGo Bk.soil bkErr (y.bulk.take i) (y.bulk.drop i)) (fun i => [(3, .d (.int .i64 i))]) (fun _ => []) (fun i => y.bulk.length - i) 0 ⟨by omega, e0⟩ (by refine ⟨?_, ?_, rfl⟩<;>(repeat' (first|exact True.intro|exact rfl|(refine ⟨?_,?_⟩)|(intro h;cases h;done)|fail));done) ?_
 rintro i ⟨hi, hp⟩
 by_cases hil : i < y.bulk.length
 ·obtain ⟨b, hb⟩ := some_of_lt hil
  rw [nmGo_at hb] at hp
  have hN := ev_IsName b.soil
  have hF := ev_Factor9 (y.bulk.take i) b.soil (by rw [List.length_take]; omega)
  have hm := @met_ix _ Bk.soil (y.bulk.take i) b.soil
  have hlt := @ix_lt _ (fun x : Bk => sEq x.soil b.soil) (y.bulk.take i)
  have w1 := ev_Within b.den 1 1000
  have w2 := ev_Within b.num 1 (10 * b.den)
  have hd : ((y.bulk.map bkD).take ((i : Int)).toNat).drop (Int.toNat 0) = (y.bulk.take i).map bkD := by rw [Int.toNat_natCast, Int.toNat_zero, List.drop_zero, List.map_take]
  rw [← hd] at hF
  generalize ixI (fun x => sEq x.soil b.soil) (y.bulk.take i) = ix at *
  generalize metB Bk.soil (y.bulk.take i) b.soil = mt at *
  cases hnb : nameB b.soil with
  | false =>
   rw [hnb, if_pos rfl] at hp
   rw [hnb] at hN
   rw [hp]
   conv => whnf
   repeat' (first|((refine PickE.map i hb (by omega) ?_);conv=>whnf)|((with_reducible refine Split.of_false ?_);conv=>whnf)|(with_reducible refine Split.neg ?_)|((with_reducible refine Split.nez (fun _=>?_) (fun _=>?_))<;>conv=>whnf)|((with_reducible refine Split.dec (fun _=>?_) (fun _=>?_))<;>conv=>whnf)|((with_reducible refine Need.mk ?_ ?_);(first|omega|rfl|decide|(refine ⟨?_,?_⟩<;>simp<;>omega)|(simp;omega));conv=>whnf)|((with_reducible refine AltK.l ?_);(conv=>whnf);(first|(refine CallK.mk _ (hN) ?_));conv=>whnf)|(exfalso;first|omega|contradiction)|fail)
   rfl
  | true =>
  rw [hnb, if_neg (by decide)] at hp
  rw [hnb] at hN
  cases mt with
  | true =>
   have hi' := hm.1 rfl
   rw [if_pos rfl] at hp
   rw [hp]
   conv => whnf
   repeat' (first|((refine PickE.map i hb (by omega) ?_);conv=>whnf)|((with_reducible refine Split.of_true ?_);conv=>whnf)|(with_reducible refine Split.neg ?_)|((with_reducible refine Split.nez (fun _=>?_) (fun _=>?_))<;>conv=>whnf)|((with_reducible refine Split.dec (fun _=>?_) (fun _=>?_))<;>conv=>whnf)|((with_reducible refine Need.mk ?_ ?_);(first|omega|rfl|decide|(refine ⟨?_,?_⟩<;>simp<;>omega)|(simp;omega));conv=>whnf)|((with_reducible refine AltK.l ?_);(conv=>whnf);(first|(refine CallK.mk _ (hN) ?_)|(refine CallK.mk _ (hF) ?_));conv=>whnf)|(exfalso;first|omega|contradiction)|fail)
   all_goals first
    | rfl
    |(exfalso; omega)
  | false =>
  have hi' : ix < 0 := by
   rcases Int.lt_or_le ix 0 with h | h
   ·exact h
   ·exact absurd (hm.2 (by omega)) (by decide)
  clear hm
  rw [if_neg (by decide)] at hp
  have eb : bkErr b = if (outsideB b.den 1 1000 || outsideB b.num 1 (10 * b.den)) = true then 2 else 0 := rfl
  rw [eb] at hp
  cases ho : outsideB b.den 1 1000 with
  | true =>
   rw [ho] at w1 hp
   rw [Bool.true_or, if_pos rfl, if_pos (by decide)] at hp
   rw [hp]
   conv => whnf
   repeat' (first|((refine PickE.map i hb (by omega) ?_);conv=>whnf)|((with_reducible refine Split.of_true ?_);conv=>whnf)|(with_reducible refine Split.neg ?_)|((with_reducible refine Split.nez (fun _=>?_) (fun _=>?_))<;>conv=>whnf)|((with_reducible refine Split.dec (fun _=>?_) (fun _=>?_))<;>conv=>whnf)|((with_reducible refine Need.mk ?_ ?_);(first|omega|rfl|decide|(refine ⟨?_,?_⟩<;>simp<;>omega)|(simp;omega));conv=>whnf)|((with_reducible refine AltK.l ?_);(conv=>whnf);(first|(refine CallK.mk _ (hN) ?_)|(refine CallK.mk _ (hF) ?_)|(refine CallK.mk _ (w1) ?_)|(refine CallK.mk _ (w2) ?_));conv=>whnf)|(exfalso;first|omega|contradiction)|fail)
   all_goals first
    | rfl
    |(exfalso; omega)
  | false =>
   have hdb : 1 ≤ b.den ∧ b.den ≤ 1000 := by simp [outsideB] at ho; omega
   rw [ho] at w1 hp
   rw [Bool.false_or] at hp
   cases ho2 : outsideB b.num 1 (10 * b.den) with
   | true =>
    rw [ho2] at w2 hp
    rw [if_pos rfl, if_pos (by decide)] at hp
    rw [hp]
    conv => whnf
    repeat' (first|((refine PickE.map i hb (by omega) ?_);conv=>whnf)|((with_reducible first|refine Split.of_true ?_|refine Split.of_false ?_);conv=>whnf)|(with_reducible refine Split.neg ?_)|((with_reducible refine Split.nez (fun _=>?_) (fun _=>?_))<;>conv=>whnf)|((with_reducible refine Split.dec (fun _=>?_) (fun _=>?_))<;>conv=>whnf)|((with_reducible refine Need.mk ?_ ?_);(first|omega|rfl|decide|(refine ⟨?_,?_⟩<;>simp<;>omega)|(simp;omega));conv=>whnf)|((with_reducible refine Wr.inr ?_ ?_);(first|omega|(simp;omega));conv=>whnf)|((with_reducible refine AltK.l ?_);(conv=>whnf);(first|(refine CallK.mk _ (hN) ?_)|(refine CallK.mk _ (hF) ?_)|(refine CallK.mk _ (w1) ?_)|(refine CallK.mk _ (w2) ?_));conv=>whnf)|(exfalso;first|omega|contradiction)|fail)
    all_goals first
     | rfl
     |(exfalso; omega)
   | false =>
    rw [ho2] at w2 hp
    simp only [Bool.false_eq_true, if_false, ne_eq, not_true_eq_false] at hp
    conv => whnf
    repeat' (first|((refine PickE.map i hb (by omega) ?_);conv=>whnf)|((with_reducible first|refine Split.of_true ?_|refine Split.of_false ?_);conv=>whnf)|(with_reducible refine Split.neg ?_)|((with_reducible refine Split.nez (fun _=>?_) (fun _=>?_))<;>conv=>whnf)|((with_reducible refine Split.dec (fun _=>?_) (fun _=>?_))<;>conv=>whnf)|((with_reducible refine Need.mk ?_ ?_);(first|omega|rfl|decide|(refine ⟨?_,?_⟩<;>simp<;>omega)|(simp;omega));conv=>whnf)|((with_reducible refine Wr.inr ?_ ?_);(first|omega|(simp;omega));conv=>whnf)|((with_reducible refine AltK.l ?_);(conv=>whnf);(first|(refine CallK.mk _ (hN) ?_)|(refine CallK.mk _ (hF) ?_)|(refine CallK.mk _ (w1) ?_)|(refine CallK.mk _ (w2) ?_));conv=>whnf)|(exfalso;first|omega|contradiction)|fail)
    all_goals first
     | exact Again.au (i + 1) ⟨by omega, hp⟩ (by omega) (by refine ⟨?_, ?_, rfl⟩<;>(repeat' (first|exact True.intro|exact rfl|(refine ⟨?_,?_⟩)|(intro h;cases h;done)|fail));done)
     |(exfalso; omega)
 rw [List.drop_eq_nil_of_le (show y.bulk.length ≤ i by omega)] at hp
 have hp : e2 = 0 := hp
 subst hp
 rw [if_neg (by decide)]
 have hbk : ∀ b ∈ y.bulk, 1 ≤ b.den ∧ b.den ≤ 1000 := fun b hb => by
  have := (z2 rfl b hb).1
  unfold bkErr at this
  split at this
  ·cases this
  ·rename_i h; simp [outsideB] at h; omega
 by_cases h5 : y.carry.length = y.bulk.length
 case neg =>
  rw [if_pos h5]
  conv => whnf
  repeat' (first|((with_reducible refine Split.nez (fun _=>?_) (fun _=>?_))<;>conv=>whnf)|((with_reducible refine Split.dec (fun _=>?_) (fun _=>?_))<;>conv=>whnf)|((with_reducible refine Need.mk ?_ ?_);(first|omega|rfl|decide|(refine ⟨?_,?_⟩<;>simp<;>omega)|(simp;omega));conv=>whnf)|(exfalso;first|omega|contradiction)|fail)
  all_goals first
   | rfl
   |(exfalso; omega)
 rw [if_neg (by simpa using h5)]
 have e0 : carGo y.bulk y.carry = carGo (y.bulk.drop 0) (y.carry.drop 0) := rfl
 conv => whnf
 repeat' (first|((with_reducible refine Split.nez (fun _=>?_) (fun _=>?_))<;>conv=>whnf)|((with_reducible refine Split.dec (fun _=>?_) (fun _=>?_))<;>conv=>whnf)|((with_reducible refine Need.mk ?_ ?_);(first|omega|rfl|decide|(refine ⟨?_,?_⟩<;>simp<;>omega)|(simp;omega));conv=>whnf)|(exfalso;first|omega|contradiction)|fail)
 refine LoopK.o2 (fun i : Nat => i ≤ y.carry.length ∧ carGo y.bulk y.carry = carGo (y.bulk.drop i) (y.carry.drop i)) (fun i => [(5, .d (.int .i64 i))]) (fun _ => []) (fun i => y.carry.length - i) 0 ⟨by omega, e0⟩ (by refine ⟨?_, ?_, rfl⟩<;>(repeat' (first|exact True.intro|exact rfl|(refine ⟨?_,?_⟩)|(intro h;cases h;done)|fail));done) ?_
 rintro i ⟨hi, hp⟩
 by_cases hil : i < y.carry.length
 ·obtain ⟨c, hc⟩ := some_of_lt hil
  obtain ⟨b, hb⟩ := some_of_lt (show i < y.bulk.length by omega)
  rw [car_at hb hc] at hp
  have hbb := hbk b (List.mem_of_getElem? hb)
  have w := ev_Within c 0 (b.den - 1)
  cases ho : outsideB c 0 (b.den - 1) with
  | true =>
   rw [ho, if_pos rfl] at hp
   rw [ho] at w
   rw [hp]
   conv => whnf
   repeat' (first|((refine PickE.map i hb (by omega) ?_);conv=>whnf)|((refine PickE.map i hc (by omega) ?_);conv=>whnf)|((with_reducible refine Split.of_true ?_);conv=>whnf)|(with_reducible refine Split.neg ?_)|((with_reducible refine Split.dec (fun _=>?_) (fun _=>?_))<;>conv=>whnf)|((with_reducible refine Need.mk ?_ ?_);(first|omega|rfl|decide|(refine ⟨?_,?_⟩<;>simp<;>omega)|(simp;omega));conv=>whnf)|((with_reducible refine Wr.inr ?_ ?_);(first|omega|(simp;omega));conv=>whnf)|((with_reducible refine AltK.l ?_);(conv=>whnf);(first|(refine CallK.mk _ (w) ?_));conv=>whnf)|(exfalso;first|omega|contradiction)|fail)
   rfl
  | false =>
   rw [ho, if_neg (by decide)] at hp
   rw [ho] at w
   conv => whnf
   repeat' (first|((refine PickE.map i hb (by omega) ?_);conv=>whnf)|((refine PickE.map i hc (by omega) ?_);conv=>whnf)|((with_reducible refine Split.of_false ?_);conv=>whnf)|(with_reducible refine Split.neg ?_)|((with_reducible refine Split.dec (fun _=>?_) (fun _=>?_))<;>conv=>whnf)|((with_reducible refine Need.mk ?_ ?_);(first|omega|rfl|decide|(refine ⟨?_,?_⟩<;>simp<;>omega)|(simp;omega));conv=>whnf)|((with_reducible refine Wr.inr ?_ ?_);(first|omega|(simp;omega));conv=>whnf)|((with_reducible refine AltK.l ?_);(conv=>whnf);(first|(refine CallK.mk _ (w) ?_));conv=>whnf)|(exfalso;first|omega|contradiction)|fail)
   exact Again.au (i + 1) ⟨by omega, hp⟩ (by omega) (by refine ⟨?_, ?_, rfl⟩<;>(repeat' (first|exact True.intro|exact rfl|(refine ⟨?_,?_⟩)|(intro h;cases h;done)|fail));done)
 ·rw [List.drop_eq_nil_of_le (show y.carry.length ≤ i by omega), carGo] at hp
  rw [hp]
  conv => whnf
  repeat' (first|((with_reducible refine Split.dec (fun _=>?_) (fun _=>?_))<;>conv=>whnf)|((with_reducible refine Need.mk ?_ ?_);(first|omega|rfl|decide|(refine ⟨?_,?_⟩<;>simp<;>omega)|(simp;omega));conv=>whnf)|(exfalso;first|omega|contradiction)|fail)
  rfl
end Go.Proofs.Try
end

section
namespace Go.Proofs.Try
open Go Go.Vm
set_option maxRecDepth 20000
set_option maxHeartbeats 4000000
theorem ev_DCheckR (y : Yd) (hs : smallP y) : Ev Try.prog 26 [ydD y] (iD (ydErr y)) := by
 have hlp : (y.pits.map ptD).length = y.pits.length := List.length_map _
 have hld : (y.deps.map dpD).length = y.deps.length := List.length_map _
 rw [yd_split]
 have hB : Ev Try.prog 74 [ydD y] (iD (bErr y)) := ev_bulkingErr y
 by_cases h1 : 8 < y.pits.length
 ·rw [if_pos h1]
  refine ev_of_awp tysOk mixed (fn := Try.f26) Try.func26 rfl rfl rfl ?_
  conv => whnf
  repeat' (first|((with_reducible refine Split.dec (fun _=>?_) (fun _=>?_))<;>conv=>whnf)|(exfalso;first|omega|contradiction)|fail)
  all_goals first
   | rfl
   |(exfalso; omega)
 rw [if_neg h1]
 have z1 := @nmGo_zero _ Pt.name ptErr y.pits []
 have e0 : nmGo Pt.name ptErr [] y.pits = nmGo Pt.name ptErr (y.pits.take 0) (y.pits.drop 0) := rfl
 generalize hE : nmGo Pt.name ptErr [] y.pits = e1 at *
 refine ev_of_awp tysOk mixed (fn := Try.f26) Try.func26 rfl rfl rfl ?_
 conv => whnf
 repeat' (first|((with_reducible refine Split.dec (fun _=>?_) (fun _=>?_))<;>conv=>whnf)|(exfalso;first|omega|contradiction)|fail)
 refine LoopK.o2 (fun i : Nat => i ≤ y.pits.length ∧ e1 = nmGo Pt.name ptErr (y.pits.take i) (y.pits.drop i)) (fun i => [(3, .d (.int .i64 i))]) (fun _ => []) (fun i => y.pits.length - i) 0 ⟨by omega, e0⟩ (by refine ⟨?_, ?_, rfl⟩<;>(repeat' (first|exact True.intro|exact rfl|(refine ⟨?_,?_⟩)|(intro h;cases h;done)|fail));done) ?_
 rintro i ⟨hi, hp⟩
 by_cases hil : i < y.pits.length
 ·obtain ⟨p, hpi⟩ := some_of_lt hil
  rw [nmGo_at hpi] at hp
  have hQ := ev_pitErr p (y.pits.take i) (by rw [List.length_take]; omega) (hs p (List.mem_of_getElem? hpi))
  have hd : ((y.pits.map ptD).take ((i : Int)).toNat).drop (Int.toNat 0) = (y.pits.take i).map ptD := by rw [Int.toNat_natCast, Int.toNat_zero, List.drop_zero, List.map_take]
  rw [← hd] at hQ
  by_cases hz : (if nameB p.name = false then 4 else if metB Pt.name (y.pits.take i) p.name = true then 5 else ptErr p) = 0
  ·rw [hz] at hQ
   have hp : e1 = nmGo Pt.name ptErr (y.pits.take (i + 1)) (y.pits.drop (i + 1)) := by
    rw [hp]
    split at hz
    ·cases hz
    rename_i g1
    rw [if_neg g1]
    split at hz
    ·cases hz
    rename_i g2
    rw [if_neg g2, if_neg (by simpa using hz)]
   conv => whnf
   repeat' (first|((refine PickE.map i hpi (by omega) ?_);conv=>whnf)|((with_reducible refine Split.is_false ?_ ?_);decide;conv=>whnf)|((with_reducible refine Split.dec (fun _=>?_) (fun _=>?_))<;>conv=>whnf)|((with_reducible refine Need.mk ?_ ?_);(first|omega|rfl|decide|(refine ⟨?_,?_⟩<;>simp<;>omega)|(simp;omega));conv=>whnf)|((with_reducible refine Wr.inr ?_ ?_);(first|omega|(simp;omega));conv=>whnf)|((with_reducible refine AltK.l ?_);(conv=>whnf);(first|(refine CallK.mk _ (hQ) ?_));conv=>whnf)|(exfalso;first|omega|contradiction)|fail)
   exact Again.au (i + 1) ⟨by omega, hp⟩ (by omega) (by refine ⟨?_, ?_, rfl⟩<;>(repeat' (first|exact True.intro|exact rfl|(refine ⟨?_,?_⟩)|(intro h;cases h;done)|fail));done)
  ·have hp : e1 = (if nameB p.name = false then 4 else if metB Pt.name (y.pits.take i) p.name = true then 5 else ptErr p) := by
    rw [hp]
    by_cases g1 : nameB p.name = false
    ·rw [if_pos g1, if_pos g1]
    rw [if_neg g1, if_neg g1]
    by_cases g2 : metB Pt.name (y.pits.take i) p.name = true
    ·rw [if_pos g2, if_pos g2]
    rw [if_neg g2, if_neg g2] at *
    rw [if_neg g1] at hz
    rw [if_pos hz]
   rw [← hp] at hQ hz
   rw [if_pos hz]
   conv => whnf
   repeat' (first|((refine PickE.map i hpi (by omega) ?_);conv=>whnf)|((with_reducible refine Split.nez (fun _=>?_) (fun _=>?_))<;>conv=>whnf)|((with_reducible refine Split.dec (fun _=>?_) (fun _=>?_))<;>conv=>whnf)|((with_reducible refine Need.mk ?_ ?_);(first|omega|rfl|decide|(refine ⟨?_,?_⟩<;>simp<;>omega)|(simp;omega));conv=>whnf)|((with_reducible refine Wr.inr ?_ ?_);(first|omega|(simp;omega));conv=>whnf)|((with_reducible refine AltK.l ?_);(conv=>whnf);(first|(refine CallK.mk _ (hQ) ?_));conv=>whnf)|(exfalso;first|omega|contradiction)|fail)
   rfl
 rw [List.drop_eq_nil_of_le (show y.pits.length ≤ i by omega)] at hp
 have hp : e1 = 0 := hp
 subst hp
 rw [if_neg (by decide)]
 have hP : ∀ p ∈ y.pits, PtOk p := fun p hp => pt_ok (z1 rfl p hp).1
 generalize bErr y = eb at *
 by_cases hz : eb = 0
 case neg =>
  rw [if_pos hz]
  conv => whnf
  repeat' (first|((with_reducible refine Split.nez (fun _=>?_) (fun _=>?_))<;>conv=>whnf)|((with_reducible refine Split.dec (fun _=>?_) (fun _=>?_))<;>conv=>whnf)|((with_reducible refine Need.mk ?_ ?_);(first|omega|rfl|decide|(refine ⟨?_,?_⟩<;>simp<;>omega)|(simp;omega));conv=>whnf)|((with_reducible refine AltK.l ?_);(conv=>whnf);(first|(refine CallK.mk _ (hB) ?_));conv=>whnf)|(exfalso;first|omega|contradiction)|fail)
  rfl
 subst hz
 rw [if_neg (by decide)]
 unfold dpsErr
 by_cases h0 : 200 < y.deps.length
 ·rw [if_pos h0]
  conv => whnf
  repeat' (first|((with_reducible refine Split.is_false ?_ ?_);decide;conv=>whnf)|((with_reducible refine Split.dec (fun _=>?_) (fun _=>?_))<;>conv=>whnf)|((with_reducible refine Need.mk ?_ ?_);(first|omega|rfl|decide|(refine ⟨?_,?_⟩<;>simp<;>omega)|(simp;omega));conv=>whnf)|((with_reducible refine AltK.l ?_);(conv=>whnf);(first|(refine CallK.mk _ (hB) ?_));conv=>whnf)|(exfalso;first|omega|contradiction)|fail)
  all_goals first
   | rfl
   |(exfalso; omega)
 rw [if_neg h0]
 have e0 : dpGo y [] y.deps = dpGo y (y.deps.take 0) (y.deps.drop 0) := rfl
 conv => whnf
 repeat' (first|((with_reducible refine Split.is_false ?_ ?_);decide;conv=>whnf)|((with_reducible refine Split.dec (fun _=>?_) (fun _=>?_))<;>conv=>whnf)|((with_reducible refine Need.mk ?_ ?_);(first|omega|rfl|decide|(refine ⟨?_,?_⟩<;>simp<;>omega)|(simp;omega));conv=>whnf)|((with_reducible refine AltK.l ?_);(conv=>whnf);(first|(refine CallK.mk _ (hB) ?_));conv=>whnf)|(exfalso;first|omega|contradiction)|fail)
 refine LoopK.o2 (fun i : Nat => i ≤ y.deps.length ∧ dpGo y [] y.deps = dpGo y (y.deps.take i) (y.deps.drop i)) (fun i => [(6, .d (.int .i64 i))]) (fun _ => []) (fun i => y.deps.length - i) 0 ⟨by omega, e0⟩ (by refine ⟨?_, ?_, rfl⟩<;>(repeat' (first|exact True.intro|exact rfl|(refine ⟨?_,?_⟩)|(intro h;cases h;done)|fail));done) ?_
 rintro i ⟨hi, hp⟩
 by_cases hil : i < y.deps.length
 ·obtain ⟨d, hd⟩ := some_of_lt hil
  rw [dpGo_at hd] at hp
  have w1 := ev_Within d.batch 1 1000000
  have w2 := ev_Within d.vol 0 100000000000000
  have w3 : Ev Try.prog 39 [.sl 6 (y.pits.map ptD), .str d.pit] (iD (pitI y d.pit)) := ev_Find9 y.pits d.pit (by omega)
  have w4 := ev_Deposited (y.deps.take i) d.batch (by rw [List.length_take]; omega)
  have hdd : ((y.deps.map dpD).take ((i : Int)).toNat).drop (Int.toNat 0) = (y.deps.take i).map dpD := by rw [Int.toNat_natCast, Int.toNat_zero, List.drop_zero, List.map_take]
  rw [← hdd] at w4
  generalize (y.deps.take i).any (fun x => x.batch == d.batch) = sn at *
  generalize outsideB d.batch 1 1000000 = b1 at *
  generalize outsideB d.vol 0 100000000000000 = b2 at *
  cases b1 with
  | true =>
   rw [if_pos rfl] at hp
   conv => whnf
   repeat' (first|((refine PickE.map i hd (by omega) ?_);conv=>whnf)|((with_reducible refine Split.of_true ?_);conv=>whnf)|(with_reducible refine Split.neg ?_)|((with_reducible refine Split.dec (fun _=>?_) (fun _=>?_))<;>conv=>whnf)|((with_reducible refine Need.mk ?_ ?_);(first|omega|rfl|decide|(refine ⟨?_,?_⟩<;>simp<;>omega)|(simp;omega));conv=>whnf)|((with_reducible refine AltK.l ?_);(conv=>whnf);(first|(refine CallK.mk _ (w1) ?_)|(refine CallK.mk _ (w2) ?_)|(refine CallK.mk _ (w3) ?_)|(refine CallK.mk _ (w4) ?_));conv=>whnf)|(exfalso;first|omega|contradiction)|fail)
   rw [hp]; rfl
  | false =>
  rw [if_neg (by decide)] at hp
  cases sn with
  | true =>
   rw [if_pos rfl] at hp
   conv => whnf
   repeat' (first|((refine PickE.map i hd (by omega) ?_);conv=>whnf)|((with_reducible first|refine Split.of_true ?_|refine Split.of_false ?_);conv=>whnf)|(with_reducible refine Split.neg ?_)|((with_reducible refine Split.dec (fun _=>?_) (fun _=>?_))<;>conv=>whnf)|((with_reducible refine Need.mk ?_ ?_);(first|omega|rfl|decide|(refine ⟨?_,?_⟩<;>simp<;>omega)|(simp;omega));conv=>whnf)|((with_reducible refine AltK.l ?_);(conv=>whnf);(first|(refine CallK.mk _ (w1) ?_)|(refine CallK.mk _ (w2) ?_)|(refine CallK.mk _ (w3) ?_)|(refine CallK.mk _ (w4) ?_));conv=>whnf)|(exfalso;first|omega|contradiction)|fail)
   rw [hp]; rfl
  | false =>
  rw [if_neg (by decide)] at hp
  by_cases hpt : pitI y d.pit < 0
  ·rw [if_pos hpt] at hp
   conv => whnf
   repeat' (first|((refine PickE.map i hd (by omega) ?_);conv=>whnf)|((with_reducible refine Split.of_false ?_);conv=>whnf)|(with_reducible refine Split.neg ?_)|((with_reducible refine Split.dec (fun _=>?_) (fun _=>?_))<;>conv=>whnf)|((with_reducible refine Split.mk (fun _=>?_) (fun _=>?_))<;>conv=>whnf)|((with_reducible refine Need.mk ?_ ?_);(first|omega|rfl|decide|(refine ⟨?_,?_⟩<;>simp<;>omega)|(simp;omega));conv=>whnf)|((with_reducible refine Wr.inr ?_ ?_);(first|omega|(simp;omega));conv=>whnf)|((with_reducible refine AltK.l ?_);(conv=>whnf);(first|(refine CallK.mk _ (w1) ?_)|(refine CallK.mk _ (w2) ?_)|(refine CallK.mk _ (w3) ?_)|(refine CallK.mk _ (w4) ?_));conv=>whnf)|(exfalso;first|omega|contradiction)|fail)
   all_goals first
    |(rw [hp]; rfl)
    |(exfalso; omega)
  ·rw [if_neg hpt] at hp
   cases b2 with
   | true =>
    rw [if_pos rfl] at hp
    conv => whnf
    repeat' (first|((refine PickE.map i hd (by omega) ?_);conv=>whnf)|((with_reducible first|refine Split.of_true ?_|refine Split.of_false ?_);conv=>whnf)|(with_reducible refine Split.neg ?_)|((with_reducible refine Split.dec (fun _=>?_) (fun _=>?_))<;>conv=>whnf)|((with_reducible refine Need.mk ?_ ?_);(first|omega|rfl|decide|(refine ⟨?_,?_⟩<;>simp<;>omega)|(simp;omega));conv=>whnf)|((with_reducible refine AltK.l ?_);(conv=>whnf);(first|(refine CallK.mk _ (w1) ?_)|(refine CallK.mk _ (w2) ?_)|(refine CallK.mk _ (w3) ?_)|(refine CallK.mk _ (w4) ?_));conv=>whnf)|(exfalso;first|omega|contradiction)|fail)
    all_goals first
     |(rw [hp]; rfl)
     |(exfalso; omega)
   | false =>
    rw [if_neg (by decide)] at hp
    conv => whnf
    repeat' (first|((refine PickE.map i hd (by omega) ?_);conv=>whnf)|((with_reducible refine Split.of_false ?_);conv=>whnf)|(with_reducible refine Split.neg ?_)|((with_reducible refine Split.dec (fun _=>?_) (fun _=>?_))<;>conv=>whnf)|((with_reducible refine Need.mk ?_ ?_);(first|omega|rfl|decide|(refine ⟨?_,?_⟩<;>simp<;>omega)|(simp;omega));conv=>whnf)|((with_reducible refine Wr.inr ?_ ?_);(first|omega|(simp;omega));conv=>whnf)|((with_reducible refine AltK.l ?_);(conv=>whnf);(first|(refine CallK.mk _ (w1) ?_)|(refine CallK.mk _ (w2) ?_)|(refine CallK.mk _ (w3) ?_)|(refine CallK.mk _ (w4) ?_));conv=>whnf)|(exfalso;first|omega|contradiction)|fail)
    all_goals first
     | exact Again.au (i + 1) ⟨by omega, hp⟩ (by omega) (by refine ⟨?_, ?_, rfl⟩<;>(repeat' (first|exact True.intro|exact rfl|(refine ⟨?_,?_⟩)|(intro h;cases h;done)|fail));done)
     |(exfalso; omega)
 ·rw [List.drop_eq_nil_of_le (show y.deps.length ≤ i by omega)] at hp
  have hp : dpGo y [] y.deps = 0 := hp
  have hv := dpGo_vol hp
  rw [hp, if_neg (by decide)]
  conv => whnf
  repeat' (first|((with_reducible refine Split.dec (fun _=>?_) (fun _=>?_))<;>conv=>whnf)|((with_reducible refine Need.mk ?_ ?_);(first|omega|rfl|decide|(refine ⟨?_,?_⟩<;>simp<;>omega)|(simp;omega));conv=>whnf)|(exfalso;first|omega|contradiction)|fail)
  refine LoopK.o2 (fun k : Nat => k ≤ y.pits.length ∧ (y.pits.take k).any (fun p => decide (roomS y p < 0)) = false) (fun k => [(8, .d (.int .i64 k))]) (fun _ => []) (fun k => y.pits.length - k) 0 ⟨by omega, rfl⟩ (by refine ⟨?_, ?_, rfl⟩<;>(repeat' (first|exact True.intro|exact rfl|(refine ⟨?_,?_⟩)|(intro h;cases h;done)|fail));done) ?_
  rintro k ⟨hk, hq⟩
  by_cases hkl : k < y.pits.length
  ·obtain ⟨p, hpk⟩ := some_of_lt hkl
   have hR := ev_Taken9 y hpk hv (by omega)
   have hC := ev_Capacity9 (hP p (List.mem_of_getElem? hpk))
   have hy := @any_yes _ (fun p => decide (roomS y p < 0)) y.pits k p hpk
   have hno := @any_no _ (fun p => decide (roomS y p < 0)) y.pits k p hpk hq
   have er : roomS y p = capS p - takS p.name y.deps := rfl
   rw [er] at hy hno
   generalize takS p.name y.deps = tk at *
   generalize capS p = cp at *
   conv => whnf
   repeat' (first|((refine PickE.map k hpk (by omega) ?_);conv=>whnf)|((with_reducible refine Split.dec (fun _=>?_) (fun _=>?_))<;>conv=>whnf)|((with_reducible refine Need.mk ?_ ?_);(first|omega|rfl|decide|(refine ⟨?_,?_⟩<;>simp<;>omega)|(simp;omega));conv=>whnf)|((with_reducible refine Wr.inr ?_ ?_);(first|omega|(simp;omega));conv=>whnf)|((with_reducible refine AltK.l ?_);(conv=>whnf);(first|(refine CallK.mk _ (hR) ?_)|(refine CallK.mk _ (hC) ?_));conv=>whnf)|(exfalso;first|omega|contradiction)|fail)
   ·rw [hy (by simp; omega), if_pos rfl]; rfl
   ·exact Again.au (k + 1) ⟨by omega, hno (by simp;omega)⟩ (by omega) (by refine ⟨?_, ?_, rfl⟩<;>(repeat' (first|exact True.intro|exact rfl|(refine ⟨?_,?_⟩)|(intro h;cases h;done)|fail));done)
  ·rw [List.take_of_length_le (by omega)] at hq
   rw [hq]
   conv => whnf
   repeat' (first|((with_reducible refine Split.dec (fun _=>?_) (fun _=>?_))<;>conv=>whnf)|(exfalso;first|omega|contradiction)|fail)
   rfl
end Go.Proofs.Try
end

section
namespace Go.Proofs.Try
open Go Go.Vm
set_option maxRecDepth 20000
set_option maxHeartbeats 4000000
theorem ev_DBulkedNo {y : Yd} {b : Bt} (hs : smallP y) (h0 : withErr y b ≠ 0) : Ev Try.prog 13 [ydD y, btD b] (.tup [iD 0, iD 0, iD (withErr y b)]) := by
 have h1 := ev_CheckBatch y b hs
 refine ev_of_awp tysOk mixed (fn := Try.f13) Try.func13 rfl rfl rfl ?_
 conv => whnf
 repeat' (first|((with_reducible refine Split.nez (fun _=>?_) (fun _=>?_))<;>conv=>whnf)|((with_reducible refine AltK.l ?_);(conv=>whnf);(first|(refine CallK.mk _ (h1) ?_));conv=>whnf)|(exfalso;first|omega|contradiction)|fail)
 rfl
end Go.Proofs.Try
end

section
namespace Go.Proofs.Try
open Go Go.Vm
set_option maxRecDepth 20000
set_option maxHeartbeats 8000000
theorem ev_CopyInts9 (l : List Int) (hn : l.length ≤ 1000000) : Ev Try.prog 56 [.sl 1 (l.map iD)] (.sl 1 (l.map iD)) := by
 have hl : (l.map iD).length = l.length := List.length_map _
 refine ev_of_awp tysOk mixed (fn := Try.f56) Try.func56 rfl rfl rfl ?_
 conv => whnf
 repeat' (first|((with_reducible refine Need.mk ?_ ?_);(first|omega|rfl|decide|(refine ⟨?_,?_⟩<;>simp<;>omega)|(simp;omega));conv=>whnf)|fail)
 rfl
theorem ev_Copied (y : Yd) (h1 : y.pits.length ≤ 1000) (h2 : y.bulk.length ≤ 1000) (h3 : y.deps.length ≤ 1000) (h4 : y.carry.length ≤ 1000) (hcl : ∀ p ∈ y.pits, p.cls.length ≤ 100000) : Ev Try.prog 14 [ydD y] (ydD y) := by
 have hlp : (y.pits.map ptD).length = y.pits.length := List.length_map _
 have hlb : (y.bulk.map bkD).length = y.bulk.length := List.length_map _
 have hld : (y.deps.map dpD).length = y.deps.length := List.length_map _
 have hlc : (y.carry.map iD).length = y.carry.length := List.length_map _
 have hC := ev_CopyInts9 y.carry (by omega)
 refine ev_of_awp tysOk mixed (fn := Try.f14) Try.func14 rfl rfl rfl ?_
 conv => whnf
 repeat' (first|((with_reducible refine Need.mk ?_ ?_);(first|omega|rfl|decide|(refine ⟨?_,?_⟩<;>simp<;>omega)|(simp;omega));conv=>whnf)|fail)
 refine LoopK.o2 (fun i : Nat => i ≤ y.pits.length) (fun i => [(4, .d (.int .i64 i))]) (fun i => [(1, .var [.own 200 6 ((y.pits.take i).map ptD).length, .d (.sl 3 (y.bulk.map bkD)), .d (.sl 3 (y.deps.map dpD)), .d (.sl 1 (y.carry.map iD))] false), (200, .row 60 6 ((y.pits.take i).map ptD) false)]) (fun i => y.pits.length - i) 0 (by omega) (by refine ⟨?_, ?_, rfl⟩<;>(repeat' (first|exact True.intro|exact rfl|(refine ⟨?_,?_⟩)|(intro h;cases h;done)|fail));done) ?_
 rintro i hi
 have htl : ((y.pits.take i).map ptD).length = i := by simp; omega
 by_cases hil : i < y.pits.length
 ·obtain ⟨p, hp⟩ := some_of_lt hil
  have hc := ev_CopyInts9 p.cls (Nat.le_trans (hcl p (List.mem_of_getElem? hp)) (by decide))
  have hmp1 : (y.pits.take i).map ptD ++ ptD p :: List.replicate 0 (ptD p) = (y.pits.take (i + 1)).map ptD := by rw [take_snoc hp]; simp
  have hmp2 : (y.pits.take i).map ptD ++ [ptD p] = (y.pits.take (i + 1)).map ptD := by rw [take_snoc hp]; simp
  conv => whnf
  repeat' (first|((refine PickE.map i hp (by omega) ?_);conv=>whnf)|((with_reducible refine Split.dec (fun _=>?_) (fun _=>?_))<;>conv=>whnf)|((with_reducible refine Need.mk ?_ ?_);(first|omega|rfl|decide|(refine ⟨?_,?_⟩<;>simp<;>omega)|(simp;omega));conv=>whnf)|((with_reducible refine Wr.inr ?_ ?_);(first|omega|(simp;omega));conv=>whnf)|((with_reducible refine AltK.l ?_);(conv=>whnf);(first|(refine CallK.mk _ (hc) ?_));conv=>whnf)|(exfalso;first|omega|contradiction)|fail)
  exact Again.au (i + 1) (by omega) (by omega) (by refine ⟨?_, ?_, rfl⟩<;>(repeat' (first|exact True.intro|exact rfl|(refine ⟨?_,?_⟩)|(intro h;cases h;done)|exact hmp1|((first|refine own_congr ?_|refine int_congr ?_);simp [List.length_map];omega)|fail));done)
 ·have e : y.pits.take i = y.pits := List.take_of_length_le (by omega)
  rw [e] at htl ⊢
  conv => whnf
  repeat' (first|((with_reducible refine Split.dec (fun _=>?_) (fun _=>?_))<;>conv=>whnf)|((with_reducible refine Need.mk ?_ ?_);(first|omega|rfl|decide|(refine ⟨?_,?_⟩<;>simp<;>omega)|(simp;omega));conv=>whnf)|((with_reducible refine AltK.l ?_);(conv=>whnf);(first|(refine CallK.mk _ (hC) ?_));conv=>whnf)|(exfalso;first|omega|contradiction)|fail)
  rfl
def smallA (y : Yd) : Bool := !((decide (y.pits.length > 4) && decide (y.pits.length ≤ 8)) || decide (y.pits.length > 12) || (decide (y.bulk.length > 4) && decide (y.bulk.length ≤ 20)) || decide (y.bulk.length > 25) || decide (y.carry.length > 30) || (decide (y.deps.length > 8) && decide (y.deps.length ≤ 200)) || decide (y.deps.length > 205))
def smallB (y : Yd) : Bool := smallA y && y.pits.all (fun p => decide (p.name.size ≤ 40) && decide (p.cls.length ≤ 12)) && y.bulk.all (fun b => decide (b.soil.size ≤ 40)) && y.deps.all (fun d => decide (d.pit.size ≤ 40))
structure SmOk (y : Yd) : Prop where
 p : y.pits.length ≤ 4 ∨ (8 < y.pits.length ∧ y.pits.length ≤ 12)
 b : y.bulk.length ≤ 4 ∨ (20 < y.bulk.length ∧ y.bulk.length ≤ 25)
 c : y.carry.length ≤ 30
 d : y.deps.length ≤ 8 ∨ (200 < y.deps.length ∧ y.deps.length ≤ 205)
theorem sm_ok {y : Yd} (h : smallA y = true) : SmOk y := by
 simp only [smallA, Bool.not_eq_true', Bool.or_eq_false_iff, Bool.and_eq_false_iff, decide_eq_false_iff_not] at h
 exact ⟨by omega, by omega, by omega, by omega⟩
theorem sm_no {y : Yd} (h : smallA y = false) : ¬ SmOk y := by
 intro ⟨h1, h2, h3, h4⟩
 have : smallA y = true := by
  simp only [smallA, Bool.not_eq_true', Bool.or_eq_false_iff, Bool.and_eq_false_iff, decide_eq_false_iff_not]
  omega
 rw [h] at this; cases this
theorem all_snoc9 {α : Type} {l : List α} {p : α → Bool} {i : Nat} {m : α} (hm : l[i]? = some m) (h : (l.take i).all p = true) (hp : p m = true) : (l.take (i + 1)).all p = true := by
 rw [take_snoc hm, List.all_append, h]; simp [hp]
theorem all_not9 {α : Type} {l : List α} {p : α → Bool} {i : Nat} {m : α} (hm : l[i]? = some m) (hp : p m = false) : l.all p = false := by
 rw [List.all_eq_false]; exact ⟨m, List.mem_of_getElem? hm, by simp [hp]⟩
theorem ev_Small (y : Yd) : Ev Try.prog 12 [ydD y] (.bool (smallB y)) := by
 have hlp : (y.pits.map ptD).length = y.pits.length := List.length_map _
 have hlb : (y.bulk.map bkD).length = y.bulk.length := List.length_map _
 have hld : (y.deps.map dpD).length = y.deps.length := List.length_map _
 have hlc : (y.carry.map iD).length = y.carry.length := List.length_map _
 cases hA : smallA y with
 | false =>
  have hno := sm_no hA
  have e : smallB y = false := by rw [smallB, hA]; rfl
  have hx : ¬ ((y.pits.length ≤ 4 ∨ (8 < y.pits.length ∧ y.pits.length ≤ 12)) ∧ (y.bulk.length ≤ 4 ∨ (20 < y.bulk.length ∧ y.bulk.length ≤ 25)) ∧ y.carry.length ≤ 30 ∧ (y.deps.length ≤ 8 ∨ (200 < y.deps.length ∧ y.deps.length ≤ 205))) := fun h => hno ⟨h.1, h.2.1, h.2.2.1, h.2.2.2⟩
  rw [e]
  refine ev_of_awp tysOk mixed (fn := Try.f12) Try.func12 rfl rfl rfl ?_
  conv => whnf
  repeat' (first|((with_reducible first|refine Split.of_true ?_|refine Split.of_false ?_);conv=>whnf)|((with_reducible refine Split.dec (fun _=>?_) (fun _=>?_))<;>conv=>whnf)|(exfalso;first|omega|contradiction)|fail)
  all_goals first
   | rfl
   |(exfalso; omega)
 | true =>
 obtain ⟨q1, q2, q3, q4⟩ := sm_ok hA
 have e : smallB y = (y.pits.all (fun p => decide (p.name.size ≤ 40) && decide (p.cls.length ≤ 12)) && y.bulk.all (fun b => decide (b.soil.size ≤ 40)) && y.deps.all (fun d => decide (d.pit.size ≤ 40))) := by rw [smallB, hA, Bool.true_and]
 rw [e]
 clear e hA
 refine ev_of_awp tysOk mixed (fn := Try.f12) Try.func12 rfl rfl rfl ?_
 conv => whnf
 repeat' (first|((with_reducible first|refine Split.of_true ?_|refine Split.of_false ?_);conv=>whnf)|((with_reducible refine Split.dec (fun _=>?_) (fun _=>?_))<;>conv=>whnf)|(exfalso;first|omega|contradiction)|fail)
 all_goals first
  |(exfalso; omega)
  | skip
 all_goals
  refine LoopK.o2 (fun i : Nat => i ≤ y.pits.length ∧ (y.pits.take i).all (fun p => decide (p.name.size ≤ 40) && decide (p.cls.length ≤ 12)) = true) (fun i => [(3, .d (.int .i64 i))]) (fun _ => []) (fun i => y.pits.length - i) 0 ⟨by omega, rfl⟩ (by refine ⟨?_, ?_, rfl⟩<;>(repeat' (first|exact True.intro|exact rfl|(refine ⟨?_,?_⟩)|(intro h;cases h;done)|fail));done) ?_
  rintro i ⟨hi, hp⟩
  by_cases hil : i < y.pits.length
  ·obtain ⟨p, hpi⟩ := some_of_lt hil
   have hcl : (p.cls.map iD).length = p.cls.length := List.length_map _
   have hn := @all_not9 _ y.pits (fun p => decide (p.name.size ≤ 40) && decide (p.cls.length ≤ 12)) i p hpi
   have hy := @all_snoc9 _ y.pits (fun p => decide (p.name.size ≤ 40) && decide (p.cls.length ≤ 12)) i p hpi hp
   clear hp
   conv => whnf
   repeat' (first|((refine PickE.map i hpi (by omega) ?_);conv=>whnf)|((with_reducible refine Split.of_true ?_);conv=>whnf)|((with_reducible refine Split.dec (fun _=>?_) (fun _=>?_))<;>conv=>whnf)|((with_reducible refine Need.mk ?_ ?_);(first|omega|rfl|decide|(refine ⟨?_,?_⟩<;>simp<;>omega)|(simp;omega));conv=>whnf)|((with_reducible refine Wr.inr ?_ ?_);(first|omega|(simp;omega));conv=>whnf)|(exfalso;first|omega|contradiction)|fail)
   all_goals first
    | exact Again.au (i + 1) ⟨by omega, hy (by simp;omega)⟩ (by omega) (by refine ⟨?_, ?_, rfl⟩<;>(repeat' (first|exact True.intro|exact rfl|(refine ⟨?_,?_⟩)|(intro h;cases h;done)|fail));done)
    |(rw [hn (by simp; omega)]; rfl)
  rw [List.take_of_length_le (by omega)] at hp
  rw [hp, Bool.true_and]
  clear hp
  conv => whnf
  repeat' (first|((with_reducible refine Split.dec (fun _=>?_) (fun _=>?_))<;>conv=>whnf)|((with_reducible refine Need.mk ?_ ?_);(first|omega|rfl|decide|(refine ⟨?_,?_⟩<;>simp<;>omega)|(simp;omega));conv=>whnf)|(exfalso;first|omega|contradiction)|fail)
  refine LoopK.o2 (fun i : Nat => i ≤ y.bulk.length ∧ (y.bulk.take i).all (fun b => decide (b.soil.size ≤ 40)) = true) (fun i => [(4, .d (.int .i64 i))]) (fun _ => []) (fun i => y.bulk.length - i) 0 ⟨by omega, rfl⟩ (by refine ⟨?_, ?_, rfl⟩<;>(repeat' (first|exact True.intro|exact rfl|(refine ⟨?_,?_⟩)|(intro h;cases h;done)|fail));done) ?_
  rintro i ⟨hi, hp⟩
  by_cases hil : i < y.bulk.length
  ·obtain ⟨p, hpi⟩ := some_of_lt hil
   have hn := @all_not9 _ y.bulk (fun b => decide (b.soil.size ≤ 40)) i p hpi
   have hy := @all_snoc9 _ y.bulk (fun b => decide (b.soil.size ≤ 40)) i p hpi hp
   clear hp
   conv => whnf
   repeat' (first|((refine PickE.map i hpi (by omega) ?_);conv=>whnf)|((with_reducible refine Split.dec (fun _=>?_) (fun _=>?_))<;>conv=>whnf)|((with_reducible refine Need.mk ?_ ?_);(first|omega|rfl|decide|(refine ⟨?_,?_⟩<;>simp<;>omega)|(simp;omega));conv=>whnf)|((with_reducible refine Wr.inr ?_ ?_);(first|omega|(simp;omega));conv=>whnf)|(exfalso;first|omega|contradiction)|fail)
   all_goals first
    | exact Again.au (i + 1) ⟨by omega, hy (by simp;omega)⟩ (by omega) (by refine ⟨?_, ?_, rfl⟩<;>(repeat' (first|exact True.intro|exact rfl|(refine ⟨?_,?_⟩)|(intro h;cases h;done)|fail));done)
    |(rw [hn (by simp; omega)]; rfl)
  rw [List.take_of_length_le (by omega)] at hp
  rw [hp, Bool.true_and]
  clear hp
  conv => whnf
  repeat' (first|((with_reducible refine Split.dec (fun _=>?_) (fun _=>?_))<;>conv=>whnf)|((with_reducible refine Need.mk ?_ ?_);(first|omega|rfl|decide|(refine ⟨?_,?_⟩<;>simp<;>omega)|(simp;omega));conv=>whnf)|(exfalso;first|omega|contradiction)|fail)
  refine LoopK.o2 (fun i : Nat => i ≤ y.deps.length ∧ (y.deps.take i).all (fun b => decide (b.pit.size ≤ 40)) = true) (fun i => [(5, .d (.int .i64 i))]) (fun _ => []) (fun i => y.deps.length - i) 0 ⟨by omega, rfl⟩ (by refine ⟨?_, ?_, rfl⟩<;>(repeat' (first|exact True.intro|exact rfl|(refine ⟨?_,?_⟩)|(intro h;cases h;done)|fail));done) ?_
  rintro i ⟨hi, hp⟩
  by_cases hil : i < y.deps.length
  ·obtain ⟨p, hpi⟩ := some_of_lt hil
   have hn := @all_not9 _ y.deps (fun b => decide (b.pit.size ≤ 40)) i p hpi
   have hy := @all_snoc9 _ y.deps (fun b => decide (b.pit.size ≤ 40)) i p hpi hp
   clear hp
   conv => whnf
   repeat' (first|((refine PickE.map i hpi (by omega) ?_);conv=>whnf)|((with_reducible refine Split.dec (fun _=>?_) (fun _=>?_))<;>conv=>whnf)|((with_reducible refine Need.mk ?_ ?_);(first|omega|rfl|decide|(refine ⟨?_,?_⟩<;>simp<;>omega)|(simp;omega));conv=>whnf)|((with_reducible refine Wr.inr ?_ ?_);(first|omega|(simp;omega));conv=>whnf)|(exfalso;first|omega|contradiction)|fail)
   all_goals first
    | exact Again.au (i + 1) ⟨by omega, hy (by simp;omega)⟩ (by omega) (by refine ⟨?_, ?_, rfl⟩<;>(repeat' (first|exact True.intro|exact rfl|(refine ⟨?_,?_⟩)|(intro h;cases h;done)|fail));done)
    |(rw [hn (by simp; omega)]; rfl)
  rw [List.take_of_length_le (by omega)] at hp
  rw [hp]
  conv => whnf
  repeat' (first|((with_reducible refine Split.dec (fun _=>?_) (fun _=>?_))<;>conv=>whnf)|((with_reducible refine Need.mk ?_ ?_);(first|omega|rfl|decide|(refine ⟨?_,?_⟩<;>simp<;>omega)|(simp;omega));conv=>whnf)|(exfalso;first|omega|contradiction)|fail)
  rfl
end Go.Proofs.Try
end

section
namespace Go.Proofs.Try
open Go Go.Vm
set_option maxRecDepth 20000
set_option maxHeartbeats 8000000
structure SmB (y : Yd) : Prop where
 p : y.pits.length ≤ 12
 b : y.bulk.length ≤ 25
 c : y.carry.length ≤ 30
 d : y.deps.length ≤ 205
 cl : ∀ x ∈ y.pits, x.cls.length ≤ 12
theorem smB {y : Yd} (h : smallB y = true) : SmB y := by
 simp only [smallB, Bool.and_eq_true, List.all_eq_true, decide_eq_true_eq] at h
 obtain ⟨⟨⟨h1, h2⟩, -⟩, -⟩ := h
 obtain ⟨q1, q2, q3, q4⟩ := sm_ok h1
 exact ⟨by omega, by omega, by omega, by omega, fun x hx => (h2 x hx).2⟩
theorem SmB.copied {y : Yd} (h : SmB y) : Ev Try.prog 14 [ydD y] (ydD y) :=
 ev_Copied y (by have := h.p; omega) (by have := h.b; omega) (by have := h.d; omega) (by have := h.c; omega) (fun p hp => Nat.le_trans (h.cl p hp) (by decide))
theorem SmB.sp {y : Yd} (h : SmB y) : smallP y := fun p hp => Nat.le_trans (h.cl p hp) (by decide)
theorem ev_Taken1 (y : Yd) (p : Pt) (hv : volOk y.deps) (hn : y.deps.length ≤ 300) : Ev Try.prog 79 [ptD p, .ref (ydD y).cells 0] (iD (takS p.name y.deps)) := by
 have h := ev_taken y p.name hv hn
 refine ev_of_awp tysOk mixed (fn := Try.f79) Try.func79 rfl rfl rfl ?_
 conv => whnf
 repeat' (first|((with_reducible refine Need.mk ?_ ?_);(first|omega|rfl|decide|(refine ⟨?_,?_⟩<;>simp<;>omega)|(simp;omega));conv=>whnf)|((with_reducible refine AltK.l ?_);(conv=>whnf);(first|(refine CallK.mk _ (h) ?_));conv=>whnf)|fail)
 rfl
end Go.Proofs.Try
end

section
namespace Go.Proofs.Try
open Go Go.Vm
set_option maxRecDepth 20000
set_option maxHeartbeats 8000000
theorem ev_ofOk {y : Yd} {s : ByteArray} (F : Nat) (caps : List D) (hs : smallP y) {k : Nat} {p : Pt} {v : Int} (h0 : ydErr y = 0) (hk : pitI y s = k) (hp : y.pits[k]? = some p) (hF : Ev Try.prog F ([ptD p] ++ caps) (iD v)) : Ev Try.prog 78 [ydD y, .str s, .fn F caps] (.tup [iD v, iD 0]) := by
 have h1 := ev_DCheck y hs
 have hY := yd_ok h0
 have hp8 := hY.pits
 have h2 := ev_pitOf y s (by omega)
 rw [h0] at h1
 rw [hk] at h2
 refine ev_of_awp tysOk mixed (fn := Try.f78) Try.func78 rfl rfl rfl ?_
 conv => whnf
 repeat' (first|((refine PickE.map k hp (by omega) ?_);conv=>whnf)|((with_reducible refine Split.is_false ?_ ?_);decide;conv=>whnf)|((with_reducible refine Split.dec (fun _=>?_) (fun _=>?_))<;>conv=>whnf)|((with_reducible refine Need.mk ?_ ?_);(first|omega|rfl|decide|(refine ⟨?_,?_⟩<;>simp<;>omega)|(simp;omega));conv=>whnf)|((with_reducible refine AltK.l ?_);(conv=>whnf);(first|(refine CallK.mk _ (h1) ?_)|(refine CallK.mk _ (h2) ?_));conv=>whnf)|(exfalso;first|omega|contradiction)|fail)
 refine AltK.l ?_
 conv => whnf
 refine CallK.mk _ hF ?_
 conv => whnf
 skip
 rfl
theorem ev_TakenOk {y : Yd} {s : ByteArray} (hs : smallP y) {k : Nat} {p : Pt} (h0 : ydErr y = 0) (hk : pitI y s = k) (hp : y.pits[k]? = some p) : Ev Try.prog 32 [ydD y, .str s] (.tup [iD (takS p.name y.deps), iD 0]) := by
 have hY := yd_ok h0
 have h1 := ev_ofOk 79 [.ref (ydD y).cells 0] hs h0 hk hp (ev_Taken1 y p hY.vol (by have := hY.deps; omega))
 refine ev_of_awp tysOk mixed (fn := Try.f32) Try.func32 rfl rfl rfl ?_
 conv => whnf
 repeat' (first|((with_reducible refine AltK.l ?_);(conv=>whnf);(first|(refine CallK.mk _ (h1) ?_));conv=>whnf)|fail)
 rfl
end Go.Proofs.Try
end

section
namespace Go.Proofs.Try
open Go Go.Vm
set_option maxRecDepth 20000
set_option maxHeartbeats 8000000
theorem ev_ChooseNo {y : Yd} {b : Bt} (hs : smallP y) (h0 : withErr y b ≠ 0) : Ev Try.prog 28 [ydD y, btD b] (.tup [.str ⟨#[]⟩, iD (withErr y b)]) := by
 have h1 := ev_DBulkedNo hs h0
 refine ev_of_awp tysOk mixed (fn := Try.f28) Try.func28 rfl rfl rfl ?_
 conv => whnf
 repeat' (first|((with_reducible refine Split.nez (fun _=>?_) (fun _=>?_))<;>conv=>whnf)|((with_reducible refine AltK.l ?_);(conv=>whnf);(first|(refine CallK.mk _ (h1) ?_));conv=>whnf)|(exfalso;first|omega|contradiction)|fail)
 rfl
end Go.Proofs.Try
end

section
namespace Go.Proofs.Try
open Go Go.Vm
set_option maxRecDepth 20000
set_option maxHeartbeats 8000000
theorem pitI_self {y : Yd} (h : ydErr y = 0) {j : Nat} {p : Pt} (hp : y.pits[j]? = some p) : pitI y p.name = j := by
 have hd := yd_dist h
 have e : y.pits.findIdx? (fun q => sEq q.name p.name) = some j := by
  obtain ⟨hj, he⟩ := List.getElem?_eq_some_iff.1 hp
  rw [List.findIdx?_eq_some_iff_getElem]
  refine ⟨hj, by rw [he]; exact sEq_self _, fun i hi => ?_⟩
  have := List.pairwise_iff_getElem.1 hd i j (by omega) hj hi
  rw [he] at this
  rw [sEq_ne this]; decide
 rw [pitI, ixI, e]
end Go.Proofs.Try
end

section
namespace Go.Proofs.Try
open Go Go.Vm
set_option maxRecDepth 20000
set_option maxHeartbeats 8000000
def fewB (l : List Bt) (most lim : Nat) : Bool := !((decide (l.length > most) && decide (l.length ≤ lim)) || decide (l.length > lim + 5)) && l.all fun b => decide (b.soil.size ≤ 40)
theorem ev_few (l : List Bt) (most lim : Nat) (hm : most ≤ 100000) (hli : lim ≤ 100000) : Ev Try.prog 31 [.sl 5 (l.map btD), iD most, iD lim] (.bool (fewB l most lim)) := by
 have hll : (l.map btD).length = l.length := List.length_map _
 by_cases hc : (l.length > most ∧ l.length ≤ lim) ∨ l.length > lim + 5
 ·have e : fewB l most lim = false := by
   have : ((decide (l.length > most) && decide (l.length ≤ lim)) || decide (l.length > lim + 5)) = true := by simpa using hc
   rw [fewB, this]; rfl
  rw [e]
  refine ev_of_awp tysOk mixed (fn := Try.f31) Try.func31 rfl rfl rfl ?_
  conv => whnf
  repeat' (first|((with_reducible first|refine Split.of_true ?_|refine Split.of_false ?_);conv=>whnf)|((with_reducible refine Split.dec (fun _=>?_) (fun _=>?_))<;>conv=>whnf)|((with_reducible refine Wr.inr ?_ ?_);(first|omega|(simp;omega));conv=>whnf)|(exfalso;first|omega|contradiction)|fail)
  all_goals first
   | rfl
   |(exfalso; omega)
 ·have e : fewB l most lim = l.all fun b => decide (b.soil.size ≤ 40) := by
   have : ((decide (l.length > most) && decide (l.length ≤ lim)) || decide (l.length > lim + 5)) = false := by
    rw [Bool.eq_false_iff]; intro h; exact hc (by simpa using h)
   rw [fewB, this]; rfl
  rw [e]
  refine ev_of_awp tysOk mixed (fn := Try.f31) Try.func31 rfl rfl rfl ?_
  conv => whnf
  repeat' (first|((with_reducible first|refine Split.of_true ?_|refine Split.of_false ?_);conv=>whnf)|((with_reducible refine Split.dec (fun _=>?_) (fun _=>?_))<;>conv=>whnf)|((with_reducible refine Wr.inr ?_ ?_);(first|omega|(simp;omega));conv=>whnf)|(exfalso;first|omega|contradiction)|fail)
  all_goals first
   |(exfalso; omega)
   | skip
  all_goals (
   refine LoopK.o2 (fun i : Nat => i ≤ l.length ∧ (l.take i).all (fun b => decide (b.soil.size ≤ 40)) = true) (fun i => [(7, .d (.int .i64 i))]) (fun _ => []) (fun i => l.length - i) 0 ⟨by omega, rfl⟩ (by refine ⟨?_, ?_, rfl⟩<;>(repeat' (first|exact True.intro|exact rfl|(refine ⟨?_,?_⟩)|fail));done) ?_
   rintro i ⟨hi, hp⟩
   by_cases hil : i < l.length
   ·obtain ⟨b, hb⟩ := some_of_lt hil
    conv => whnf
    repeat' (first|((refine PickE.map i hb (by omega) ?_);conv=>whnf)|((with_reducible refine Split.dec (fun _=>?_) (fun _=>?_))<;>conv=>whnf)|((with_reducible refine Need.mk ?_ ?_);(first|omega|rfl|decide|(refine ⟨?_,?_⟩<;>simp<;>omega)|(simp;omega));conv=>whnf)|((with_reducible refine Wr.inr ?_ ?_);(first|omega|(simp;omega));conv=>whnf)|(exfalso;first|omega|contradiction)|fail)
    all_goals first
     |(rw [all_not9 hb (by simp; omega)]; rfl)
     | exact Again.au (i + 1) ⟨by omega, all_snoc9 hb hp (by simp;omega)⟩ (by omega) (by refine ⟨?_, ?_, rfl⟩<;>(repeat' (first|exact True.intro|exact rfl|(refine ⟨?_,?_⟩)|fail));done)
   ·rw [List.take_of_length_le (show l.length ≤ i by omega)] at hp
    rw [hp]
    conv => whnf
    repeat' (first|((with_reducible refine Split.dec (fun _=>?_) (fun _=>?_))<;>conv=>whnf)|((with_reducible refine Need.mk ?_ ?_);(first|omega|rfl|decide|(refine ⟨?_,?_⟩<;>simp<;>omega)|(simp;omega));conv=>whnf)|(exfalso;first|omega|contradiction)|fail)
    rfl)
end Go.Proofs.Try
end

section
namespace Go.Proofs.Try
open Go Go.Vm
set_option maxRecDepth 20000
set_option maxHeartbeats 8000000
theorem roomS_bd9 {y : Yd} (h : YdOk y) {p : Pt} (hp : p ∈ y.pits) : 0 ≤ roomS y p ∧ roomS y p ≤ 40000000000000 := by
 have h1 := h.room p hp
 have h2 := cap_bd (h.pit p hp).1
 have h3 := takS_bd p.name y.deps h.vol
 unfold roomS at h1 ⊢
 omega
theorem ev_DisposalKept (hA : Ev Try.prog 11 [] (.bool true)) (y : Yd) (l : List Bt) : Ev Try.prog 7 [ydD y, .sl 5 (l.map btD)] (.bool true) := by
 have h1 := ev_Small y
 have h1' := ev_few l 8 8 (by decide) (by decide)
 cases hs : smallB y with
 | false =>
  rw [hs] at h1
  refine ev_of_awp tysOk mixed (fn := Try.f7) Try.func7 rfl rfl rfl ?_
  conv => whnf
  repeat' (first|((with_reducible first|refine Split.of_true ?_|refine Split.of_false ?_);conv=>whnf)|(with_reducible refine Split.neg ?_)|((with_reducible refine AltK.l ?_);(conv=>whnf);(first|(refine CallK.mk _ (hA) ?_)|(refine CallK.mk _ (h1) ?_)|(refine CallK.mk _ (h1') ?_));conv=>whnf)|fail)
  rfl
 | true =>
 rw [hs] at h1
 have hB := smB hs
 have h4 := ev_DCheckR y hB.sp
 cases hfw : fewB l 8 8 with
 | false =>
  rw [hfw] at h1'
  refine ev_of_awp tysOk mixed (fn := Try.f7) Try.func7 rfl rfl rfl ?_
  conv => whnf
  repeat' (first|((with_reducible first|refine Split.of_true ?_|refine Split.of_false ?_);conv=>whnf)|(with_reducible refine Split.neg ?_)|((with_reducible refine AltK.l ?_);(conv=>whnf);(first|(refine CallK.mk _ (hA) ?_)|(refine CallK.mk _ (h1) ?_)|(refine CallK.mk _ (h1') ?_));conv=>whnf)|fail)
  rfl
 | true =>
 rw [hfw] at h1'
 have hfl : l.length ≤ 13 := by
  unfold fewB at hfw
  rw [Bool.and_eq_true, Bool.not_eq_true', Bool.or_eq_false_iff] at hfw
  simpa using hfw.1.2
 by_cases h0 : ydErr y = 0
 case neg =>
  generalize ydErr y = e at *
  refine ev_of_awp tysOk mixed (fn := Try.f7) Try.func7 rfl rfl rfl ?_
  conv => whnf
  repeat' (first|((with_reducible refine Split.of_true ?_);conv=>whnf)|(with_reducible refine Split.neg ?_)|((with_reducible refine Split.nez (fun _=>?_) (fun _=>?_))<;>conv=>whnf)|((with_reducible refine Need.mk ?_ ?_);(first|omega|rfl|decide|(refine ⟨?_,?_⟩<;>simp<;>omega)|(simp;omega));conv=>whnf)|((with_reducible refine AltK.l ?_);(conv=>whnf);(first|(refine CallK.mk _ (hA) ?_)|(refine CallK.mk _ (h1) ?_)|(refine CallK.mk _ (h1') ?_)|(refine CallK.mk _ (h4) ?_));conv=>whnf)|(exfalso;first|omega|contradiction)|fail)
  all_goals first
   | rfl
   |(exfalso; omega)
 rw [h0] at h4
 have h2 := hB.copied
 have hll : (l.map btD).length = l.length := List.length_map _
 have hlb : (y.bulk.map bkD).length = y.bulk.length := List.length_map _
 have hlc : (y.carry.map iD).length = y.carry.length := List.length_map _
 have hy := yd_ok h0
 have hyc := hy.carL
 have hyb := hy.bulk
 have hK0 : KpOk y y 0 (List.replicate 30 0) (List.replicate 30 0) := ⟨h0, rfl, rfl, by simp, by simp, fun x hx => by rw [(List.mem_replicate.1 hx).2]; omega, fun x hx => by rw [(List.mem_replicate.1 hx).2]; omega, fun k f hf => by
  have : (List.replicate 30 (0 : Int)).getD k 0 = 0 := by
   rw [List.getD]
   cases hx : (List.replicate 30 (0 : Int))[k]? with
   | none => rfl
   | some x => rw [(List.mem_replicate.1 (List.mem_of_getElem? hx)).2]; rfl
  rw [this]; omega⟩
 have hmp0 : List.replicate 30 (D.int .i64 0) = (List.replicate 30 (0 : Int)).map iD := by simp [iD]
 refine ev_of_awp tysOk mixed (fn := Try.f7) Try.func7 rfl rfl rfl ?_
 conv => whnf
 repeat' (first|((with_reducible refine Split.of_true ?_);conv=>whnf)|(with_reducible refine Split.neg ?_)|((with_reducible refine Split.is_false ?_ ?_);decide;conv=>whnf)|((with_reducible refine Need.mk ?_ ?_);(first|omega|rfl|decide|(refine ⟨?_,?_⟩<;>simp<;>omega)|(simp;omega));conv=>whnf)|((with_reducible refine AltK.l ?_);(conv=>whnf);(first|(refine CallK.mk _ (hA) ?_)|(refine CallK.mk _ (h1) ?_)|(refine CallK.mk _ (h1') ?_)|(refine CallK.mk _ (h2) ?_)|(refine CallK.mk _ (h4) ?_));conv=>whnf)|fail)
 refine LoopK.o2 (fun x : Nat × Yd × List Int × List Int => x.1 ≤ l.length ∧ KpOk y x.2.1 x.1 x.2.2.1 x.2.2.2) (fun x => [(8, .d (iD x.1))])
  (fun x => [(7, .var [.d (.sl 6 (x.2.1.pits.map ptD)), .d (.sl 3 (x.2.1.bulk.map bkD)), .d (.sl 3 (x.2.1.deps.map dpD)), .d (.sl 1 (x.2.1.carry.map iD))] false), (5, .arr (x.2.2.1.map iD) false), (6, .arr (x.2.2.2.map iD) false)]) (fun x => l.length - x.1) (0, y, List.replicate 30 0, List.replicate 30 0) ⟨by omega, hK0⟩ (by refine ⟨?_, ?_, rfl⟩<;>(repeat' (first|exact True.intro|exact rfl|(refine ⟨?_,?_⟩)|(intro h;cases h;done)|fail));done) ?_
 clear hK0 hmp0
 rintro ⟨i, Y, cm, bk⟩ ⟨hi, hK⟩
 dsimp only at hi hK ⊢
 have hcl : ∀ x ∈ Y.pits, x.cls.length ≤ 100000 := by rw [hK.pits]; exact fun x hx => Nat.le_trans (hB.cl x hx) (by decide)
 have hsp : smallP Y := fun x hx => Nat.le_trans (hcl x hx) (by decide)
 by_cases hil : i < l.length
 ·obtain ⟨b, hb⟩ := some_of_lt hil
  by_cases hw : withErr Y b = 0
  case neg =>
   have w1 := ev_ChooseNo hsp hw
   generalize withErr Y b = er at *
   conv => whnf
   repeat' (first|((refine PickE.map i hb (by omega) ?_);conv=>whnf)|((with_reducible refine Split.nez (fun _=>?_) (fun _=>?_))<;>conv=>whnf)|((with_reducible refine Split.dec (fun _=>?_) (fun _=>?_))<;>conv=>whnf)|((with_reducible refine Need.mk ?_ ?_);(first|omega|rfl|decide|(refine ⟨?_,?_⟩<;>simp<;>omega)|(simp;omega));conv=>whnf)|((with_reducible refine Wr.inr ?_ ?_);(first|omega|(simp;omega));conv=>whnf)|((with_reducible refine AltK.l ?_);(conv=>whnf);(first|(refine CallK.mk _ (w1) ?_));conv=>whnf)|(exfalso;first|omega|contradiction)|fail)
   all_goals first
    | exact Again.au (i + 1, Y, cm, bk) ⟨by dsimp only;omega, hK.next⟩ (by dsimp only;omega) (by refine ⟨?_, ?_, rfl⟩<;>(repeat' (first|exact True.intro|exact rfl|(refine ⟨?_,?_⟩)|(intro h;cases h;done)|fail));done)
    |(exfalso; omega)
  obtain ⟨k, f, c, hW⟩ := with_ok hw
  have w1 := ev_ChooseOk hsp hw hW
  rcases bst_at Y b.cls (volN b f c) Y.pits.length (Nat.le_refl _) with ⟨hb1, -⟩ | ⟨j, p, hj, hjk, hp, hz⟩
  ·rw [if_pos hb1, if_pos hb1] at w1
   conv => whnf
   repeat' (first|((refine PickE.map i hb (by omega) ?_);conv=>whnf)|((with_reducible refine Split.is_true ?_ ?_);decide;conv=>whnf)|((with_reducible refine Split.nez (fun _=>?_) (fun _=>?_))<;>conv=>whnf)|((with_reducible refine Split.dec (fun _=>?_) (fun _=>?_))<;>conv=>whnf)|((with_reducible refine Need.mk ?_ ?_);(first|omega|rfl|decide|(refine ⟨?_,?_⟩<;>simp<;>omega)|(simp;omega));conv=>whnf)|((with_reducible refine Wr.inr ?_ ?_);(first|omega|(simp;omega));conv=>whnf)|((with_reducible refine AltK.l ?_);(conv=>whnf);(first|(refine CallK.mk _ (w1) ?_));conv=>whnf)|(exfalso;first|omega|contradiction)|fail)
   all_goals first
    | exact Again.au (i + 1, Y, cm, bk) ⟨by dsimp only;omega, hK.next⟩ (by dsimp only;omega) (by refine ⟨?_, ?_, rfl⟩<;>(repeat' (first|exact True.intro|exact rfl|(refine ⟨?_,?_⟩)|(intro h;cases h;done)|fail));done)
    |(exfalso; omega)
  rw [hj, if_neg (by omega), if_neg (by omega), nmAt, Int.toNat_natCast, hp] at w1
  simp only [Option.map_some, Option.getD_some] at w1
  have w2 := ev_Place (s := p.name) hcl hw hW
  by_cases hpl : plErr Y b p.name (volN b f c) = 0
  case neg =>
   rw [if_neg hpl] at w2
   generalize plErr Y b p.name (volN b f c) = er at *
   conv => whnf
   repeat' (first|((refine PickE.map i hb (by omega) ?_);conv=>whnf)|((with_reducible refine Split.is_false ?_ ?_);decide;conv=>whnf)|((with_reducible refine Split.nez (fun _=>?_) (fun _=>?_))<;>conv=>whnf)|((with_reducible refine Split.dec (fun _=>?_) (fun _=>?_))<;>conv=>whnf)|((with_reducible refine Need.mk ?_ ?_);(first|omega|rfl|decide|(refine ⟨?_,?_⟩<;>simp<;>omega)|(simp;omega));conv=>whnf)|((with_reducible refine Wr.inr ?_ ?_);(first|omega|(simp;omega));conv=>whnf)|((with_reducible refine AltK.l ?_);(conv=>whnf);(first|(refine CallK.mk _ (w1) ?_)|(refine CallK.mk _ (w2) ?_));conv=>whnf)|(exfalso;first|omega|contradiction)|fail)
   all_goals first
    | exact Again.au (i + 1, Y, cm, bk) ⟨by dsimp only;omega, hK.next⟩ (by dsimp only;omega) (by refine ⟨?_, ?_, rfl⟩<;>(repeat' (first|exact True.intro|exact rfl|(refine ⟨?_,?_⟩)|(intro h;cases h;done)|fail));done)
    |(exfalso; omega)
  have hYn := plY_ok hK.yd hW hpl
  have hkb : k < y.bulk.length := by rw [← hK.bulk]; exact lt_of_some hW.fat
  obtain ⟨z, hzc⟩ := some_of_lt (show k < cm.length by rw [hK.cl]; omega)
  obtain ⟨w, hwb⟩ := some_of_lt (show k < bk.length by rw [hK.bl]; omega)
  have hzb := hK.cb z (List.mem_of_getElem? hzc)
  have hwbb := hK.bb w (List.mem_of_getElem? hwb)
  have hpi := pitI_self hK.yd hp
  have hYk := yd_ok hK.yd
  have hrm := roomS_bd9 hYk (List.mem_of_getElem? hp)
  have hv : volN b f c ≤ roomS Y p := by
   obtain ⟨-, -, -, j', q, hj', hq, hqn, hv⟩ := pl_at hpl
   rw [hpi] at hj'
   have hjj : j = j' := by omega
   subst hjj
   rw [hp] at hq
   cases hq
   exact hv
  have hvb := volN_bd hW
  have hbed := hW.bok.bed
  have hov := hW.bok.over
  have hstep := hK.step hW hpl hzc hwb (by omega)
  have w3 : Ev Try.prog 18 [.sl 3 (y.bulk.map bkD), .str b.soil] (iD (facI y b.soil)) := ev_Factor9 y.bulk b.soil (by omega)
  have hfk : facI y b.soil = k := by
   have := hW.ixk
   rw [facI, hK.bulk] at this
   exact this
  rw [hfk] at w3
  have w4 := ev_TakenOk hsp hK.yd hpi hp
  have w5 := ev_TakenOk (y := plY Y b p.name k f c) (s := p.name) hsp hYn (k := j) (p := p) hpi hp
  have ht : takS p.name (plY Y b p.name k f c).deps = takS p.name Y.deps + volN b f c := by
   show takS p.name (Y.deps ++ [⟨b.n, p.name, volN b f c⟩]) = _
   rw [takS_one]
   dsimp only
   rw [sEq_self, if_pos rfl]
  have htb := takS_bd p.name Y.deps hYk.vol
  have hYd := hYk.deps
  rw [ht] at w5
  rw [if_pos hpl] at w2
  rw [hpl] at w2
  generalize takS p.name Y.deps = tk at *
  have hlcm : (cm.map iD).length = 30 := by rw [List.length_map]; exact hK.cl
  have hlbk : (bk.map iD).length = 30 := by rw [List.length_map]; exact hK.bl
  have hmp1 : (cm.map iD).set (k : Int).toNat (iD (z + (b.bed - b.over))) = (cm.set k (z + (b.bed - b.over))).map iD := by rw [Int.toNat_natCast, List.map_set]
  have hmp2 : (bk.map iD).set (k : Int).toNat (iD (w + (tk + volN b f c - tk))) = (bk.set k (w + volN b f c)).map iD := by rw [Int.toNat_natCast, List.map_set, show w + (tk + volN b f c - tk) = w + volN b f c by omega]
  have hYnD : ydD (plY Y b p.name k f c) = .agg [.sl 6 ((plY Y b p.name k f c).pits.map ptD), .sl 3 ((plY Y b p.name k f c).bulk.map bkD), .sl 3 ((plY Y b p.name k f c).deps.map dpD), .sl 1 ((plY Y b p.name k f c).carry.map iD)] := rfl
  generalize plY Y b p.name k f c = Yn at *
  generalize volN b f c = v at *
  conv => whnf
  repeat' (first|((refine PickE.map k hwb (by omega) ?_);conv=>whnf)|((refine PickE.map k hzc (by omega) ?_);conv=>whnf)|((refine PickE.map i hb (by omega) ?_);conv=>whnf)|((with_reducible refine Split.of_true ?_);conv=>whnf)|((with_reducible refine Split.is_false ?_ ?_);decide;conv=>whnf)|((with_reducible refine Split.nez (fun _=>?_) (fun _=>?_))<;>conv=>whnf)|((with_reducible refine Split.dec (fun _=>?_) (fun _=>?_))<;>conv=>whnf)|((with_reducible refine Need.mk ?_ ?_);(first|omega|rfl|decide|(refine ⟨?_,?_⟩<;>simp<;>omega)|(simp;omega));conv=>whnf)|((with_reducible refine Wr.inr ?_ ?_);(first|omega|(simp;omega));conv=>whnf)|((with_reducible refine AltK.l ?_);(conv=>whnf);(first|(refine CallK.mk _ (w1) ?_)|(refine CallK.mk _ (w2) ?_)|(refine CallK.mk _ (w3) ?_)|(refine CallK.mk _ (w4) ?_)|(refine CallK.mk _ (w5) ?_));conv=>whnf)|(exfalso;first|omega|contradiction)|fail)
  all_goals first
   |(exfalso; omega)
   | skip
  refine Again.au (i + 1, Yn, cm.set k (z + (b.bed - b.over)), bk.set k (w + v)) ⟨by dsimp only; omega, hstep⟩ (by dsimp only; omega) ?_
  dsimp only
  exact (by refine ⟨?_, ?_, rfl⟩<;>(repeat' (first|exact True.intro|exact rfl|(refine ⟨?_,?_⟩)|(intro h;cases h;done)|exact hmp1|exact hmp2|fail));done)
 ·have hYk := yd_ok hK.yd
  have hYc := hYk.carL
  rw [hK.bulk] at hYc
  have hlY : (Y.carry.map iD).length = Y.carry.length := List.length_map _
  conv => whnf
  repeat' (first|((with_reducible refine Split.nez (fun _=>?_) (fun _=>?_))<;>conv=>whnf)|((with_reducible refine Split.dec (fun _=>?_) (fun _=>?_))<;>conv=>whnf)|((with_reducible refine Need.mk ?_ ?_);(first|omega|rfl|decide|(refine ⟨?_,?_⟩<;>simp<;>omega)|(simp;omega));conv=>whnf)|(exfalso;first|omega|contradiction)|fail)
  refine LoopK.o2 (fun k : Nat => k ≤ y.bulk.length) (fun k => [(17, .d (iD k))]) (fun _ => []) (fun k => y.bulk.length - k) 0 (by omega) (by refine ⟨?_, ?_, rfl⟩<;>(repeat' (first|exact True.intro|exact rfl|(refine ⟨?_,?_⟩)|(intro h;cases h;done)|fail));done) ?_
  rintro k hk
  dsimp only at hk ⊢
  by_cases hkl : k < y.bulk.length
  ·obtain ⟨f, hf⟩ := some_of_lt hkl
   have hfo := hy.bk f (List.mem_of_getElem? hf)
   have hden := hfo.den
   have hnum := hfo.num
   obtain ⟨z, hzc⟩ := some_of_lt (show k < cm.length by rw [hK.cl]; omega)
   obtain ⟨w, hwb⟩ := some_of_lt (show k < bk.length by rw [hK.bl]; omega)
   obtain ⟨c, hc⟩ := some_of_lt (show k < y.carry.length by omega)
   obtain ⟨c', hc'⟩ := some_of_lt (show k < Y.carry.length by omega)
   have hzb := hK.cb z (List.mem_of_getElem? hzc)
   have hwbb := hK.bb w (List.mem_of_getElem? hwb)
   have e := hK.eq k f hf
   rw [getD_of hwb, getD_of hzc, getD_of hc, getD_of hc'] at e
   have hcb := hy.car k f c hf hc
   have hcb' := hYk.car k f c' (by rw [hK.bulk]; exact hf) hc'
   have m1 : 0 ≤ f.den * w := Int.mul_nonneg (by omega) (by omega)
   have m2 : f.den * w ≤ 1000 * 1300000000000000 := Int.mul_le_mul (by omega) (by omega) (by omega) (by omega)
   have m3 : 0 ≤ f.num * z := Int.mul_nonneg (by omega) (by omega)
   have m4 : f.num * z ≤ 10000 * 13000000000000 := Int.mul_le_mul (by omega) (by omega) (by omega) (by omega)
   conv => whnf
   repeat' (first|((refine PickE.map k hc' (by omega) ?_);conv=>whnf)|((refine PickE.map k hc (by omega) ?_);conv=>whnf)|((refine PickE.map k hwb (by omega) ?_);conv=>whnf)|((refine PickE.map k hzc (by omega) ?_);conv=>whnf)|((refine PickE.map k hf (by omega) ?_);conv=>whnf)|((with_reducible refine Split.nez (fun _=>?_) (fun _=>?_))<;>conv=>whnf)|((with_reducible refine Split.dec (fun _=>?_) (fun _=>?_))<;>conv=>whnf)|((with_reducible refine Need.mk ?_ ?_);(first|omega|rfl|decide|(refine ⟨?_,?_⟩<;>simp<;>omega)|(simp;omega));conv=>whnf)|((with_reducible refine Wr.inr ?_ ?_);(first|omega|(simp;omega));conv=>whnf)|(exfalso;first|omega|contradiction)|fail)
   all_goals first
    | exact Again.au (k + 1) (by omega) (by omega) (by refine ⟨?_, ?_, rfl⟩<;>(repeat' (first|exact True.intro|exact rfl|(refine ⟨?_,?_⟩)|(intro h;cases h;done)|fail));done)
    |(exfalso; omega)
  ·conv => whnf
   repeat' (first|((with_reducible refine Split.dec (fun _=>?_) (fun _=>?_))<;>conv=>whnf)|((with_reducible refine Need.mk ?_ ?_);(first|omega|rfl|decide|(refine ⟨?_,?_⟩<;>simp<;>omega)|(simp;omega));conv=>whnf)|(exfalso;first|omega|contradiction)|fail)
   rfl
end Go.Proofs.Try
end

section
namespace Go.Proofs.Try
open Go Go.Vm
theorem int_of {k : IntKind} {d : D} (h : Ty (.int k) d) : ∃ n, d = .int k n ∧ (Lit.int k n).wf = true := by cases h; exact ⟨_, rfl, by assumption⟩
theorem str_of {d : D} (h : Ty .str d) : ∃ s, d = .str s ∧ s.size ≤ 9223372036854775807 := by
 cases h with
 | str s h => exact ⟨_, rfl, h⟩
theorem sl_of {agg : Bool} {cs : List Cs} {d : D} (h : Ty (.sl agg cs) d) : ∃ es, d = .sl cs.length es ∧ (∀ e ∈ es, TyV (agg, cs) e) ∧ es.length ≤ 9223372036854775807 := by
 cases h with
 | sl hk hl h hn => exact ⟨_, rfl, fun e he => ⟨hk e he, hl e he, h e he⟩, hn⟩
theorem agg_of {cs : List Cs} {d : D} (h : TyV (true, cs) d) : ∃ ds, d = .agg ds ∧ ds.length = cs.length ∧ ∀ (j : Nat) c e, cs[j]? = some c → ds[j]? = some e → Ty c e := by
 obtain ⟨ds, rfl⟩ := h.1.1 rfl
 exact ⟨ds, rfl, h.2.1, h.2.2⟩
theorem one_of {c : Cs} {d : D} (h : TyV (false, [c]) d) : Ty c d := by
 have h1 := h.1.2 rfl
 have := h.2.2 0 c d rfl
 rw [(one_cells h1).1] at this
 exact this rfl
theorem map_of {α : Type} {f : α → D} {Q : D → Prop} (hf : ∀ d, Q d → ∃ a, d = f a) : ∀ {es : List D}, (∀ e ∈ es, Q e) → ∃ l : List α, es = l.map f
 | [], _ => ⟨[], rfl⟩
 | e :: es, h => by
  obtain ⟨a, rfl⟩ := hf e (h e (List.mem_cons_self ..))
  obtain ⟨l, rfl⟩ := map_of hf (fun e he => h e (List.mem_cons_of_mem _ he))
  exact ⟨a :: l, rfl⟩
end Go.Proofs.Try
end

section
namespace Go.Proofs.Try
open Go Go.Vm
def cPit : List Cs := [.str, .int .i64, .int .i64, .int .i64, .sl false [.int .i64], .int .i64]
def cBulk : List Cs := [.str, .int .i64, .int .i64]
def cDep : List Cs := [.int .i64, .str, .int .i64]
def cYard : List Cs := [.sl true cPit, .sl true cBulk, .sl true cDep, .sl false [.int .i64]]
def cBat : List Cs := [.int .i64, .int .i64, .int .i64, .str, .int .i64]
theorem ints_of9 {d : D} (h : Ty (.sl false [.int .i64]) d) : ∃ l : List Int, d = .sl 1 (l.map iD) := by
 obtain ⟨es, rfl, he, -⟩ := sl_of h
 obtain ⟨l, rfl⟩ := map_of (f := iD) (fun d hd => by
  obtain ⟨n, rfl, -⟩ := int_of (one_of hd)
  exact ⟨n, rfl⟩) he
 exact ⟨l, rfl⟩
theorem pit_of {d : D} (h : TyV (true, cPit) d) : ∃ p, d = ptD p := by
 obtain ⟨ds, rfl, hl, hc⟩ := agg_of h
 match ds, hl with
 | [a, b, c, e, f, g], _ =>
  obtain ⟨s, rfl, -⟩ := str_of (hc 0 _ a rfl rfl)
  obtain ⟨x1, rfl, -⟩ := int_of (hc 1 _ b rfl rfl)
  obtain ⟨x2, rfl, -⟩ := int_of (hc 2 _ c rfl rfl)
  obtain ⟨x3, rfl, -⟩ := int_of (hc 3 _ e rfl rfl)
  obtain ⟨l, rfl⟩ := ints_of9 (hc 4 _ f rfl rfl)
  obtain ⟨x5, rfl, -⟩ := int_of (hc 5 _ g rfl rfl)
  exact ⟨⟨s, x1, x2, x3, l, x5⟩, rfl⟩
theorem bulk_of {d : D} (h : TyV (true, cBulk) d) : ∃ p, d = bkD p := by
 obtain ⟨ds, rfl, hl, hc⟩ := agg_of h
 match ds, hl with
 | [a, b, c], _ =>
  obtain ⟨s, rfl, -⟩ := str_of (hc 0 _ a rfl rfl)
  obtain ⟨x1, rfl, -⟩ := int_of (hc 1 _ b rfl rfl)
  obtain ⟨x2, rfl, -⟩ := int_of (hc 2 _ c rfl rfl)
  exact ⟨⟨s, x1, x2⟩, rfl⟩
theorem dep_of {d : D} (h : TyV (true, cDep) d) : ∃ p, d = dpD p := by
 obtain ⟨ds, rfl, hl, hc⟩ := agg_of h
 match ds, hl with
 | [a, b, c], _ =>
  obtain ⟨x1, rfl, -⟩ := int_of (hc 0 _ a rfl rfl)
  obtain ⟨s, rfl, -⟩ := str_of (hc 1 _ b rfl rfl)
  obtain ⟨x2, rfl, -⟩ := int_of (hc 2 _ c rfl rfl)
  exact ⟨⟨x1, s, x2⟩, rfl⟩
theorem bat_of {d : D} (h : TyV (true, cBat) d) : ∃ p, d = btD p := by
 obtain ⟨ds, rfl, hl, hc⟩ := agg_of h
 match ds, hl with
 | [a, b, c, e, f], _ =>
  obtain ⟨x0, rfl, -⟩ := int_of (hc 0 _ a rfl rfl)
  obtain ⟨x1, rfl, -⟩ := int_of (hc 1 _ b rfl rfl)
  obtain ⟨x2, rfl, -⟩ := int_of (hc 2 _ c rfl rfl)
  obtain ⟨s, rfl, -⟩ := str_of (hc 3 _ e rfl rfl)
  obtain ⟨x4, rfl, -⟩ := int_of (hc 4 _ f rfl rfl)
  exact ⟨⟨x0, x1, x2, s, x4⟩, rfl⟩
theorem bats_of {d : D} (h : Ty (.sl true cBat) d) : ∃ l : List Bt, d = .sl 5 (l.map btD) := by
 obtain ⟨es, rfl, he, -⟩ := sl_of h
 obtain ⟨l, rfl⟩ := map_of (fun d hd => bat_of hd) he
 exact ⟨l, rfl⟩
theorem yard_of {d : D} (h : TyV (true, cYard) d) : ∃ y, d = ydD y := by
 obtain ⟨ds, rfl, hl, hc⟩ := agg_of h
 match ds, hl with
 | [a, b, c, e], _ =>
  obtain ⟨es, rfl, he, -⟩ := sl_of (hc 0 _ a rfl rfl)
  obtain ⟨l0, rfl⟩ := map_of (fun d hd => pit_of hd) he
  obtain ⟨es, rfl, he, -⟩ := sl_of (hc 1 _ b rfl rfl)
  obtain ⟨l1, rfl⟩ := map_of (fun d hd => bulk_of hd) he
  obtain ⟨es, rfl, he, -⟩ := sl_of (hc 2 _ c rfl rfl)
  obtain ⟨l2, rfl⟩ := map_of (fun d hd => dep_of hd) he
  obtain ⟨l3, rfl⟩ := ints_of9 (hc 3 _ e rfl rfl)
  exact ⟨⟨l0, l1, l2, l3⟩, rfl⟩
end Go.Proofs.Try
end

section
namespace Go.Proofs.Try
open Go Go.Vm
theorem ev_DisposalKept' (y : Yd) (l : List Bt) : Ev Try.prog 7 [ydD y, .sl 5 (l.map btD)] (.bool true) := ev_DisposalKept ev_awake9 y l
end Go.Proofs.Try
end
