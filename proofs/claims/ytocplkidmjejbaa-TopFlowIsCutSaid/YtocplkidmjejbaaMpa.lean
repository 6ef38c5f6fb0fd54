/- Texts TwB TwC TwM DpC DpE DpF DpJ DqC DpK DpM DpR DqG DsA DrD DrE DrK DrL, joined; what is not needed is left out. -/
import Derived.Test.YtocplkidmjejbaaProg
import Derived.Test.YtocplkidmjejbaaMgH
import Derived.Test.YtocplkidmjejbaaMgI
import Derived.Test.YtocplkidmjejbaaMcd
section
namespace Go.Proofs.Try
open Go Go.Vm
set_option maxRecDepth 20000
set_option maxHeartbeats 2000000
theorem badAt_iff {s : ByteArray} {i : Nat} : badAt s i = true ↔ ¬ ((97 ≤ bAt s (i : Int).toNat ∧ bAt s (i : Int).toNat ≤ 122) ∨ (65 ≤ bAt s (i : Int).toNat ∧ bAt s (i : Int).toNat ≤ 90)) ∧
 (i = 0 ∨ ¬ ((48 ≤ bAt s (i : Int).toNat ∧ bAt s (i : Int).toNat ≤ 57) ∨ bAt s (i : Int).toNat = 45)) := by
 have e : bAt s (i : Int).toNat = bAt s i := rfl
 rw [e]
 generalize hc : bAt s i = c
 simp only [badAt, hc, letterZ, otherZ, Bool.and_eq_true, Bool.not_eq_true', Bool.or_eq_true, Bool.or_eq_false_iff, Bool.and_eq_false_iff, decide_eq_true_eq, decide_eq_false_iff_not]
 omega
end Go.Proofs.Try
end

section
namespace Go.Proofs.Try
open Go Go.Vm
set_option maxRecDepth 20000
set_option maxHeartbeats 2000000
theorem ev_IsName (s : ByteArray) : Ev Try.prog 94 [.str s] (.bool (nameB s)) := by
 refine ev_of_awp tysOk mixed (fn := Try.f94) Try.func94 rfl rfl rfl ?_
 conv => whnf
 repeat' (first|((with_reducible refine Split.of_true ?_);conv=>whnf)|((with_reducible refine Split.dec (fun _=>?_) (fun _=>?_))<;>conv=>whnf)|fail)
 ·have : s.size = 0 := by omega
  simp_all [retOf, nameB]
 ·simp_all [retOf, nameB] <;> omega
 refine LoopK.mk (fun i => i ≤ s.size ∧ ∀ k, k < i → badAt s k = false)
  (fun i => ⟨[(2, .d (.bool false)), (3, .d (.int .i64 i)), (0, .d (.str s))], []⟩)
  (fun i => s.size - i) 0 [] ⟨by omega, fun k h => absurd h (by omega)⟩ (by refine ⟨?_, ?_, rfl⟩<;>(repeat' (first|exact True.intro|exact rfl|(refine ⟨?_,?_⟩)|fail));done) ?_
 rintro i ⟨hi, hs⟩
 conv => whnf
 repeat' (first|((with_reducible first|refine Split.of_true ?_|refine Split.of_false ?_);conv=>whnf)|(with_reducible refine Split.neg ?_)|((with_reducible refine Split.nez (fun _=>?_) (fun _=>?_))<;>conv=>whnf)|((with_reducible refine Split.eqz (fun _=>?_) (fun _=>?_))<;>conv=>whnf)|((with_reducible refine Split.dec (fun _=>?_) (fun _=>?_))<;>conv=>whnf)|((with_reducible refine Need.mk ?_ ?_);(first|omega|rfl|decide|(refine ⟨?_,?_⟩<;>simp<;>omega)|(simp;omega));conv=>whnf)|((with_reducible refine Wr.inr ?_ ?_);(first|omega|(simp;omega));conv=>whnf)|(exfalso;first|omega|contradiction)|fail)
 all_goals first
  | exact congrArg D.bool (nameB_bad (i := i) (by omega) (badAt_iff.2 (by omega))).symm
  |(refine Again.mk (i+1) [] ⟨by omega, fun k hk => ?_⟩ (by omega) (by refine ⟨?_, ?_, rfl⟩<;>(repeat' (first|exact True.intro|exact rfl|(refine ⟨?_,?_⟩)|fail));done)
    rcases Nat.lt_or_ge k i with h | h
    ·exact hs k h
    ·have : k = i := by omega
     subst this
     exact Bool.eq_false_iff.2 fun h => by have := badAt_iff.1 h; omega)
  | skip
 have : ∀ k, k < s.size → badAt s k = false := fun k hk => hs k (by omega)
 have h1 : s.size ≠ 0 := by omega
 have h2 : s.size ≤ 12 := by omega
 simp [retOf, nameB, h1, h2]
 exact this
end Go.Proofs.Try
end

section
namespace Go.Proofs.Try
open Go Go.Vm
set_option maxRecDepth 20000
set_option maxHeartbeats 2000000
theorem ev_Within (n lo hi : Int) : Ev Try.prog 51 [.int .i64 n, .int .i64 lo, .int .i64 hi] (.bool (!outsideB n lo hi)) := by
 refine ev_of_awp tysOk mixed (fn := Try.f51) Try.func51 rfl rfl rfl ?_
 conv => whnf
 repeat' (first|((with_reducible refine Split.dec (fun _=>?_) (fun _=>?_))<;>conv=>whnf)|fail)
 all_goals
  simp only [retOf, outsideB]
  congr 1
  rw [Bool.eq_iff_iff]
  simp
  omega
end Go.Proofs.Try
end

section
namespace Go.Proofs.Try
open Go Go.Vm
set_option maxRecDepth 20000
set_option maxHeartbeats 4000000
theorem sEq_eq {a b : ByteArray} (h : sEq a b = true) : a = b := toList_inj (by simpa [sEq] using h)
theorem ev_IndexBt (l : List Bt) (f : Nat) (caps : List D) (p : Bt → Bool) (hn : l.length ≤ 1000000) (hf : ∀ g ∈ l, Ev Try.prog f ([btD g] ++ caps) (.bool (p g))) :
 Ev Try.prog 99 [.sl 5 (l.map btD), .fn f caps] (iD (ixI p l)) := by
 have hlen : (l.map btD).length = l.length := List.length_map _
 refine ev_of_awp tysOk mixed (fn := Try.f99) Try.func99 rfl rfl rfl ?_
 conv => whnf
 skip
 refine LoopK.o2 (fun i : Nat => i ≤ l.length ∧ ∀ g ∈ l.take i, p g = false) (fun i => [(8, .d (.int .i64 i))]) (fun _ => []) (fun i => l.length - i) 0 (by simp) (by refine ⟨?_, ?_, rfl⟩<;>(repeat' (first|exact True.intro|exact rfl|(refine ⟨?_,?_⟩)|fail));done) ?_
 rintro i ⟨hi, hp⟩
 have hn : (i : Int) < l.length → ∃ m, l[i]? = some m := fun h => some_of_lt (by omega)
 conv => whnf
 repeat' (first|((with_reducible refine Split.dec (fun _=>?_) (fun _=>?_))<;>conv=>whnf)|((with_reducible refine Need.mk ?_ ?_);(first|omega|rfl|decide|(refine ⟨?_,?_⟩<;>simp<;>omega)|(simp;omega));conv=>whnf)|fail)
 ·obtain ⟨g, hg⟩ := hn (by omega)
  have hf := hf g (List.mem_of_getElem? hg)
  conv => whnf
  repeat' (first|((refine PickE.map i hg (by omega) ?_);conv=>whnf)|fail)
  refine AltK.l ?_
  conv => whnf
  refine CallK.mk _ hf ?_
  conv => whnf
  refine Split.mk (fun hpg => ?_) (fun hpg => ?_)
  ·conv => whnf
   skip
   have e : l.findIdx? p = some i := by
    rw [List.findIdx?_eq_some_iff_getElem]
    refine ⟨by omega, by rw [(List.getElem?_eq_some_iff.1 hg).2]; exact hpg, fun j hj => ?_⟩
    have := hp l[j] (List.mem_take_iff_getElem.2 ⟨j, by omega, rfl⟩)
    rw [this]; decide
   rw [ixI, e]; rfl
  ·conv => whnf
   conv => whnf
   repeat' (first|((with_reducible refine Wr.inr ?_ ?_);(first|omega|(simp;omega));conv=>whnf)|fail)
   refine Again.au (i + 1) ⟨by omega, fun x hx => ?_⟩ (by omega) (by refine ⟨?_, ?_, rfl⟩<;>(repeat' (first|exact True.intro|exact rfl|(refine ⟨?_,?_⟩)|fail));done)
   rw [take_snoc hg] at hx
   rcases List.mem_append.1 hx with hx | hx
   ·exact hp x hx
   ·rw [List.mem_singleton.1 hx]; exact hpg
 ·have e : l.findIdx? p = none := by
   rw [List.findIdx?_eq_none_iff]
   intro x hx
   rw [← List.take_of_length_le (show l.length ≤ i by omega)] at hx
   exact hp x hx
  rw [ixI, e]; rfl
theorem ix_lt {α : Type} {p : α → Bool} {l : List α} : ixI p l < l.length := by
 unfold ixI
 split
 ·rename_i i h
  have := (List.findIdx?_eq_some_iff_getElem.1 h).1
  omega
 ·omega
end Go.Proofs.Try
end

section
namespace Go.Proofs.Try
open Go Go.Vm
set_option maxRecDepth 20000
set_option maxHeartbeats 4000000
theorem ev_Find9 (l : List Pt) (s : ByteArray) (hn : l.length ≤ 1000000) : Ev Try.prog 53 [.sl 6 (l.map ptD), .str s] (iD (ixI (fun x => sEq x.name s) l)) := by
 have hlen : (l.map ptD).length = l.length := List.length_map _
 refine ev_of_awp tysOk mixed (fn := Try.f53) Try.func53 rfl rfl rfl ?_
 conv => whnf
 skip
 refine LoopK.o2 (fun i : Nat => i ≤ l.length ∧ ∀ g ∈ l.take i, sEq g.name s = false) (fun i => [(5, .d (.int .i64 i))]) (fun _ => []) (fun i => l.length - i) 0 (by simp) (by refine ⟨?_, ?_, rfl⟩<;>(repeat' (first|exact True.intro|exact rfl|(refine ⟨?_,?_⟩)|fail));done) ?_
 rintro i ⟨hi, hp⟩
 by_cases hil : i < l.length
 ·obtain ⟨g, hg⟩ := some_of_lt hil
  by_cases he : g.name = s
  ·have e : l.findIdx? (fun x => sEq x.name s) = some i := by
    rw [List.findIdx?_eq_some_iff_getElem]
    refine ⟨by omega, by rw [(List.getElem?_eq_some_iff.1 hg).2, he]; exact sEq_self _, fun j hj => ?_⟩
    have := hp l[j] (List.mem_take_iff_getElem.2 ⟨j, by omega, rfl⟩)
    rw [this]; decide
   rw [ixI, e]
   conv => whnf
   repeat' (first|((refine PickE.map i hg (by omega) ?_);conv=>whnf)|((with_reducible refine Split.streq (fun _=>?_) (fun _=>?_))<;>conv=>whnf)|((with_reducible refine Split.dec (fun _=>?_) (fun _=>?_))<;>conv=>whnf)|((with_reducible refine Need.mk ?_ ?_);(first|omega|rfl|decide|(refine ⟨?_,?_⟩<;>simp<;>omega)|(simp;omega));conv=>whnf)|((with_reducible refine Wr.inr ?_ ?_);(first|omega|(simp;omega));conv=>whnf)|(exfalso;first|omega|contradiction)|fail)
   all_goals first
    | rfl
    |(exfalso; contradiction)
  ·conv => whnf
   repeat' (first|((refine PickE.map i hg (by omega) ?_);conv=>whnf)|((with_reducible refine Split.streq (fun _=>?_) (fun _=>?_))<;>conv=>whnf)|((with_reducible refine Split.dec (fun _=>?_) (fun _=>?_))<;>conv=>whnf)|((with_reducible refine Need.mk ?_ ?_);(first|omega|rfl|decide|(refine ⟨?_,?_⟩<;>simp<;>omega)|(simp;omega));conv=>whnf)|((with_reducible refine Wr.inr ?_ ?_);(first|omega|(simp;omega));conv=>whnf)|(exfalso;first|omega|contradiction)|fail)
   all_goals first
    |(exfalso; contradiction)
    |(refine Again.au (i + 1) ⟨by omega, fun x hx => ?_⟩ (by omega) (by refine ⟨?_, ?_, rfl⟩<;>(repeat' (first|exact True.intro|exact rfl|(refine ⟨?_,?_⟩)|fail));done)
      rw [take_snoc hg] at hx
      rcases List.mem_append.1 hx with hx | hx
      ·exact hp x hx
      ·rw [List.mem_singleton.1 hx]; exact sEq_ne he)
 ·have e : l.findIdx? (fun x => sEq x.name s) = none := by
   rw [List.findIdx?_eq_none_iff]
   intro x hx
   rw [← List.take_of_length_le (show l.length ≤ i by omega)] at hx
   exact hp x hx
  rw [ixI, e]
  conv => whnf
  repeat' (first|((with_reducible refine Split.dec (fun _=>?_) (fun _=>?_))<;>conv=>whnf)|((with_reducible refine Need.mk ?_ ?_);(first|omega|rfl|decide|(refine ⟨?_,?_⟩<;>simp<;>omega)|(simp;omega));conv=>whnf)|(exfalso;first|omega|contradiction)|fail)
  rfl
theorem ev_Factor9 (l : List Bk) (s : ByteArray) (hn : l.length ≤ 1000000) : Ev Try.prog 95 [.sl 3 (l.map bkD), .str s] (iD (ixI (fun x => sEq x.soil s) l)) := by
 have hlen : (l.map bkD).length = l.length := List.length_map _
 refine ev_of_awp tysOk mixed (fn := Try.f95) Try.func95 rfl rfl rfl ?_
 conv => whnf
 skip
 refine LoopK.o2 (fun i : Nat => i ≤ l.length ∧ ∀ g ∈ l.take i, sEq g.soil s = false) (fun i => [(5, .d (.int .i64 i))]) (fun _ => []) (fun i => l.length - i) 0 (by simp) (by refine ⟨?_, ?_, rfl⟩<;>(repeat' (first|exact True.intro|exact rfl|(refine ⟨?_,?_⟩)|fail));done) ?_
 rintro i ⟨hi, hp⟩
 by_cases hil : i < l.length
 ·obtain ⟨g, hg⟩ := some_of_lt hil
  by_cases he : g.soil = s
  ·have e : l.findIdx? (fun x => sEq x.soil s) = some i := by
    rw [List.findIdx?_eq_some_iff_getElem]
    refine ⟨by omega, by rw [(List.getElem?_eq_some_iff.1 hg).2, he]; exact sEq_self _, fun j hj => ?_⟩
    have := hp l[j] (List.mem_take_iff_getElem.2 ⟨j, by omega, rfl⟩)
    rw [this]; decide
   rw [ixI, e]
   conv => whnf
   repeat' (first|((refine PickE.map i hg (by omega) ?_);conv=>whnf)|((with_reducible refine Split.streq (fun _=>?_) (fun _=>?_))<;>conv=>whnf)|((with_reducible refine Split.dec (fun _=>?_) (fun _=>?_))<;>conv=>whnf)|((with_reducible refine Need.mk ?_ ?_);(first|omega|rfl|decide|(refine ⟨?_,?_⟩<;>simp<;>omega)|(simp;omega));conv=>whnf)|((with_reducible refine Wr.inr ?_ ?_);(first|omega|(simp;omega));conv=>whnf)|(exfalso;first|omega|contradiction)|fail)
   all_goals first
    | rfl
    |(exfalso; contradiction)
  ·conv => whnf
   repeat' (first|((refine PickE.map i hg (by omega) ?_);conv=>whnf)|((with_reducible refine Split.streq (fun _=>?_) (fun _=>?_))<;>conv=>whnf)|((with_reducible refine Split.dec (fun _=>?_) (fun _=>?_))<;>conv=>whnf)|((with_reducible refine Need.mk ?_ ?_);(first|omega|rfl|decide|(refine ⟨?_,?_⟩<;>simp<;>omega)|(simp;omega));conv=>whnf)|((with_reducible refine Wr.inr ?_ ?_);(first|omega|(simp;omega));conv=>whnf)|(exfalso;first|omega|contradiction)|fail)
   all_goals first
    |(exfalso; contradiction)
    |(refine Again.au (i + 1) ⟨by omega, fun x hx => ?_⟩ (by omega) (by refine ⟨?_, ?_, rfl⟩<;>(repeat' (first|exact True.intro|exact rfl|(refine ⟨?_,?_⟩)|fail));done)
      rw [take_snoc hg] at hx
      rcases List.mem_append.1 hx with hx | hx
      ·exact hp x hx
      ·rw [List.mem_singleton.1 hx]; exact sEq_ne he)
 ·have e : l.findIdx? (fun x => sEq x.soil s) = none := by
   rw [List.findIdx?_eq_none_iff]
   intro x hx
   rw [← List.take_of_length_le (show l.length ≤ i by omega)] at hx
   exact hp x hx
  rw [ixI, e]
  conv => whnf
  repeat' (first|((with_reducible refine Split.dec (fun _=>?_) (fun _=>?_))<;>conv=>whnf)|((with_reducible refine Need.mk ?_ ?_);(first|omega|rfl|decide|(refine ⟨?_,?_⟩<;>simp<;>omega)|(simp;omega));conv=>whnf)|(exfalso;first|omega|contradiction)|fail)
  rfl
theorem met_ix {α : Type} {nm : α → ByteArray} {l : List α} {s : ByteArray} : metB nm l s = true ↔ ¬ ixI (fun x => sEq (nm x) s) l < 0 := by
 constructor
 ·intro h hlt
  unfold metB at h
  rw [List.any_eq_true] at h
  obtain ⟨x, hx, he⟩ := h
  have he : nm x = s := by simpa using he
  unfold ixI at hlt
  cases hf : l.findIdx? (fun x => sEq (nm x) s) with
  | none =>
   have := List.findIdx?_eq_none_iff.1 hf x hx
   rw [he, sEq_self] at this; cases this
  | some i => rw [hf] at hlt; simp at hlt; omega
 ·intro h
  obtain ⟨i, r, -, hr, hs⟩ := ix_at h
  exact List.any_eq_true.2 ⟨r, List.mem_of_getElem? hr, by simpa using sEq_eq hs⟩
theorem ev_pitErr (p : Pt) (bef : List Pt) (hn : bef.length ≤ 1000000) (hc : p.cls.length ≤ 1000000) :
 Ev Try.prog 49 [ptD p, .sl 6 (bef.map ptD)] (iD (if nameB p.name = false then 4 else if metB Pt.name bef p.name = true then 5 else ptErr p)) := by
 have hlen : (p.cls.map iD).length = p.cls.length := List.length_map _
 have hN := ev_IsName p.name
 have hF := ev_Find9 bef p.name hn
 have hm := @met_ix _ Pt.name bef p.name
 have hA := ev_Within p.area 1 1000000000
 have hB := ev_Within p.base (-20000) 20000
 have hT := ev_Within p.top (-20000) 20000
 have hP := ev_Within p.price 0 10000
 generalize ixI (fun x => sEq x.name p.name) bef = ix at *
 generalize metB Pt.name bef p.name = mt at *
 cases hb : nameB p.name with
 | false =>
  rw [hb] at hN
  rw [if_pos rfl]
  refine ev_of_awp tysOk mixed (fn := Try.f49) Try.func49 rfl rfl rfl ?_
  conv => whnf
  repeat' (first|((with_reducible refine Split.of_false ?_);conv=>whnf)|(with_reducible refine Split.neg ?_)|((with_reducible refine AltK.l ?_);(conv=>whnf);(first|(refine CallK.mk _ (hN) ?_));conv=>whnf)|fail)
  rfl
 | true =>
 rw [hb] at hN
 rw [if_neg (by decide)]
 cases mt with
 | true =>
  have hi := hm.1 rfl
  rw [if_pos rfl]
  refine ev_of_awp tysOk mixed (fn := Try.f49) Try.func49 rfl rfl rfl ?_
  conv => whnf
  repeat' (first|((with_reducible refine Split.of_true ?_);conv=>whnf)|(with_reducible refine Split.neg ?_)|((with_reducible refine Split.dec (fun _=>?_) (fun _=>?_))<;>conv=>whnf)|((with_reducible refine AltK.l ?_);(conv=>whnf);(first|(refine CallK.mk _ (hN) ?_)|(refine CallK.mk _ (hF) ?_));conv=>whnf)|(exfalso;first|omega|contradiction)|fail)
  all_goals first
   | rfl
   |(exfalso; omega)
 | false =>
 have hi : ix < 0 := by
  rcases Int.lt_or_le ix 0 with h | h
  ·exact h
  ·exact absurd (hm.2 (by omega)) (by decide)
 clear hm
 rw [if_neg (by decide)]
 unfold ptErr
 generalize outsideB p.area 1 1000000000 = a1 at *
 generalize outsideB p.base (-20000) 20000 = a2 at *
 generalize outsideB p.top (-20000) 20000 = a3 at *
 generalize outsideB p.price 0 10000 = a4 at *
 by_cases h1 : (a1 || a2 || a3) = true
 ·rw [if_pos h1]
  refine ev_of_awp tysOk mixed (fn := Try.f49) Try.func49 rfl rfl rfl ?_
  conv => whnf
  repeat' (first|((with_reducible refine Split.of_true ?_);conv=>whnf)|(with_reducible refine Split.neg ?_)|((with_reducible refine Split.dec (fun _=>?_) (fun _=>?_))<;>conv=>whnf)|((with_reducible refine Split.mk (fun _=>?_) (fun _=>?_))<;>conv=>whnf)|((with_reducible refine AltK.l ?_);(conv=>whnf);(first|(refine CallK.mk _ (hN) ?_)|(refine CallK.mk _ (hF) ?_)|(refine CallK.mk _ (hA) ?_)|(refine CallK.mk _ (hB) ?_)|(refine CallK.mk _ (hT) ?_)|(refine CallK.mk _ (hP) ?_));conv=>whnf)|(exfalso;first|omega|contradiction)|fail)
  all_goals first
   | rfl
   |(exfalso; omega)
   |(exfalso; simp_all; done)
 rw [if_neg h1]
 have h1 : a1 = false ∧ a2 = false ∧ a3 = false := by simpa [and_assoc] using h1
 obtain ⟨rfl, rfl, rfl⟩ := h1
 by_cases h2 : p.top ≤ p.base
 ·rw [if_pos h2]
  refine ev_of_awp tysOk mixed (fn := Try.f49) Try.func49 rfl rfl rfl ?_
  conv => whnf
  repeat' (first|((with_reducible first|refine Split.of_true ?_|refine Split.of_false ?_);conv=>whnf)|(with_reducible refine Split.neg ?_)|((with_reducible refine Split.dec (fun _=>?_) (fun _=>?_))<;>conv=>whnf)|((with_reducible refine Split.mk (fun _=>?_) (fun _=>?_))<;>conv=>whnf)|((with_reducible refine AltK.l ?_);(conv=>whnf);(first|(refine CallK.mk _ (hN) ?_)|(refine CallK.mk _ (hF) ?_)|(refine CallK.mk _ (hA) ?_)|(refine CallK.mk _ (hB) ?_)|(refine CallK.mk _ (hT) ?_)|(refine CallK.mk _ (hP) ?_));conv=>whnf)|(exfalso;first|omega|contradiction)|fail)
  all_goals first
   | rfl
   |(exfalso; omega)
 rw [if_neg h2]
 cases a4 with
 | true =>
  rw [if_pos rfl]
  refine ev_of_awp tysOk mixed (fn := Try.f49) Try.func49 rfl rfl rfl ?_
  conv => whnf
  repeat' (first|((with_reducible first|refine Split.of_true ?_|refine Split.of_false ?_);conv=>whnf)|(with_reducible refine Split.neg ?_)|((with_reducible refine Split.dec (fun _=>?_) (fun _=>?_))<;>conv=>whnf)|((with_reducible refine AltK.l ?_);(conv=>whnf);(first|(refine CallK.mk _ (hN) ?_)|(refine CallK.mk _ (hF) ?_)|(refine CallK.mk _ (hA) ?_)|(refine CallK.mk _ (hB) ?_)|(refine CallK.mk _ (hT) ?_)|(refine CallK.mk _ (hP) ?_));conv=>whnf)|(exfalso;first|omega|contradiction)|fail)
  all_goals first
   | rfl
   |(exfalso; omega)
 | false =>
 rw [if_neg (by decide)]
 have e0 : clsGo none p.cls = clsGo (prevI p.cls 0) (p.cls.drop 0) := rfl
 refine ev_of_awp tysOk mixed (fn := Try.f49) Try.func49 rfl rfl rfl ?_
 conv => whnf
 repeat' (first|((with_reducible first|refine Split.of_true ?_|refine Split.of_false ?_);conv=>whnf)|(with_reducible refine Split.neg ?_)|((with_reducible refine Split.dec (fun _=>?_) (fun _=>?_))<;>conv=>whnf)|((with_reducible refine AltK.l ?_);(conv=>whnf);(first|(refine CallK.mk _ (hN) ?_)|(refine CallK.mk _ (hF) ?_)|(refine CallK.mk _ (hA) ?_)|(refine CallK.mk _ (hB) ?_)|(refine CallK.mk _ (hT) ?_)|(refine CallK.mk _ (hP) ?_));conv=>whnf)|(exfalso;first|omega|contradiction)|fail)
 refine LoopK.o2 (fun i : Nat => i ≤ p.cls.length ∧ clsGo none p.cls = clsGo (prevI p.cls i) (p.cls.drop i)) (fun i => [(5, .d (.int .i64 i))]) (fun _ => []) (fun i => p.cls.length - i) 0 ⟨by omega, e0⟩ (by refine ⟨?_, ?_, rfl⟩<;>(repeat' (first|exact True.intro|exact rfl|(refine ⟨?_,?_⟩)|(intro h;cases h;done)|fail));done) ?_
 rintro i ⟨hi', hp⟩
 by_cases hil : i < p.cls.length
 ·obtain ⟨c, hc⟩ := some_of_lt hil
  have hC := ev_Within c 0 9
  rw [cls_at hc] at hp
  cases ho : outsideB c 0 9 with
  | true =>
   rw [ho, if_pos rfl] at hp
   rw [ho] at hC
   conv => whnf
   repeat' (first|((refine PickE.map i hc (by omega) ?_);conv=>whnf)|((with_reducible refine Split.of_true ?_);conv=>whnf)|(with_reducible refine Split.neg ?_)|((with_reducible refine Split.dec (fun _=>?_) (fun _=>?_))<;>conv=>whnf)|((with_reducible refine Need.mk ?_ ?_);(first|omega|rfl|decide|(refine ⟨?_,?_⟩<;>simp<;>omega)|(simp;omega));conv=>whnf)|((with_reducible refine AltK.l ?_);(conv=>whnf);(first|(refine CallK.mk _ (hC) ?_));conv=>whnf)|(exfalso;first|omega|contradiction)|fail)
   rw [hp]; rfl
  | false =>
   rw [ho, if_neg (by decide)] at hp
   rw [ho] at hC
   by_cases hz : i = 0
   ·subst hz
    rw [if_neg (by simp [prevI])] at hp
    conv => whnf
    repeat' (first|((refine PickE.map 0 hc (by omega) ?_);conv=>whnf)|((with_reducible refine Split.of_false ?_);conv=>whnf)|(with_reducible refine Split.neg ?_)|((with_reducible refine Split.is_false ?_ ?_);decide;conv=>whnf)|((with_reducible refine Split.dec (fun _=>?_) (fun _=>?_))<;>conv=>whnf)|((with_reducible refine Need.mk ?_ ?_);(first|omega|rfl|decide|(refine ⟨?_,?_⟩<;>simp<;>omega)|(simp;omega));conv=>whnf)|((with_reducible refine Wr.inr ?_ ?_);(first|omega|(simp;omega));conv=>whnf)|((with_reducible refine AltK.l ?_);(conv=>whnf);(first|(refine CallK.mk _ (hC) ?_));conv=>whnf)|(exfalso;first|omega|contradiction)|fail)
    all_goals first
     | exact Again.au (0 + 1) ⟨by omega, hp⟩ (by omega) (by refine ⟨?_, ?_, rfl⟩<;>(repeat' (first|exact True.intro|exact rfl|(refine ⟨?_,?_⟩)|(intro h;cases h;done)|fail));done)
     |(exfalso; omega)
   ·obtain ⟨q, hq⟩ := some_of_lt (show i - 1 < p.cls.length by omega)
    have hpv : prevI p.cls i = some q := by
     cases i with
     | zero => exact absurd rfl hz
     | succ j => simpa [prevI] using hq
    rw [hpv] at hp
    by_cases hle : c ≤ q
    ·rw [if_pos (by simp [hle])] at hp
     conv => whnf
     repeat' (first|((refine PickE.map (i - 1) hq (by omega) ?_);conv=>whnf)|((refine PickE.map i hc (by omega) ?_);conv=>whnf)|((with_reducible refine Split.of_false ?_);conv=>whnf)|(with_reducible refine Split.neg ?_)|((with_reducible refine Split.dec (fun _=>?_) (fun _=>?_))<;>conv=>whnf)|((with_reducible refine Need.mk ?_ ?_);(first|omega|rfl|decide|(refine ⟨?_,?_⟩<;>simp<;>omega)|(simp;omega));conv=>whnf)|((with_reducible refine Wr.inr ?_ ?_);(first|omega|(simp;omega));conv=>whnf)|((with_reducible refine AltK.l ?_);(conv=>whnf);(first|(refine CallK.mk _ (hC) ?_));conv=>whnf)|(exfalso;first|omega|contradiction)|fail)
     all_goals first
      |(rw [hp]; rfl)
      |(exfalso; omega)
    ·rw [if_neg (by simp; omega)] at hp
     conv => whnf
     repeat' (first|((refine PickE.map (i - 1) hq (by omega) ?_);conv=>whnf)|((refine PickE.map i hc (by omega) ?_);conv=>whnf)|((with_reducible refine Split.of_false ?_);conv=>whnf)|(with_reducible refine Split.neg ?_)|((with_reducible refine Split.dec (fun _=>?_) (fun _=>?_))<;>conv=>whnf)|((with_reducible refine Need.mk ?_ ?_);(first|omega|rfl|decide|(refine ⟨?_,?_⟩<;>simp<;>omega)|(simp;omega));conv=>whnf)|((with_reducible refine Wr.inr ?_ ?_);(first|omega|(simp;omega));conv=>whnf)|((with_reducible refine AltK.l ?_);(conv=>whnf);(first|(refine CallK.mk _ (hC) ?_));conv=>whnf)|(exfalso;first|omega|contradiction)|fail)
     all_goals first
      | exact Again.au (i + 1) ⟨by omega, hp⟩ (by omega) (by refine ⟨?_, ?_, rfl⟩<;>(repeat' (first|exact True.intro|exact rfl|(refine ⟨?_,?_⟩)|(intro h;cases h;done)|fail));done)
      |(exfalso; omega)
 ·rw [List.drop_eq_nil_of_le (show p.cls.length ≤ i by omega)] at hp
  rw [hp]
  conv => whnf
  repeat' (first|((with_reducible refine Split.dec (fun _=>?_) (fun _=>?_))<;>conv=>whnf)|((with_reducible refine Need.mk ?_ ?_);(first|omega|rfl|decide|(refine ⟨?_,?_⟩<;>simp<;>omega)|(simp;omega));conv=>whnf)|(exfalso;first|omega|contradiction)|fail)
  cases prevI p.cls i <;> rfl
theorem ev_Deposited (l : List Dp) (n : Int) (hn : l.length ≤ 1000000) : Ev Try.prog 52 [.sl 3 (l.map dpD), iD n] (.bool (l.any fun x => x.batch == n)) := by
 have hlen : (l.map dpD).length = l.length := List.length_map _
 refine ev_of_awp tysOk mixed (fn := Try.f52) Try.func52 rfl rfl rfl ?_
 conv => whnf
 skip
 refine LoopK.o2 (fun i : Nat => i ≤ l.length ∧ (l.take i).any (fun x => x.batch == n) = false) (fun i => [(5, .d (.int .i64 i))]) (fun _ => []) (fun i => l.length - i) 0 ⟨by omega, rfl⟩ (by refine ⟨?_, ?_, rfl⟩<;>(repeat' (first|exact True.intro|exact rfl|(refine ⟨?_,?_⟩)|fail));done) ?_
 rintro i ⟨hi, hp⟩
 by_cases hil : i < l.length
 ·obtain ⟨d, hd⟩ := some_of_lt hil
  have hy := @any_yes _ (fun x : Dp => x.batch == n) l i d hd
  have hno := @any_no _ (fun x : Dp => x.batch == n) l i d hd hp
  conv => whnf
  repeat' (first|((refine PickE.map i hd (by omega) ?_);conv=>whnf)|((with_reducible refine Split.eqz (fun _=>?_) (fun _=>?_))<;>conv=>whnf)|((with_reducible refine Split.dec (fun _=>?_) (fun _=>?_))<;>conv=>whnf)|((with_reducible refine Need.mk ?_ ?_);(first|omega|rfl|decide|(refine ⟨?_,?_⟩<;>simp<;>omega)|(simp;omega));conv=>whnf)|((with_reducible refine Wr.inr ?_ ?_);(first|omega|(simp;omega));conv=>whnf)|(exfalso;first|omega|contradiction)|fail)
  ·rw [hy (by simpa using (by assumption : d.batch = n))]; rfl
  ·exact Again.au (i + 1) ⟨by omega, hno (by simpa using (by assumption : d.batch ≠ n))⟩ (by omega) (by refine ⟨?_, ?_, rfl⟩<;>(repeat' (first|exact True.intro|exact rfl|(refine ⟨?_,?_⟩)|fail));done)
 ·rw [List.take_of_length_le (by omega)] at hp
  rw [hp]
  conv => whnf
  repeat' (first|((with_reducible refine Split.dec (fun _=>?_) (fun _=>?_))<;>conv=>whnf)|((with_reducible refine Need.mk ?_ ?_);(first|omega|rfl|decide|(refine ⟨?_,?_⟩<;>simp<;>omega)|(simp;omega));conv=>whnf)|(exfalso;first|omega|contradiction)|fail)
  rfl
theorem ev_Capacity9 {p : Pt} (h : PtOk p) : Ev Try.prog 55 [ptD p] (iD (capS p)) := by
 have hc := cap_bd h
 have h2 := h.base
 have h3 := h.top
 unfold capS at *
 refine ev_of_awp tysOk mixed (fn := Try.f55) Try.func55 rfl rfl rfl ?_
 conv => whnf
 repeat' (first|((with_reducible refine Wr.inr ?_ ?_);(first|omega|(simp;omega));conv=>whnf)|fail)
 rfl
theorem ev_Taken9 (y : Yd) {k : Nat} {p : Pt} (hk : y.pits[k]? = some p) (hv : volOk y.deps) (hn : y.deps.length ≤ 300) : Ev Try.prog 54 [ydD y, iD k] (iD (takS p.name y.deps)) := by
 have hlen : (y.deps.map dpD).length = y.deps.length := List.length_map _
 refine ev_of_awp tysOk mixed (fn := Try.f54) Try.func54 rfl rfl rfl ?_
 conv => whnf
 skip
 refine LoopK.o2 (fun i : Nat => i ≤ y.deps.length) (fun i => [(5, .d (iD (takS p.name (y.deps.take i)))), (6, .d (.int .i64 i))]) (fun _ => []) (fun i => y.deps.length - i) 0 (by simp) (by refine ⟨?_, ?_, rfl⟩<;>(repeat' (first|exact True.intro|exact rfl|(refine ⟨?_,?_⟩)|(intro h;cases h;done)|fail));done) ?_
 rintro i hi
 have hb := takS_bd p.name (y.deps.take i) (fun x hx => hv x (List.mem_of_mem_take hx))
 have hl : (y.deps.take i).length ≤ 300 := by rw [List.length_take]; omega
 by_cases hil : i < y.deps.length
 ·obtain ⟨d, hd⟩ := some_of_lt hil
  have hs := takS_snoc (s := p.name) hd
  have hdv := hv d (List.mem_of_getElem? hd)
  by_cases he : d.pit = p.name
  ·rw [he, sEq_self, if_pos rfl] at hs
   conv => whnf
   repeat' (first|((refine PickE.map k hk (by omega) ?_);conv=>whnf)|((refine PickE.map i hd (by omega) ?_);conv=>whnf)|((with_reducible refine Split.streq (fun _=>?_) (fun _=>?_))<;>conv=>whnf)|((with_reducible refine Split.dec (fun _=>?_) (fun _=>?_))<;>conv=>whnf)|((with_reducible refine Need.mk ?_ ?_);(first|omega|rfl|decide|(refine ⟨?_,?_⟩<;>simp<;>omega)|(simp;omega));conv=>whnf)|((with_reducible refine Wr.inr ?_ ?_);(first|omega|(simp;omega));conv=>whnf)|(exfalso;first|omega|contradiction)|fail)
   ·refine Again.au (i + 1) (by omega) (by omega) ?_
    rw [hs]
    exact (by refine ⟨?_, ?_, rfl⟩<;>(repeat' (first|exact True.intro|exact rfl|(refine ⟨?_,?_⟩)|(intro h;cases h;done)|fail));done)
   all_goals (exfalso; contradiction)
  ·rw [sEq_ne he, if_neg (by decide)] at hs
   conv => whnf
   repeat' (first|((refine PickE.map k hk (by omega) ?_);conv=>whnf)|((refine PickE.map i hd (by omega) ?_);conv=>whnf)|((with_reducible refine Split.streq (fun _=>?_) (fun _=>?_))<;>conv=>whnf)|((with_reducible refine Split.dec (fun _=>?_) (fun _=>?_))<;>conv=>whnf)|((with_reducible refine Need.mk ?_ ?_);(first|omega|rfl|decide|(refine ⟨?_,?_⟩<;>simp<;>omega)|(simp;omega));conv=>whnf)|((with_reducible refine Wr.inr ?_ ?_);(first|omega|(simp;omega));conv=>whnf)|(exfalso;first|omega|contradiction)|fail)
   all_goals first
    |(exfalso; contradiction)
    |(refine Again.au (i + 1) (by omega) (by omega) ?_
      rw [hs, Int.add_zero]
      exact (by refine ⟨?_, ?_, rfl⟩<;>(repeat' (first|exact True.intro|exact rfl|(refine ⟨?_,?_⟩)|(intro h;cases h;done)|fail));done))
 ·have e : y.deps.take i = y.deps := List.take_of_length_le (by omega)
  conv => whnf
  repeat' (first|((with_reducible refine Split.dec (fun _=>?_) (fun _=>?_))<;>conv=>whnf)|((with_reducible refine Need.mk ?_ ?_);(first|omega|rfl|decide|(refine ⟨?_,?_⟩<;>simp<;>omega)|(simp;omega));conv=>whnf)|(exfalso;first|omega|contradiction)|fail)
  rw [e]; rfl
theorem ev_bulkingErr (y : Yd) : Ev Try.prog 50 [ydD y] (iD (if 20 < y.bulk.length then 8 else if nmGo Bk.soil bkErr [] y.bulk ≠ 0 then nmGo Bk.soil bkErr [] y.bulk else if y.carry.length ≠ y.bulk.length then 10 else carGo y.bulk y.carry)) := by
 have hlb : (y.bulk.map bkD).length = y.bulk.length := List.length_map _
 have hlc : (y.carry.map iD).length = y.carry.length := List.length_map _
 by_cases h3 : 20 < y.bulk.length
 ·rw [if_pos h3]
  refine ev_of_awp tysOk mixed (fn := Try.f50) Try.func50 rfl rfl rfl ?_
  conv => whnf
  repeat' (first|((with_reducible refine Split.dec (fun _=>?_) (fun _=>?_))<;>conv=>whnf)|(exfalso;first|omega|contradiction)|fail)
  all_goals first
   | rfl
   |(exfalso; omega)
 rw [if_neg h3]
 have z2 := @nmGo_zero _ Bk.soil bkErr y.bulk []
 have e0 : nmGo Bk.soil bkErr [] y.bulk = nmGo Bk.soil bkErr (y.bulk.take 0) (y.bulk.drop 0) := rfl
 generalize hE : nmGo Bk.soil bkErr [] y.bulk = e2 at *
 refine ev_of_awp tysOk mixed (fn := Try.f50) Try.func50 rfl rfl rfl ?_
 conv => whnf
 repeat' (first|((with_reducible refine Split.dec (fun _=>?_) (fun _=>?_))<;>conv=>whnf)|(exfalso;first|omega|contradiction)|fail)
 refine LoopK.o2 (fun i : Nat => i ≤ y.bulk.length ∧ e2 = nmGo Bk.soil bkErr (y.bulk.take i) (y.bulk.drop i)) (fun i => [(3, .d (.int .i64 i))]) (fun _ => []) (fun i => y.bulk.length - i) 0 ⟨by omega, e0⟩ (by refine ⟨?_, ?_, rfl⟩<;>(repeat' (first|exact True.intro|exact rfl|(refine ⟨?_,?_⟩)|(intro h;cases h;done)|fail));done) ?_
 rintro i ⟨hi, hp⟩
 by_cases hil : i < y.bulk.length
 ·obtain ⟨b, hb⟩ := some_of_lt hil
  rw [nmGo_at hb] at hp
  have hN := ev_IsName b.soil
  have hF := ev_Factor9 (y.bulk.take i) b.soil (by rw [List.length_take]; omega)
  have hm := @met_ix _ Bk.soil (y.bulk.take i) b.soil
  have hlt := @ix_lt _ (fun x : Bk => sEq x.soil b.soil) (y.bulk.take i)
  have w1 := ev_Within b.den 1 1000
  have w2 := ev_Within b.num 1 (10 * b.den)
  have hd : ((y.bulk.map bkD).take ((i : Int)).toNat).drop (Int.toNat 0) = (y.bulk.take i).map bkD := by rw [Int.toNat_natCast, Int.toNat_zero, List.drop_zero, List.map_take]
  rw [← hd] at hF
  generalize ixI (fun x => sEq x.soil b.soil) (y.bulk.take i) = ix at *
  generalize metB Bk.soil (y.bulk.take i) b.soil = mt at *
  cases hnb : nameB b.soil with
  | false =>
   rw [hnb, if_pos rfl] at hp
   rw [hnb] at hN
   rw [hp]
   conv => whnf
   repeat' (first|((refine PickE.map i hb (by omega) ?_);conv=>whnf)|((with_reducible refine Split.of_false ?_);conv=>whnf)|(with_reducible refine Split.neg ?_)|((with_reducible refine Split.nez (fun _=>?_) (fun _=>?_))<;>conv=>whnf)|((with_reducible refine Split.dec (fun _=>?_) (fun _=>?_))<;>conv=>whnf)|((with_reducible refine Need.mk ?_ ?_);(first|omega|rfl|decide|(refine ⟨?_,?_⟩<;>simp<;>omega)|(simp;omega));conv=>whnf)|((with_reducible refine AltK.l ?_);(conv=>whnf);(first|(refine CallK.mk _ (hN) ?_));conv=>whnf)|(exfalso;first|omega|contradiction)|fail)
   rfl
  | true =>
  rw [hnb, if_neg (by decide)] at hp
  rw [hnb] at hN
  cases mt with
  | true =>
   have hi' := hm.1 rfl
   rw [if_pos rfl] at hp
   rw [hp]
   conv => whnf
   repeat' (first|((refine PickE.map i hb (by omega) ?_);conv=>whnf)|((with_reducible refine Split.of_true ?_);conv=>whnf)|(with_reducible refine Split.neg ?_)|((with_reducible refine Split.nez (fun _=>?_) (fun _=>?_))<;>conv=>whnf)|((with_reducible refine Split.dec (fun _=>?_) (fun _=>?_))<;>conv=>whnf)|((with_reducible refine Need.mk ?_ ?_);(first|omega|rfl|decide|(refine ⟨?_,?_⟩<;>simp<;>omega)|(simp;omega));conv=>whnf)|((with_reducible refine AltK.l ?_);(conv=>whnf);(first|(refine CallK.mk _ (hN) ?_)|(refine CallK.mk _ (hF) ?_));conv=>whnf)|(exfalso;first|omega|contradiction)|fail)
   all_goals first
    | rfl
    |(exfalso; omega)
  | false =>
  have hi' : ix < 0 := by
   rcases Int.lt_or_le ix 0 with h | h
   ·exact h
   ·exact absurd (hm.2 (by omega)) (by decide)
  clear hm
  rw [if_neg (by decide)] at hp
  have eb : bkErr b = if (outsideB b.den 1 1000 || outsideB b.num 1 (10 * b.den)) = true then 2 else 0 := rfl
  rw [eb] at hp
  cases ho : outsideB b.den 1 1000 with
  | true =>
   rw [ho] at w1 hp
   rw [Bool.true_or, if_pos rfl, if_pos (by decide)] at hp
   rw [hp]
   conv => whnf
   repeat' (first|((refine PickE.map i hb (by omega) ?_);conv=>whnf)|((with_reducible refine Split.of_true ?_);conv=>whnf)|(with_reducible refine Split.neg ?_)|((with_reducible refine Split.nez (fun _=>?_) (fun _=>?_))<;>conv=>whnf)|((with_reducible refine Split.dec (fun _=>?_) (fun _=>?_))<;>conv=>whnf)|((with_reducible refine Need.mk ?_ ?_);(first|omega|rfl|decide|(refine ⟨?_,?_⟩<;>simp<;>omega)|(simp;omega));conv=>whnf)|((with_reducible refine AltK.l ?_);(conv=>whnf);(first|(refine CallK.mk _ (hN) ?_)|(refine CallK.mk _ (hF) ?_)|(refine CallK.mk _ (w1) ?_)|(refine CallK.mk _ (w2) ?_));conv=>whnf)|(exfalso;first|omega|contradiction)|fail)
   all_goals first
    | rfl
    |(exfalso; omega)
  | false =>
   have hdb : 1 ≤ b.den ∧ b.den ≤ 1000 := by simp [outsideB] at ho; omega
   rw [ho] at w1 hp
   rw [Bool.false_or] at hp
   cases ho2 : outsideB b.num 1 (10 * b.den) with
   | true =>
    rw [ho2] at w2 hp
    rw [if_pos rfl, if_pos (by decide)] at hp
    rw [hp]
    conv => whnf
    repeat' (first|((refine PickE.map i hb (by omega) ?_);conv=>whnf)|((with_reducible first|refine Split.of_true ?_|refine Split.of_false ?_);conv=>whnf)|(with_reducible refine Split.neg ?_)|((with_reducible refine Split.nez (fun _=>?_) (fun _=>?_))<;>conv=>whnf)|((with_reducible refine Split.dec (fun _=>?_) (fun _=>?_))<;>conv=>whnf)|((with_reducible refine Need.mk ?_ ?_);(first|omega|rfl|decide|(refine ⟨?_,?_⟩<;>simp<;>omega)|(simp;omega));conv=>whnf)|((with_reducible refine Wr.inr ?_ ?_);(first|omega|(simp;omega));conv=>whnf)|((with_reducible refine AltK.l ?_);(conv=>whnf);(first|(refine CallK.mk _ (hN) ?_)|(refine CallK.mk _ (hF) ?_)|(refine CallK.mk _ (w1) ?_)|(refine CallK.mk _ (w2) ?_));conv=>whnf)|(exfalso;first|omega|contradiction)|fail)
    all_goals first
     | rfl
     |(exfalso; omega)
   | false =>
    rw [ho2] at w2 hp
    simp only [Bool.false_eq_true, if_false, ne_eq, not_true_eq_false] at hp
    conv => whnf
    repeat' (first|((refine PickE.map i hb (by omega) ?_);conv=>whnf)|((with_reducible first|refine Split.of_true ?_|refine Split.of_false ?_);conv=>whnf)|(with_reducible refine Split.neg ?_)|((with_reducible refine Split.nez (fun _=>?_) (fun _=>?_))<;>conv=>whnf)|((with_reducible refine Split.dec (fun _=>?_) (fun _=>?_))<;>conv=>whnf)|((with_reducible refine Need.mk ?_ ?_);(first|omega|rfl|decide|(refine ⟨?_,?_⟩<;>simp<;>omega)|(simp;omega));conv=>whnf)|((with_reducible refine Wr.inr ?_ ?_);(first|omega|(simp;omega));conv=>whnf)|((with_reducible refine AltK.l ?_);(conv=>whnf);(first|(refine CallK.mk _ (hN) ?_)|(refine CallK.mk _ (hF) ?_)|(refine CallK.mk _ (w1) ?_)|(refine CallK.mk _ (w2) ?_));conv=>whnf)|(exfalso;first|omega|contradiction)|fail)
    all_goals first
     | exact Again.au (i + 1) ⟨by omega, hp⟩ (by omega) (by refine ⟨?_, ?_, rfl⟩<;>(repeat' (first|exact True.intro|exact rfl|(refine ⟨?_,?_⟩)|(intro h;cases h;done)|fail));done)
     |(exfalso; omega)
 rw [List.drop_eq_nil_of_le (show y.bulk.length ≤ i by omega)] at hp
 have hp : e2 = 0 := hp
 subst hp
 rw [if_neg (by decide)]
 have hbk : ∀ b ∈ y.bulk, 1 ≤ b.den ∧ b.den ≤ 1000 := fun b hb => by
  have := (z2 rfl b hb).1
  unfold bkErr at this
  split at this
  ·cases this
  ·rename_i h; simp [outsideB] at h; omega
 by_cases h5 : y.carry.length = y.bulk.length
 case neg =>
  rw [if_pos h5]
  conv => whnf
  repeat' (first|((with_reducible refine Split.nez (fun _=>?_) (fun _=>?_))<;>conv=>whnf)|((with_reducible refine Split.dec (fun _=>?_) (fun _=>?_))<;>conv=>whnf)|((with_reducible refine Need.mk ?_ ?_);(first|omega|rfl|decide|(refine ⟨?_,?_⟩<;>simp<;>omega)|(simp;omega));conv=>whnf)|(exfalso;first|omega|contradiction)|fail)
  all_goals first
   | rfl
   |(exfalso; omega)
 rw [if_neg (by simpa using h5)]
 have e0 : carGo y.bulk y.carry = carGo (y.bulk.drop 0) (y.carry.drop 0) := rfl
 conv => whnf
 repeat' (first|((with_reducible refine Split.nez (fun _=>?_) (fun _=>?_))<;>conv=>whnf)|((with_reducible refine Split.dec (fun _=>?_) (fun _=>?_))<;>conv=>whnf)|((with_reducible refine Need.mk ?_ ?_);(first|omega|rfl|decide|(refine ⟨?_,?_⟩<;>simp<;>omega)|(simp;omega));conv=>whnf)|(exfalso;first|omega|contradiction)|fail)
 refine LoopK.o2 (fun i : Nat => i ≤ y.carry.length ∧ carGo y.bulk y.carry = carGo (y.bulk.drop i) (y.carry.drop i)) (fun i => [(5, .d (.int .i64 i))]) (fun _ => []) (fun i => y.carry.length - i) 0 ⟨by omega, e0⟩ (by refine ⟨?_, ?_, rfl⟩<;>(repeat' (first|exact True.intro|exact rfl|(refine ⟨?_,?_⟩)|(intro h;cases h;done)|fail));done) ?_
 rintro i ⟨hi, hp⟩
 by_cases hil : i < y.carry.length
 ·obtain ⟨c, hc⟩ := some_of_lt hil
  obtain ⟨b, hb⟩ := some_of_lt (show i < y.bulk.length by omega)
  rw [car_at hb hc] at hp
  have hbb := hbk b (List.mem_of_getElem? hb)
  have w := ev_Within c 0 (b.den - 1)
  cases ho : outsideB c 0 (b.den - 1) with
  | true =>
   rw [ho, if_pos rfl] at hp
   rw [ho] at w
   rw [hp]
   conv => whnf
   repeat' (first|((refine PickE.map i hb (by omega) ?_);conv=>whnf)|((refine PickE.map i hc (by omega) ?_);conv=>whnf)|((with_reducible refine Split.of_true ?_);conv=>whnf)|(with_reducible refine Split.neg ?_)|((with_reducible refine Split.dec (fun _=>?_) (fun _=>?_))<;>conv=>whnf)|((with_reducible refine Need.mk ?_ ?_);(first|omega|rfl|decide|(refine ⟨?_,?_⟩<;>simp<;>omega)|(simp;omega));conv=>whnf)|((with_reducible refine Wr.inr ?_ ?_);(first|omega|(simp;omega));conv=>whnf)|((with_reducible refine AltK.l ?_);(conv=>whnf);(first|(refine CallK.mk _ (w) ?_));conv=>whnf)|(exfalso;first|omega|contradiction)|fail)
   rfl
  | false =>
   rw [ho, if_neg (by decide)] at hp
   rw [ho] at w
   conv => whnf
   repeat' (first|((refine PickE.map i hb (by omega) ?_);conv=>whnf)|((refine PickE.map i hc (by omega) ?_);conv=>whnf)|((with_reducible refine Split.of_false ?_);conv=>whnf)|(with_reducible refine Split.neg ?_)|((with_reducible refine Split.dec (fun _=>?_) (fun _=>?_))<;>conv=>whnf)|((with_reducible refine Need.mk ?_ ?_);(first|omega|rfl|decide|(refine ⟨?_,?_⟩<;>simp<;>omega)|(simp;omega));conv=>whnf)|((with_reducible refine Wr.inr ?_ ?_);(first|omega|(simp;omega));conv=>whnf)|((with_reducible refine AltK.l ?_);(conv=>whnf);(first|(refine CallK.mk _ (w) ?_));conv=>whnf)|(exfalso;first|omega|contradiction)|fail)
   exact Again.au (i + 1) ⟨by omega, hp⟩ (by omega) (by refine ⟨?_, ?_, rfl⟩<;>(repeat' (first|exact True.intro|exact rfl|(refine ⟨?_,?_⟩)|(intro h;cases h;done)|fail));done)
 ·rw [List.drop_eq_nil_of_le (show y.carry.length ≤ i by omega), carGo] at hp
  rw [hp]
  conv => whnf
  repeat' (first|((with_reducible refine Split.dec (fun _=>?_) (fun _=>?_))<;>conv=>whnf)|((with_reducible refine Need.mk ?_ ?_);(first|omega|rfl|decide|(refine ⟨?_,?_⟩<;>simp<;>omega)|(simp;omega));conv=>whnf)|(exfalso;first|omega|contradiction)|fail)
  rfl
end Go.Proofs.Try
end

section
namespace Go.Proofs.Try
open Go Go.Vm
set_option maxRecDepth 20000
set_option maxHeartbeats 4000000
def bErr (y : Yd) : Int := if 20 < y.bulk.length then 8 else if nmGo Bk.soil bkErr [] y.bulk ≠ 0 then nmGo Bk.soil bkErr [] y.bulk else if y.carry.length ≠ y.bulk.length then 10 else carGo y.bulk y.carry
theorem yd_split (y : Yd) : ydErr y = if 8 < y.pits.length then 8 else if nmGo Pt.name ptErr [] y.pits ≠ 0 then nmGo Pt.name ptErr [] y.pits else if bErr y ≠ 0 then bErr y else dpsErr y := by
 unfold ydErr bErr
 by_cases h1 : 8 < y.pits.length
 ·rw [if_pos h1, if_pos h1]
 rw [if_neg h1, if_neg h1]
 by_cases h2 : nmGo Pt.name ptErr [] y.pits ≠ 0
 ·rw [if_pos h2, if_pos h2]
 rw [if_neg h2, if_neg h2]
 by_cases h3 : 20 < y.bulk.length
 ·simp [h3]
 simp only [h3, if_false]
 by_cases h4 : nmGo Bk.soil bkErr [] y.bulk ≠ 0
 ·simp [h4]
 simp only [h4, if_false]
 by_cases h5 : y.carry.length ≠ y.bulk.length
 ·simp [h5]
 simp only [h5, if_false]
theorem ev_DCheckR (y : Yd) (hs : smallP y) : Ev Try.prog 18 [ydD y] (iD (ydErr y)) := by
 have hlp : (y.pits.map ptD).length = y.pits.length := List.length_map _
 have hld : (y.deps.map dpD).length = y.deps.length := List.length_map _
 rw [yd_split]
 have hB : Ev Try.prog 50 [ydD y] (iD (bErr y)) := ev_bulkingErr y
 by_cases h1 : 8 < y.pits.length
 ·rw [if_pos h1]
  refine ev_of_awp tysOk mixed (fn := Try.f18) Try.func18 rfl rfl rfl ?_
  conv => whnf
  repeat' (first|((with_reducible refine Split.dec (fun _=>?_) (fun _=>?_))<;>conv=>whnf)|(exfalso;first|omega|contradiction)|fail)
  all_goals first
   | rfl
   |(exfalso; omega)
 rw [if_neg h1]
 have z1 := @nmGo_zero _ Pt.name ptErr y.pits []
 have e0 : nmGo Pt.name ptErr [] y.pits = nmGo Pt.name ptErr (y.pits.take 0) (y.pits.drop 0) := rfl
 generalize hE : nmGo Pt.name ptErr [] y.pits = e1 at *
 refine ev_of_awp tysOk mixed (fn := Try.f18) Try.func18 rfl rfl rfl ?_
 conv => whnf
 repeat' (first|((with_reducible refine Split.dec (fun _=>?_) (fun _=>?_))<;>conv=>whnf)|(exfalso;first|omega|contradiction)|fail)
 refine LoopK.o2 (fun i : Nat => i ≤ y.pits.length ∧ e1 = nmGo Pt.name ptErr (y.pits.take i) (y.pits.drop i)) (fun i => [(3, .d (.int .i64 i))]) (fun _ => []) (fun i => y.pits.length - i) 0 ⟨by omega, e0⟩ (by refine ⟨?_, ?_, rfl⟩<;>(repeat' (first|exact True.intro|exact rfl|(refine ⟨?_,?_⟩)|(intro h;cases h;done)|fail));done) ?_
 rintro i ⟨hi, hp⟩
 by_cases hil : i < y.pits.length
 ·obtain ⟨p, hpi⟩ := some_of_lt hil
  rw [nmGo_at hpi] at hp
  have hQ := ev_pitErr p (y.pits.take i) (by rw [List.length_take]; omega) (hs p (List.mem_of_getElem? hpi))
  have hd : ((y.pits.map ptD).take ((i : Int)).toNat).drop (Int.toNat 0) = (y.pits.take i).map ptD := by rw [Int.toNat_natCast, Int.toNat_zero, List.drop_zero, List.map_take]
  rw [← hd] at hQ
  by_cases hz : (if nameB p.name = false then 4 else if metB Pt.name (y.pits.take i) p.name = true then 5 else ptErr p) = 0
  ·rw [hz] at hQ
   have hp : e1 = nmGo Pt.name ptErr (y.pits.take (i + 1)) (y.pits.drop (i + 1)) := by
    rw [hp]
    split at hz
    ·cases hz
    rename_i g1
    rw [if_neg g1]
    split at hz
    ·cases hz
    rename_i g2
    rw [if_neg g2, if_neg (by simpa using hz)]
   conv => whnf
   repeat' (first|((refine PickE.map i hpi (by omega) ?_);conv=>whnf)|((with_reducible refine Split.is_false ?_ ?_);decide;conv=>whnf)|((with_reducible refine Split.dec (fun _=>?_) (fun _=>?_))<;>conv=>whnf)|((with_reducible refine Need.mk ?_ ?_);(first|omega|rfl|decide|(refine ⟨?_,?_⟩<;>simp<;>omega)|(simp;omega));conv=>whnf)|((with_reducible refine Wr.inr ?_ ?_);(first|omega|(simp;omega));conv=>whnf)|((with_reducible refine AltK.l ?_);(conv=>whnf);(first|(refine CallK.mk _ (hQ) ?_));conv=>whnf)|(exfalso;first|omega|contradiction)|fail)
   exact Again.au (i + 1) ⟨by omega, hp⟩ (by omega) (by refine ⟨?_, ?_, rfl⟩<;>(repeat' (first|exact True.intro|exact rfl|(refine ⟨?_,?_⟩)|(intro h;cases h;done)|fail));done)
  ·have hp : e1 = (if nameB p.name = false then 4 else if metB Pt.name (y.pits.take i) p.name = true then 5 else ptErr p) := by
    rw [hp]
    by_cases g1 : nameB p.name = false
    ·rw [if_pos g1, if_pos g1]
    rw [if_neg g1, if_neg g1]
    by_cases g2 : metB Pt.name (y.pits.take i) p.name = true
    ·rw [if_pos g2, if_pos g2]
    rw [if_neg g2, if_neg g2] at *
    rw [if_neg g1] at hz
    rw [if_pos hz]
   rw [← hp] at hQ hz
   rw [if_pos hz]
   conv => whnf
   repeat' (first|((refine PickE.map i hpi (by omega) ?_);conv=>whnf)|((with_reducible refine Split.nez (fun _=>?_) (fun _=>?_))<;>conv=>whnf)|((with_reducible refine Split.dec (fun _=>?_) (fun _=>?_))<;>conv=>whnf)|((with_reducible refine Need.mk ?_ ?_);(first|omega|rfl|decide|(refine ⟨?_,?_⟩<;>simp<;>omega)|(simp;omega));conv=>whnf)|((with_reducible refine Wr.inr ?_ ?_);(first|omega|(simp;omega));conv=>whnf)|((with_reducible refine AltK.l ?_);(conv=>whnf);(first|(refine CallK.mk _ (hQ) ?_));conv=>whnf)|(exfalso;first|omega|contradiction)|fail)
   rfl
 rw [List.drop_eq_nil_of_le (show y.pits.length ≤ i by omega)] at hp
 have hp : e1 = 0 := hp
 subst hp
 rw [if_neg (by decide)]
 have hP : ∀ p ∈ y.pits, PtOk p := fun p hp => pt_ok (z1 rfl p hp).1
 generalize bErr y = eb at *
 by_cases hz : eb = 0
 case neg =>
  rw [if_pos hz]
  conv => whnf
  repeat' (first|((with_reducible refine Split.nez (fun _=>?_) (fun _=>?_))<;>conv=>whnf)|((with_reducible refine Split.dec (fun _=>?_) (fun _=>?_))<;>conv=>whnf)|((with_reducible refine Need.mk ?_ ?_);(first|omega|rfl|decide|(refine ⟨?_,?_⟩<;>simp<;>omega)|(simp;omega));conv=>whnf)|((with_reducible refine AltK.l ?_);(conv=>whnf);(first|(refine CallK.mk _ (hB) ?_));conv=>whnf)|(exfalso;first|omega|contradiction)|fail)
  rfl
 subst hz
 rw [if_neg (by decide)]
 unfold dpsErr
 by_cases h0 : 200 < y.deps.length
 ·rw [if_pos h0]
  conv => whnf
  repeat' (first|((with_reducible refine Split.is_false ?_ ?_);decide;conv=>whnf)|((with_reducible refine Split.dec (fun _=>?_) (fun _=>?_))<;>conv=>whnf)|((with_reducible refine Need.mk ?_ ?_);(first|omega|rfl|decide|(refine ⟨?_,?_⟩<;>simp<;>omega)|(simp;omega));conv=>whnf)|((with_reducible refine AltK.l ?_);(conv=>whnf);(first|(refine CallK.mk _ (hB) ?_));conv=>whnf)|(exfalso;first|omega|contradiction)|fail)
  all_goals first
   | rfl
   |(exfalso; omega)
 rw [if_neg h0]
 have e0 : dpGo y [] y.deps = dpGo y (y.deps.take 0) (y.deps.drop 0) := rfl
 conv => whnf
 repeat' (first|((with_reducible refine Split.is_false ?_ ?_);decide;conv=>whnf)|((with_reducible refine Split.dec (fun _=>?_) (fun _=>?_))<;>conv=>whnf)|((with_reducible refine Need.mk ?_ ?_);(first|omega|rfl|decide|(refine ⟨?_,?_⟩<;>simp<;>omega)|(simp;omega));conv=>whnf)|((with_reducible refine AltK.l ?_);(conv=>whnf);(first|(refine CallK.mk _ (hB) ?_));conv=>whnf)|(exfalso;first|omega|contradiction)|fail)
 refine LoopK.o2 (fun i : Nat => i ≤ y.deps.length ∧ dpGo y [] y.deps = dpGo y (y.deps.take i) (y.deps.drop i)) (fun i => [(6, .d (.int .i64 i))]) (fun _ => []) (fun i => y.deps.length - i) 0 ⟨by omega, e0⟩ (by refine ⟨?_, ?_, rfl⟩<;>(repeat' (first|exact True.intro|exact rfl|(refine ⟨?_,?_⟩)|(intro h;cases h;done)|fail));done) ?_
 rintro i ⟨hi, hp⟩
 by_cases hil : i < y.deps.length
 ·obtain ⟨d, hd⟩ := some_of_lt hil
  rw [dpGo_at hd] at hp
  have w1 := ev_Within d.batch 1 1000000
  have w2 := ev_Within d.vol 0 100000000000000
  have w3 : Ev Try.prog 53 [.sl 6 (y.pits.map ptD), .str d.pit] (iD (pitI y d.pit)) := ev_Find9 y.pits d.pit (by omega)
  have w4 := ev_Deposited (y.deps.take i) d.batch (by rw [List.length_take]; omega)
  have hdd : ((y.deps.map dpD).take ((i : Int)).toNat).drop (Int.toNat 0) = (y.deps.take i).map dpD := by rw [Int.toNat_natCast, Int.toNat_zero, List.drop_zero, List.map_take]
  rw [← hdd] at w4
  generalize (y.deps.take i).any (fun x => x.batch == d.batch) = sn at *
  generalize outsideB d.batch 1 1000000 = b1 at *
  generalize outsideB d.vol 0 100000000000000 = b2 at *
  cases b1 with
  | true =>
   rw [if_pos rfl] at hp
   conv => whnf
   repeat' (first|((refine PickE.map i hd (by omega) ?_);conv=>whnf)|((with_reducible refine Split.of_true ?_);conv=>whnf)|(with_reducible refine Split.neg ?_)|((with_reducible refine Split.dec (fun _=>?_) (fun _=>?_))<;>conv=>whnf)|((with_reducible refine Need.mk ?_ ?_);(first|omega|rfl|decide|(refine ⟨?_,?_⟩<;>simp<;>omega)|(simp;omega));conv=>whnf)|((with_reducible refine AltK.l ?_);(conv=>whnf);(first|(refine CallK.mk _ (w1) ?_)|(refine CallK.mk _ (w2) ?_)|(refine CallK.mk _ (w3) ?_)|(refine CallK.mk _ (w4) ?_));conv=>whnf)|(exfalso;first|omega|contradiction)|fail)
   rw [hp]; rfl
  | false =>
  rw [if_neg (by decide)] at hp
  cases sn with
  | true =>
   rw [if_pos rfl] at hp
   conv => whnf
   repeat' (first|((refine PickE.map i hd (by omega) ?_);conv=>whnf)|((with_reducible first|refine Split.of_true ?_|refine Split.of_false ?_);conv=>whnf)|(with_reducible refine Split.neg ?_)|((with_reducible refine Split.dec (fun _=>?_) (fun _=>?_))<;>conv=>whnf)|((with_reducible refine Need.mk ?_ ?_);(first|omega|rfl|decide|(refine ⟨?_,?_⟩<;>simp<;>omega)|(simp;omega));conv=>whnf)|((with_reducible refine AltK.l ?_);(conv=>whnf);(first|(refine CallK.mk _ (w1) ?_)|(refine CallK.mk _ (w2) ?_)|(refine CallK.mk _ (w3) ?_)|(refine CallK.mk _ (w4) ?_));conv=>whnf)|(exfalso;first|omega|contradiction)|fail)
   rw [hp]; rfl
  | false =>
  rw [if_neg (by decide)] at hp
  by_cases hpt : pitI y d.pit < 0
  ·rw [if_pos hpt] at hp
   conv => whnf
   repeat' (first|((refine PickE.map i hd (by omega) ?_);conv=>whnf)|((with_reducible refine Split.of_false ?_);conv=>whnf)|(with_reducible refine Split.neg ?_)|((with_reducible refine Split.dec (fun _=>?_) (fun _=>?_))<;>conv=>whnf)|((with_reducible refine Split.mk (fun _=>?_) (fun _=>?_))<;>conv=>whnf)|((with_reducible refine Need.mk ?_ ?_);(first|omega|rfl|decide|(refine ⟨?_,?_⟩<;>simp<;>omega)|(simp;omega));conv=>whnf)|((with_reducible refine Wr.inr ?_ ?_);(first|omega|(simp;omega));conv=>whnf)|((with_reducible refine AltK.l ?_);(conv=>whnf);(first|(refine CallK.mk _ (w1) ?_)|(refine CallK.mk _ (w2) ?_)|(refine CallK.mk _ (w3) ?_)|(refine CallK.mk _ (w4) ?_));conv=>whnf)|(exfalso;first|omega|contradiction)|fail)
   all_goals first
    |(rw [hp]; rfl)
    |(exfalso; omega)
  ·rw [if_neg hpt] at hp
   cases b2 with
   | true =>
    rw [if_pos rfl] at hp
    conv => whnf
    repeat' (first|((refine PickE.map i hd (by omega) ?_);conv=>whnf)|((with_reducible first|refine Split.of_true ?_|refine Split.of_false ?_);conv=>whnf)|(with_reducible refine Split.neg ?_)|((with_reducible refine Split.dec (fun _=>?_) (fun _=>?_))<;>conv=>whnf)|((with_reducible refine Need.mk ?_ ?_);(first|omega|rfl|decide|(refine ⟨?_,?_⟩<;>simp<;>omega)|(simp;omega));conv=>whnf)|((with_reducible refine AltK.l ?_);(conv=>whnf);(first|(refine CallK.mk _ (w1) ?_)|(refine CallK.mk _ (w2) ?_)|(refine CallK.mk _ (w3) ?_)|(refine CallK.mk _ (w4) ?_));conv=>whnf)|(exfalso;first|omega|contradiction)|fail)
    all_goals first
     |(rw [hp]; rfl)
     |(exfalso; omega)
   | false =>
    rw [if_neg (by decide)] at hp
    conv => whnf
    repeat' (first|((refine PickE.map i hd (by omega) ?_);conv=>whnf)|((with_reducible refine Split.of_false ?_);conv=>whnf)|(with_reducible refine Split.neg ?_)|((with_reducible refine Split.dec (fun _=>?_) (fun _=>?_))<;>conv=>whnf)|((with_reducible refine Need.mk ?_ ?_);(first|omega|rfl|decide|(refine ⟨?_,?_⟩<;>simp<;>omega)|(simp;omega));conv=>whnf)|((with_reducible refine Wr.inr ?_ ?_);(first|omega|(simp;omega));conv=>whnf)|((with_reducible refine AltK.l ?_);(conv=>whnf);(first|(refine CallK.mk _ (w1) ?_)|(refine CallK.mk _ (w2) ?_)|(refine CallK.mk _ (w3) ?_)|(refine CallK.mk _ (w4) ?_));conv=>whnf)|(exfalso;first|omega|contradiction)|fail)
    all_goals first
     | exact Again.au (i + 1) ⟨by omega, hp⟩ (by omega) (by refine ⟨?_, ?_, rfl⟩<;>(repeat' (first|exact True.intro|exact rfl|(refine ⟨?_,?_⟩)|(intro h;cases h;done)|fail));done)
     |(exfalso; omega)
 ·rw [List.drop_eq_nil_of_le (show y.deps.length ≤ i by omega)] at hp
  have hp : dpGo y [] y.deps = 0 := hp
  have hv := dpGo_vol hp
  rw [hp, if_neg (by decide)]
  conv => whnf
  repeat' (first|((with_reducible refine Split.dec (fun _=>?_) (fun _=>?_))<;>conv=>whnf)|((with_reducible refine Need.mk ?_ ?_);(first|omega|rfl|decide|(refine ⟨?_,?_⟩<;>simp<;>omega)|(simp;omega));conv=>whnf)|(exfalso;first|omega|contradiction)|fail)
  refine LoopK.o2 (fun k : Nat => k ≤ y.pits.length ∧ (y.pits.take k).any (fun p => decide (roomS y p < 0)) = false) (fun k => [(8, .d (.int .i64 k))]) (fun _ => []) (fun k => y.pits.length - k) 0 ⟨by omega, rfl⟩ (by refine ⟨?_, ?_, rfl⟩<;>(repeat' (first|exact True.intro|exact rfl|(refine ⟨?_,?_⟩)|(intro h;cases h;done)|fail));done) ?_
  rintro k ⟨hk, hq⟩
  by_cases hkl : k < y.pits.length
  ·obtain ⟨p, hpk⟩ := some_of_lt hkl
   have hR := ev_Taken9 y hpk hv (by omega)
   have hC := ev_Capacity9 (hP p (List.mem_of_getElem? hpk))
   have hy := @any_yes _ (fun p => decide (roomS y p < 0)) y.pits k p hpk
   have hno := @any_no _ (fun p => decide (roomS y p < 0)) y.pits k p hpk hq
   have er : roomS y p = capS p - takS p.name y.deps := rfl
   rw [er] at hy hno
   generalize takS p.name y.deps = tk at *
   generalize capS p = cp at *
   conv => whnf
   repeat' (first|((refine PickE.map k hpk (by omega) ?_);conv=>whnf)|((with_reducible refine Split.dec (fun _=>?_) (fun _=>?_))<;>conv=>whnf)|((with_reducible refine Need.mk ?_ ?_);(first|omega|rfl|decide|(refine ⟨?_,?_⟩<;>simp<;>omega)|(simp;omega));conv=>whnf)|((with_reducible refine Wr.inr ?_ ?_);(first|omega|(simp;omega));conv=>whnf)|((with_reducible refine AltK.l ?_);(conv=>whnf);(first|(refine CallK.mk _ (hR) ?_)|(refine CallK.mk _ (hC) ?_));conv=>whnf)|(exfalso;first|omega|contradiction)|fail)
   ·rw [hy (by simp; omega), if_pos rfl]; rfl
   ·exact Again.au (k + 1) ⟨by omega, hno (by simp;omega)⟩ (by omega) (by refine ⟨?_, ?_, rfl⟩<;>(repeat' (first|exact True.intro|exact rfl|(refine ⟨?_,?_⟩)|(intro h;cases h;done)|fail));done)
  ·rw [List.take_of_length_le (by omega)] at hq
   rw [hq]
   conv => whnf
   repeat' (first|((with_reducible refine Split.dec (fun _=>?_) (fun _=>?_))<;>conv=>whnf)|(exfalso;first|omega|contradiction)|fail)
   rfl
theorem ev_BatchErr (y : Yd) (b : Bt) (hn : y.bulk.length ≤ 1000000) : Ev Try.prog 56 [ydD y, btD b] (iD (batErr y b)) := by
 have w1 := ev_Within b.n 1 1000000
 have w2 := ev_Within b.bed 0 1000000000000
 have w3 := ev_Within b.over 0 b.bed
 have w4 := ev_Within b.cls 0 9
 have w5 : Ev Try.prog 95 [.sl 3 (y.bulk.map bkD), .str b.soil] (iD (facI y b.soil)) := ev_Factor9 y.bulk b.soil hn
 unfold batErr
 generalize outsideB b.n 1 1000000 = a1 at *
 generalize outsideB b.bed 0 1000000000000 = a2 at *
 generalize outsideB b.over 0 b.bed = a3 at *
 generalize outsideB b.cls 0 9 = a4 at *
 generalize facI y b.soil = f at *
 by_cases hf : f < 0
 ·rw [if_pos hf]
  refine ev_of_awp tysOk mixed (fn := Try.f56) Try.func56 rfl rfl rfl ?_
  conv => whnf
  repeat' (first|((with_reducible refine Split.of_true ?_);conv=>whnf)|(with_reducible refine Split.neg ?_)|((with_reducible refine Split.dec (fun _=>?_) (fun _=>?_))<;>conv=>whnf)|((with_reducible refine Split.mk (fun _=>?_) (fun _=>?_))<;>conv=>whnf)|((with_reducible refine AltK.l ?_);(conv=>whnf);(first|(refine CallK.mk _ (w1) ?_)|(refine CallK.mk _ (w2) ?_)|(refine CallK.mk _ (w3) ?_)|(refine CallK.mk _ (w4) ?_)|(refine CallK.mk _ (w5) ?_));conv=>whnf)|(exfalso;first|omega|contradiction)|fail)
  all_goals first
   |(simp_all [retOf, iD]; done)
   |(exfalso; omega)
 ·rw [if_neg hf]
  refine ev_of_awp tysOk mixed (fn := Try.f56) Try.func56 rfl rfl rfl ?_
  conv => whnf
  repeat' (first|((with_reducible refine Split.of_true ?_);conv=>whnf)|(with_reducible refine Split.neg ?_)|((with_reducible refine Split.dec (fun _=>?_) (fun _=>?_))<;>conv=>whnf)|((with_reducible refine Split.mk (fun _=>?_) (fun _=>?_))<;>conv=>whnf)|((with_reducible refine AltK.l ?_);(conv=>whnf);(first|(refine CallK.mk _ (w1) ?_)|(refine CallK.mk _ (w2) ?_)|(refine CallK.mk _ (w3) ?_)|(refine CallK.mk _ (w4) ?_)|(refine CallK.mk _ (w5) ?_));conv=>whnf)|(exfalso;first|omega|contradiction)|fail)
  all_goals first
   |(simp_all [retOf, iD]; done)
   |(exfalso; omega)
end Go.Proofs.Try
end

section
namespace Go.Proofs.Try
open Go Go.Vm
set_option maxRecDepth 20000
set_option maxHeartbeats 8000000
def y0 : Yd := ⟨[], [], [], []⟩
end Go.Proofs.Try
end

section
namespace Go.Proofs.Try
open Go Go.Vm
set_option maxRecDepth 20000
set_option maxHeartbeats 8000000
def prA (y : Yd) (a : Al) : Int := a.vol * priceF y (pitI y a.pit).toNat
def costF (y : Yd) (xs : List Al) : Int := (xs.map (prA y)).sum
end Go.Proofs.Try
end

section
namespace Go.Proofs.Try
open Go Go.Vm
set_option maxRecDepth 20000
set_option maxHeartbeats 8000000
theorem ev_CopyInts9 (l : List Int) (hn : l.length ≤ 1000000) : Ev Try.prog 28 [.sl 1 (l.map iD)] (.sl 1 (l.map iD)) := by
 have hl : (l.map iD).length = l.length := List.length_map _
 refine ev_of_awp tysOk mixed (fn := Try.f28) Try.func28 rfl rfl rfl ?_
 conv => whnf
 repeat' (first|((with_reducible refine Need.mk ?_ ?_);(first|omega|rfl|decide|(refine ⟨?_,?_⟩<;>simp<;>omega)|(simp;omega));conv=>whnf)|fail)
 rfl
def smallA (y : Yd) : Bool := !((decide (y.pits.length > 4) && decide (y.pits.length ≤ 8)) || decide (y.pits.length > 12) || (decide (y.bulk.length > 4) && decide (y.bulk.length ≤ 20)) || decide (y.bulk.length > 25) || decide (y.carry.length > 30) || (decide (y.deps.length > 8) && decide (y.deps.length ≤ 200)) || decide (y.deps.length > 205))
def smallB (y : Yd) : Bool := smallA y && y.pits.all (fun p => decide (p.name.size ≤ 40) && decide (p.cls.length ≤ 12)) && y.bulk.all (fun b => decide (b.soil.size ≤ 40)) && y.deps.all (fun d => decide (d.pit.size ≤ 40))
structure SmOk (y : Yd) : Prop where
 p : y.pits.length ≤ 4 ∨ (8 < y.pits.length ∧ y.pits.length ≤ 12)
 b : y.bulk.length ≤ 4 ∨ (20 < y.bulk.length ∧ y.bulk.length ≤ 25)
 c : y.carry.length ≤ 30
 d : y.deps.length ≤ 8 ∨ (200 < y.deps.length ∧ y.deps.length ≤ 205)
theorem sm_ok {y : Yd} (h : smallA y = true) : SmOk y := by
 simp only [smallA, Bool.not_eq_true', Bool.or_eq_false_iff, Bool.and_eq_false_iff, decide_eq_false_iff_not] at h
 exact ⟨by omega, by omega, by omega, by omega⟩
theorem sm_no {y : Yd} (h : smallA y = false) : ¬ SmOk y := by
 intro ⟨h1, h2, h3, h4⟩
 have : smallA y = true := by
  simp only [smallA, Bool.not_eq_true', Bool.or_eq_false_iff, Bool.and_eq_false_iff, decide_eq_false_iff_not]
  omega
 rw [h] at this; cases this
theorem all_snoc9 {α : Type} {l : List α} {p : α → Bool} {i : Nat} {m : α} (hm : l[i]? = some m) (h : (l.take i).all p = true) (hp : p m = true) : (l.take (i + 1)).all p = true := by
 rw [take_snoc hm, List.all_append, h]; simp [hp]
theorem all_not9 {α : Type} {l : List α} {p : α → Bool} {i : Nat} {m : α} (hm : l[i]? = some m) (hp : p m = false) : l.all p = false := by
 rw [List.all_eq_false]; exact ⟨m, List.mem_of_getElem? hm, by simp [hp]⟩
theorem ev_Small (y : Yd) : Ev Try.prog 7 [ydD y] (.bool (smallB y)) := by
 have hlp : (y.pits.map ptD).length = y.pits.length := List.length_map _
 have hlb : (y.bulk.map bkD).length = y.bulk.length := List.length_map _
 have hld : (y.deps.map dpD).length = y.deps.length := List.length_map _
 have hlc : (y.carry.map iD).length = y.carry.length := List.length_map _
 cases hA : smallA y with
 | false =>
  have hno := sm_no hA
  have e : smallB y = false := by rw [smallB, hA]; rfl
  have hx : ¬ ((y.pits.length ≤ 4 ∨ (8 < y.pits.length ∧ y.pits.length ≤ 12)) ∧ (y.bulk.length ≤ 4 ∨ (20 < y.bulk.length ∧ y.bulk.length ≤ 25)) ∧ y.carry.length ≤ 30 ∧ (y.deps.length ≤ 8 ∨ (200 < y.deps.length ∧ y.deps.length ≤ 205))) := fun h => hno ⟨h.1, h.2.1, h.2.2.1, h.2.2.2⟩
  rw [e]
  refine ev_of_awp tysOk mixed (fn := Try.f7) Try.func7 rfl rfl rfl ?_
  conv => whnf
  repeat' (first|((with_reducible first|refine Split.of_true ?_|refine Split.of_false ?_);conv=>whnf)|((with_reducible refine Split.dec (fun _=>?_) (fun _=>?_))<;>conv=>whnf)|(exfalso;first|omega|contradiction)|fail)
  all_goals first
   | rfl
   |(exfalso; omega)
 | true =>
 obtain ⟨q1, q2, q3, q4⟩ := sm_ok hA
 have e : smallB y = (y.pits.all (fun p => decide (p.name.size ≤ 40) && decide (p.cls.length ≤ 12)) && y.bulk.all (fun b => decide (b.soil.size ≤ 40)) && y.deps.all (fun d => decide (d.pit.size ≤ 40))) := by rw [smallB, hA, Bool.true_and]
 rw [e]
 clear e hA
 refine ev_of_awp tysOk mixed (fn := Try.f7) Try.func7 rfl rfl rfl ?_
 conv => whnf
 repeat' (first|((with_reducible first|refine Split.of_true ?_|refine Split.of_false ?_);conv=>whnf)|((with_reducible refine Split.dec (fun _=>?_) (fun _=>?_))<;>conv=>whnf)|(exfalso;first|omega|contradiction)|fail)
 all_goals first
  |(exfalso; omega)
  | skip
 all_goals
  refine LoopK.o2 (fun i : Nat => i ≤ y.pits.length ∧ (y.pits.take i).all (fun p => decide (p.name.size ≤ 40) && decide (p.cls.length ≤ 12)) = true) (fun i => [(3, .d (.int .i64 i))]) (fun _ => []) (fun i => y.pits.length - i) 0 ⟨by omega, rfl⟩ (by refine ⟨?_, ?_, rfl⟩<;>(repeat' (first|exact True.intro|exact rfl|(refine ⟨?_,?_⟩)|(intro h;cases h;done)|fail));done) ?_
  rintro i ⟨hi, hp⟩
  by_cases hil : i < y.pits.length
  ·obtain ⟨p, hpi⟩ := some_of_lt hil
   have hcl : (p.cls.map iD).length = p.cls.length := List.length_map _
   have hn := @all_not9 _ y.pits (fun p => decide (p.name.size ≤ 40) && decide (p.cls.length ≤ 12)) i p hpi
   have hy := @all_snoc9 _ y.pits (fun p => decide (p.name.size ≤ 40) && decide (p.cls.length ≤ 12)) i p hpi hp
   clear hp
   conv => whnf
   repeat' (first|((refine PickE.map i hpi (by omega) ?_);conv=>whnf)|((with_reducible refine Split.of_true ?_);conv=>whnf)|((with_reducible refine Split.dec (fun _=>?_) (fun _=>?_))<;>conv=>whnf)|((with_reducible refine Need.mk ?_ ?_);(first|omega|rfl|decide|(refine ⟨?_,?_⟩<;>simp<;>omega)|(simp;omega));conv=>whnf)|((with_reducible refine Wr.inr ?_ ?_);(first|omega|(simp;omega));conv=>whnf)|(exfalso;first|omega|contradiction)|fail)
   all_goals first
    | exact Again.au (i + 1) ⟨by omega, hy (by simp;omega)⟩ (by omega) (by refine ⟨?_, ?_, rfl⟩<;>(repeat' (first|exact True.intro|exact rfl|(refine ⟨?_,?_⟩)|(intro h;cases h;done)|fail));done)
    |(rw [hn (by simp; omega)]; rfl)
  rw [List.take_of_length_le (by omega)] at hp
  rw [hp, Bool.true_and]
  clear hp
  conv => whnf
  repeat' (first|((with_reducible refine Split.dec (fun _=>?_) (fun _=>?_))<;>conv=>whnf)|((with_reducible refine Need.mk ?_ ?_);(first|omega|rfl|decide|(refine ⟨?_,?_⟩<;>simp<;>omega)|(simp;omega));conv=>whnf)|(exfalso;first|omega|contradiction)|fail)
  refine LoopK.o2 (fun i : Nat => i ≤ y.bulk.length ∧ (y.bulk.take i).all (fun b => decide (b.soil.size ≤ 40)) = true) (fun i => [(4, .d (.int .i64 i))]) (fun _ => []) (fun i => y.bulk.length - i) 0 ⟨by omega, rfl⟩ (by refine ⟨?_, ?_, rfl⟩<;>(repeat' (first|exact True.intro|exact rfl|(refine ⟨?_,?_⟩)|(intro h;cases h;done)|fail));done) ?_
  rintro i ⟨hi, hp⟩
  by_cases hil : i < y.bulk.length
  ·obtain ⟨p, hpi⟩ := some_of_lt hil
   have hn := @all_not9 _ y.bulk (fun b => decide (b.soil.size ≤ 40)) i p hpi
   have hy := @all_snoc9 _ y.bulk (fun b => decide (b.soil.size ≤ 40)) i p hpi hp
   clear hp
   conv => whnf
   repeat' (first|((refine PickE.map i hpi (by omega) ?_);conv=>whnf)|((with_reducible refine Split.dec (fun _=>?_) (fun _=>?_))<;>conv=>whnf)|((with_reducible refine Need.mk ?_ ?_);(first|omega|rfl|decide|(refine ⟨?_,?_⟩<;>simp<;>omega)|(simp;omega));conv=>whnf)|((with_reducible refine Wr.inr ?_ ?_);(first|omega|(simp;omega));conv=>whnf)|(exfalso;first|omega|contradiction)|fail)
   all_goals first
    | exact Again.au (i + 1) ⟨by omega, hy (by simp;omega)⟩ (by omega) (by refine ⟨?_, ?_, rfl⟩<;>(repeat' (first|exact True.intro|exact rfl|(refine ⟨?_,?_⟩)|(intro h;cases h;done)|fail));done)
    |(rw [hn (by simp; omega)]; rfl)
  rw [List.take_of_length_le (by omega)] at hp
  rw [hp, Bool.true_and]
  clear hp
  conv => whnf
  repeat' (first|((with_reducible refine Split.dec (fun _=>?_) (fun _=>?_))<;>conv=>whnf)|((with_reducible refine Need.mk ?_ ?_);(first|omega|rfl|decide|(refine ⟨?_,?_⟩<;>simp<;>omega)|(simp;omega));conv=>whnf)|(exfalso;first|omega|contradiction)|fail)
  refine LoopK.o2 (fun i : Nat => i ≤ y.deps.length ∧ (y.deps.take i).all (fun b => decide (b.pit.size ≤ 40)) = true) (fun i => [(5, .d (.int .i64 i))]) (fun _ => []) (fun i => y.deps.length - i) 0 ⟨by omega, rfl⟩ (by refine ⟨?_, ?_, rfl⟩<;>(repeat' (first|exact True.intro|exact rfl|(refine ⟨?_,?_⟩)|(intro h;cases h;done)|fail));done) ?_
  rintro i ⟨hi, hp⟩
  by_cases hil : i < y.deps.length
  ·obtain ⟨p, hpi⟩ := some_of_lt hil
   have hn := @all_not9 _ y.deps (fun b => decide (b.pit.size ≤ 40)) i p hpi
   have hy := @all_snoc9 _ y.deps (fun b => decide (b.pit.size ≤ 40)) i p hpi hp
   clear hp
   conv => whnf
   repeat' (first|((refine PickE.map i hpi (by omega) ?_);conv=>whnf)|((with_reducible refine Split.dec (fun _=>?_) (fun _=>?_))<;>conv=>whnf)|((with_reducible refine Need.mk ?_ ?_);(first|omega|rfl|decide|(refine ⟨?_,?_⟩<;>simp<;>omega)|(simp;omega));conv=>whnf)|((with_reducible refine Wr.inr ?_ ?_);(first|omega|(simp;omega));conv=>whnf)|(exfalso;first|omega|contradiction)|fail)
   all_goals first
    | exact Again.au (i + 1) ⟨by omega, hy (by simp;omega)⟩ (by omega) (by refine ⟨?_, ?_, rfl⟩<;>(repeat' (first|exact True.intro|exact rfl|(refine ⟨?_,?_⟩)|(intro h;cases h;done)|fail));done)
    |(rw [hn (by simp; omega)]; rfl)
  rw [List.take_of_length_le (by omega)] at hp
  rw [hp]
  conv => whnf
  repeat' (first|((with_reducible refine Split.dec (fun _=>?_) (fun _=>?_))<;>conv=>whnf)|((with_reducible refine Need.mk ?_ ?_);(first|omega|rfl|decide|(refine ⟨?_,?_⟩<;>simp<;>omega)|(simp;omega));conv=>whnf)|(exfalso;first|omega|contradiction)|fail)
  rfl
end Go.Proofs.Try
end

section
namespace Go.Proofs.Try
open Go Go.Vm
set_option maxRecDepth 20000
set_option maxHeartbeats 8000000
theorem smB {y : Yd} (h : smallB y = true) : SmB y := by
 simp only [smallB, Bool.and_eq_true, List.all_eq_true, decide_eq_true_eq] at h
 obtain ⟨⟨⟨h1, h2⟩, -⟩, -⟩ := h
 obtain ⟨q1, q2, q3, q4⟩ := sm_ok h1
 exact ⟨by omega, by omega, by omega, by omega, fun x hx => (h2 x hx).2⟩
end Go.Proofs.Try
end

section
namespace Go.Proofs.Try
open Go Go.Vm
set_option maxRecDepth 20000
set_option maxHeartbeats 8000000
theorem nmGo_dist {α : Type} {nm : α → ByteArray} {own : α → Int} : ∀ {r o : List α}, nmGo nm own o r = 0 → (∀ x ∈ r, metB nm o (nm x) = false) ∧ r.Pairwise fun a b => nm a ≠ nm b
 | [], _, _ => ⟨fun _ h => (by cases h), List.Pairwise.nil⟩
 | a :: r, o, h => by
  rw [nmGo] at h
  split at h
  ·cases h
  split at h
  ·cases h
  rename_i h2
  split at h
  ·contradiction
  obtain ⟨i1, i2⟩ := nmGo_dist h
  have key : ∀ x ∈ r, metB nm o (nm x) = false ∧ nm a ≠ nm x := fun x hx => by
   have := i1 x hx
   rw [metB, List.any_append, Bool.or_eq_false_iff] at this
   exact ⟨this.1, by simpa using this.2⟩
  refine ⟨fun x hx => ?_, List.pairwise_cons.2 ⟨fun x hx => (key x hx).2, i2⟩⟩
  rcases List.mem_cons.1 hx with rfl | hx
  ·simpa using h2
  ·exact (key x hx).1
theorem yd_dist {y : Yd} (h : ydErr y = 0) : y.pits.Pairwise fun a b => a.name ≠ b.name := by
 unfold ydErr at h
 split at h
 ·cases h
 split at h
 ·contradiction
 rename_i h1
 exact (nmGo_dist (show nmGo Pt.name ptErr [] y.pits = 0 by simpa using h1)).2
theorem pitI_self {y : Yd} (h : ydErr y = 0) {j : Nat} {p : Pt} (hp : y.pits[j]? = some p) : pitI y p.name = j := by
 have hd := yd_dist h
 have e : y.pits.findIdx? (fun q => sEq q.name p.name) = some j := by
  obtain ⟨hj, he⟩ := List.getElem?_eq_some_iff.1 hp
  rw [List.findIdx?_eq_some_iff_getElem]
  refine ⟨hj, by rw [he]; exact sEq_self _, fun i hi => ?_⟩
  have := List.pairwise_iff_getElem.1 hd i j (by omega) hj hi
  rw [he] at this
  rw [sEq_ne this]; decide
 rw [pitI, ixI, e]
end Go.Proofs.Try
end

section
namespace Go.Proofs.Try
open Go Go.Vm
set_option maxRecDepth 20000
set_option maxHeartbeats 8000000
def atI (l : List Bt) (n : Int) : Int := ixI (fun b => b.n == n) l
theorem ev_At9 (l : List Bt) (n : Int) (hn : l.length ≤ 1000000) : Ev Try.prog 57 [.sl 5 (l.map btD), iD n] (iD (atI l n)) := by
 have hlen : (l.map btD).length = l.length := List.length_map _
 refine ev_of_awp tysOk mixed (fn := Try.f57) Try.func57 rfl rfl rfl ?_
 conv => whnf
 skip
 refine LoopK.o2 (fun i : Nat => i ≤ l.length ∧ ∀ g ∈ l.take i, (g.n == n) = false) (fun i => [(5, .d (.int .i64 i))]) (fun _ => []) (fun i => l.length - i) 0 (by simp) (by refine ⟨?_, ?_, rfl⟩<;>(repeat' (first|exact True.intro|exact rfl|(refine ⟨?_,?_⟩)|fail));done) ?_
 rintro i ⟨hi, hp⟩
 by_cases hil : i < l.length
 ·obtain ⟨g, hg⟩ := some_of_lt hil
  conv => whnf
  repeat' (first|((refine PickE.map i hg (by omega) ?_);conv=>whnf)|((with_reducible refine Split.eqz (fun _=>?_) (fun _=>?_))<;>conv=>whnf)|((with_reducible refine Split.dec (fun _=>?_) (fun _=>?_))<;>conv=>whnf)|((with_reducible refine Need.mk ?_ ?_);(first|omega|rfl|decide|(refine ⟨?_,?_⟩<;>simp<;>omega)|(simp;omega));conv=>whnf)|((with_reducible refine Wr.inr ?_ ?_);(first|omega|(simp;omega));conv=>whnf)|(exfalso;first|omega|contradiction)|fail)
  ·have e : l.findIdx? (fun b => b.n == n) = some i := by
    rw [List.findIdx?_eq_some_iff_getElem]
    refine ⟨by omega, by rw [(List.getElem?_eq_some_iff.1 hg).2]; simp; omega, fun j hj => ?_⟩
    have := hp l[j] (List.mem_take_iff_getElem.2 ⟨j, by omega, rfl⟩)
    rw [this]; decide
   rw [atI, ixI, e]; rfl
  ·refine Again.au (i + 1) ⟨by omega, fun z hz => ?_⟩ (by omega) (by refine ⟨?_, ?_, rfl⟩<;>(repeat' (first|exact True.intro|exact rfl|(refine ⟨?_,?_⟩)|fail));done)
   rw [take_snoc hg] at hz
   rcases List.mem_append.1 hz with hz | hz
   ·exact hp z hz
   ·rw [List.mem_singleton.1 hz]; simp; omega
 ·have e : l.findIdx? (fun b => b.n == n) = none := by
   rw [List.findIdx?_eq_none_iff]
   intro z hz
   rw [← List.take_of_length_le (show l.length ≤ i by omega)] at hz
   exact hp z hz
  rw [atI, ixI, e]
  conv => whnf
  repeat' (first|((with_reducible refine Split.dec (fun _=>?_) (fun _=>?_))<;>conv=>whnf)|((with_reducible refine Need.mk ?_ ?_);(first|omega|rfl|decide|(refine ⟨?_,?_⟩<;>simp<;>omega)|(simp;omega));conv=>whnf)|(exfalso;first|omega|contradiction)|fail)
  rfl
theorem any_at {l : List Bt} {n : Int} : l.any (fun b => b.n == n) = decide (¬ atI l n < 0) := any_ix
theorem ev_ListErr (y : Yd) (l : List Bt) (most : Nat) (fresh : Bool) (hl : l.length ≤ 1000000) (hb : y.bulk.length ≤ 1000000) (hd : y.deps.length ≤ 1000000) :
 Ev Try.prog 19 [ydD y, .sl 5 (l.map btD), iD most, .bool fresh] (iD (if most < l.length then 8 else lsGo y (fun n => fresh && depB y n) [] l)) := by
 have hll : (l.map btD).length = l.length := List.length_map _
 by_cases hmo : most < l.length
 ·rw [if_pos hmo]
  refine ev_of_awp tysOk mixed (fn := Try.f19) Try.func19 rfl rfl rfl ?_
  conv => whnf
  repeat' (first|((with_reducible first|refine Split.of_true ?_|refine Split.of_false ?_);conv=>whnf)|(with_reducible refine Split.neg ?_)|((with_reducible refine Split.is_true ?_ ?_);decide;conv=>whnf)|((with_reducible refine Split.is_false ?_ ?_);decide;conv=>whnf)|((with_reducible refine Split.nez (fun _=>?_) (fun _=>?_))<;>conv=>whnf)|((with_reducible refine Split.eqz (fun _=>?_) (fun _=>?_))<;>conv=>whnf)|(with_reducible refine Split.and ?_)|(with_reducible refine Split.or ?_)|((with_reducible refine Split.streq (fun _=>?_) (fun _=>?_))<;>conv=>whnf)|((with_reducible refine Split.dec (fun _=>?_) (fun _=>?_))<;>conv=>whnf)|((with_reducible refine Split.mk (fun _=>?_) (fun _=>?_))<;>conv=>whnf)|((with_reducible refine NilK.mk (fun _=>?_) ?_)<;>conv=>whnf)|((with_reducible refine AltK.l ?_);(conv=>whnf);(with_reducible refine Need.mk ?_ ?_);(first|omega|(refine ⟨?_,?_⟩<;>simp<;>omega)|(simp;omega));conv=>whnf)|((with_reducible refine Need.mk ?_ ?_);(first|omega|rfl|decide|(refine ⟨?_,?_⟩<;>simp<;>omega)|(simp;omega));conv=>whnf)|((with_reducible refine Wr.quo ?_ ?_ ?_ ?_);omega;omega;omega;conv=>whnf)|((with_reducible refine Wr.inr ?_ ?_);(first|omega|(simp;omega));conv=>whnf)|((with_reducible refine Wr.inu ?_ ?_);omega;conv=>whnf)|(exfalso;first|omega|contradiction)|fail)
  all_goals first
   | rfl
   |(exfalso; omega)
 rw [if_neg hmo]
 have e0 : lsGo y (fun n => fresh && depB y n) [] l = lsGo y (fun n => fresh && depB y n) (l.take 0) (l.drop 0) := rfl
 refine ev_of_awp tysOk mixed (fn := Try.f19) Try.func19 rfl rfl rfl ?_
 conv => whnf
 repeat' (first|((with_reducible first|refine Split.of_true ?_|refine Split.of_false ?_);conv=>whnf)|(with_reducible refine Split.neg ?_)|((with_reducible refine Split.is_true ?_ ?_);decide;conv=>whnf)|((with_reducible refine Split.is_false ?_ ?_);decide;conv=>whnf)|((with_reducible refine Split.nez (fun _=>?_) (fun _=>?_))<;>conv=>whnf)|((with_reducible refine Split.eqz (fun _=>?_) (fun _=>?_))<;>conv=>whnf)|(with_reducible refine Split.and ?_)|(with_reducible refine Split.or ?_)|((with_reducible refine Split.streq (fun _=>?_) (fun _=>?_))<;>conv=>whnf)|((with_reducible refine Split.dec (fun _=>?_) (fun _=>?_))<;>conv=>whnf)|((with_reducible refine Split.mk (fun _=>?_) (fun _=>?_))<;>conv=>whnf)|((with_reducible refine NilK.mk (fun _=>?_) ?_)<;>conv=>whnf)|((with_reducible refine AltK.l ?_);(conv=>whnf);(with_reducible refine Need.mk ?_ ?_);(first|omega|(refine ⟨?_,?_⟩<;>simp<;>omega)|(simp;omega));conv=>whnf)|((with_reducible refine Need.mk ?_ ?_);(first|omega|rfl|decide|(refine ⟨?_,?_⟩<;>simp<;>omega)|(simp;omega));conv=>whnf)|((with_reducible refine Wr.quo ?_ ?_ ?_ ?_);omega;omega;omega;conv=>whnf)|((with_reducible refine Wr.inr ?_ ?_);(first|omega|(simp;omega));conv=>whnf)|((with_reducible refine Wr.inu ?_ ?_);omega;conv=>whnf)|(exfalso;first|omega|contradiction)|fail)
 refine LoopK.o2 (fun i : Nat => i ≤ l.length ∧ lsGo y (fun n => fresh && depB y n) [] l = lsGo y (fun n => fresh && depB y n) (l.take i) (l.drop i)) (fun i => [(9, .d (.int .i64 i))]) (fun _ => []) (fun i => l.length - i) 0 ⟨by omega, e0⟩ (by refine ⟨?_, ?_, rfl⟩<;>(repeat' (first|exact True.intro|exact rfl|(refine ⟨?_,?_⟩)|(intro h;cases h;done)|(intro h;exact h)|exact map_snoc|(refine own_congr ?_;simp;done)|(refine int_congr ?_;(first|omega|(simp;omega)))|(simp;done)|fail));done) ?_
 rintro i ⟨hi, hp⟩
 by_cases hil : i < l.length
 ·obtain ⟨b, hbt⟩ := some_of_lt hil
  rw [lsGo_at hbt] at hp
  have w1 := ev_BatchErr y b hb
  have w2 : Ev Try.prog 57 [.sl 5 (((l.map btD).take (i : Int).toNat).drop (0 : Int).toNat), iD b.n] (iD (atI (l.take i) b.n)) := by
   have := ev_At9 (l.take i) b.n (by rw [List.length_take]; omega)
   rw [List.map_take] at this
   exact this
  have w3 : Ev Try.prog 52 [.sl 3 (y.deps.map dpD), iD b.n] (.bool (depB y b.n)) := ev_Deposited y.deps b.n hd
  by_cases hz : batErr y b = 0
  case neg =>
   rw [if_pos hz] at hp
   rw [hp]
   generalize batErr y b = er at *
   conv => whnf
   repeat' (first|((refine PickE.map i hbt (by omega) ?_);conv=>whnf)|((with_reducible first|refine Split.of_true ?_|refine Split.of_false ?_);conv=>whnf)|(with_reducible refine Split.neg ?_)|((with_reducible refine Split.is_true ?_ ?_);decide;conv=>whnf)|((with_reducible refine Split.is_false ?_ ?_);decide;conv=>whnf)|((with_reducible refine Split.nez (fun _=>?_) (fun _=>?_))<;>conv=>whnf)|((with_reducible refine Split.eqz (fun _=>?_) (fun _=>?_))<;>conv=>whnf)|(with_reducible refine Split.and ?_)|(with_reducible refine Split.or ?_)|((with_reducible refine Split.streq (fun _=>?_) (fun _=>?_))<;>conv=>whnf)|((with_reducible refine Split.dec (fun _=>?_) (fun _=>?_))<;>conv=>whnf)|((with_reducible refine Split.mk (fun _=>?_) (fun _=>?_))<;>conv=>whnf)|((with_reducible refine NilK.mk (fun _=>?_) ?_)<;>conv=>whnf)|((with_reducible refine AltK.l ?_);(conv=>whnf);(with_reducible refine Need.mk ?_ ?_);(first|omega|(refine ⟨?_,?_⟩<;>simp<;>omega)|(simp;omega));conv=>whnf)|((with_reducible refine Need.mk ?_ ?_);(first|omega|rfl|decide|(refine ⟨?_,?_⟩<;>simp<;>omega)|(simp;omega));conv=>whnf)|((with_reducible refine Wr.quo ?_ ?_ ?_ ?_);omega;omega;omega;conv=>whnf)|((with_reducible refine Wr.inr ?_ ?_);(first|omega|(simp;omega));conv=>whnf)|((with_reducible refine Wr.inu ?_ ?_);omega;conv=>whnf)|((with_reducible refine AltK.l ?_);(conv=>whnf);(first|(refine CallK.mk _ (w1) ?_));conv=>whnf)|(exfalso;first|omega|contradiction)|fail)
   all_goals first
    | rfl
    |(exfalso; omega)
  rw [if_neg (by simpa using hz)] at hp
  rw [hz] at w1
  rw [any_at] at hp
  generalize atI (l.take i) b.n = ai at *
  generalize depB y b.n = dp at *
  by_cases ha : ai < 0
  ·rw [if_neg (by simpa using ha)] at hp
   cases hf : (fresh && dp) with
   | true =>
    rw [hf, if_pos rfl] at hp
    rw [Bool.and_eq_true] at hf
    obtain ⟨rfl, rfl⟩ := hf
    rw [hp]
    conv => whnf
    repeat' (first|((refine PickE.map i hbt (by omega) ?_);conv=>whnf)|((with_reducible first|refine Split.of_true ?_|refine Split.of_false ?_);conv=>whnf)|(with_reducible refine Split.neg ?_)|((with_reducible refine Split.is_true ?_ ?_);decide;conv=>whnf)|((with_reducible refine Split.is_false ?_ ?_);decide;conv=>whnf)|((with_reducible refine Split.nez (fun _=>?_) (fun _=>?_))<;>conv=>whnf)|((with_reducible refine Split.eqz (fun _=>?_) (fun _=>?_))<;>conv=>whnf)|(with_reducible refine Split.and ?_)|(with_reducible refine Split.or ?_)|((with_reducible refine Split.streq (fun _=>?_) (fun _=>?_))<;>conv=>whnf)|((with_reducible refine Split.dec (fun _=>?_) (fun _=>?_))<;>conv=>whnf)|((with_reducible refine Split.mk (fun _=>?_) (fun _=>?_))<;>conv=>whnf)|((with_reducible refine NilK.mk (fun _=>?_) ?_)<;>conv=>whnf)|((with_reducible refine AltK.l ?_);(conv=>whnf);(with_reducible refine Need.mk ?_ ?_);(first|omega|(refine ⟨?_,?_⟩<;>simp<;>omega)|(simp;omega));conv=>whnf)|((with_reducible refine Need.mk ?_ ?_);(first|omega|rfl|decide|(refine ⟨?_,?_⟩<;>simp<;>omega)|(simp;omega));conv=>whnf)|((with_reducible refine Wr.quo ?_ ?_ ?_ ?_);omega;omega;omega;conv=>whnf)|((with_reducible refine Wr.inr ?_ ?_);(first|omega|(simp;omega));conv=>whnf)|((with_reducible refine Wr.inu ?_ ?_);omega;conv=>whnf)|((with_reducible refine AltK.l ?_);(conv=>whnf);(first|(refine CallK.mk _ (w1) ?_)|(refine CallK.mk _ (w2) ?_)|(refine CallK.mk _ (w3) ?_));conv=>whnf)|(exfalso;first|omega|contradiction)|fail)
    all_goals first
     | rfl
     |(exfalso; omega)
   | false =>
    rw [hf, if_neg (by decide)] at hp
    cases fresh with
    | true =>
     have hdp : dp = false := by simpa using hf
     subst hdp
     conv => whnf
     repeat' (first|((refine PickE.map i hbt (by omega) ?_);conv=>whnf)|((with_reducible first|refine Split.of_true ?_|refine Split.of_false ?_);conv=>whnf)|(with_reducible refine Split.neg ?_)|((with_reducible refine Split.is_true ?_ ?_);decide;conv=>whnf)|((with_reducible refine Split.is_false ?_ ?_);decide;conv=>whnf)|((with_reducible refine Split.nez (fun _=>?_) (fun _=>?_))<;>conv=>whnf)|((with_reducible refine Split.eqz (fun _=>?_) (fun _=>?_))<;>conv=>whnf)|(with_reducible refine Split.and ?_)|(with_reducible refine Split.or ?_)|((with_reducible refine Split.streq (fun _=>?_) (fun _=>?_))<;>conv=>whnf)|((with_reducible refine Split.dec (fun _=>?_) (fun _=>?_))<;>conv=>whnf)|((with_reducible refine Split.mk (fun _=>?_) (fun _=>?_))<;>conv=>whnf)|((with_reducible refine NilK.mk (fun _=>?_) ?_)<;>conv=>whnf)|((with_reducible refine AltK.l ?_);(conv=>whnf);(with_reducible refine Need.mk ?_ ?_);(first|omega|(refine ⟨?_,?_⟩<;>simp<;>omega)|(simp;omega));conv=>whnf)|((with_reducible refine Need.mk ?_ ?_);(first|omega|rfl|decide|(refine ⟨?_,?_⟩<;>simp<;>omega)|(simp;omega));conv=>whnf)|((with_reducible refine Wr.quo ?_ ?_ ?_ ?_);omega;omega;omega;conv=>whnf)|((with_reducible refine Wr.inr ?_ ?_);(first|omega|(simp;omega));conv=>whnf)|((with_reducible refine Wr.inu ?_ ?_);omega;conv=>whnf)|((with_reducible refine AltK.l ?_);(conv=>whnf);(first|(refine CallK.mk _ (w1) ?_)|(refine CallK.mk _ (w2) ?_)|(refine CallK.mk _ (w3) ?_));conv=>whnf)|(exfalso;first|omega|contradiction)|fail)
     all_goals first
      | exact Again.au (i + 1) ⟨by omega, hp⟩ (by omega) (by refine ⟨?_, ?_, rfl⟩<;>(repeat' (first|exact True.intro|exact rfl|(refine ⟨?_,?_⟩)|(intro h;cases h;done)|(intro h;exact h)|exact map_snoc|(refine own_congr ?_;simp;done)|(refine int_congr ?_;(first|omega|(simp;omega)))|(simp;done)|fail));done)
      |(exfalso; omega)
    | false =>
     conv => whnf
     repeat' (first|((refine PickE.map i hbt (by omega) ?_);conv=>whnf)|((with_reducible first|refine Split.of_true ?_|refine Split.of_false ?_);conv=>whnf)|(with_reducible refine Split.neg ?_)|((with_reducible refine Split.is_true ?_ ?_);decide;conv=>whnf)|((with_reducible refine Split.is_false ?_ ?_);decide;conv=>whnf)|((with_reducible refine Split.nez (fun _=>?_) (fun _=>?_))<;>conv=>whnf)|((with_reducible refine Split.eqz (fun _=>?_) (fun _=>?_))<;>conv=>whnf)|(with_reducible refine Split.and ?_)|(with_reducible refine Split.or ?_)|((with_reducible refine Split.streq (fun _=>?_) (fun _=>?_))<;>conv=>whnf)|((with_reducible refine Split.dec (fun _=>?_) (fun _=>?_))<;>conv=>whnf)|((with_reducible refine Split.mk (fun _=>?_) (fun _=>?_))<;>conv=>whnf)|((with_reducible refine NilK.mk (fun _=>?_) ?_)<;>conv=>whnf)|((with_reducible refine AltK.l ?_);(conv=>whnf);(with_reducible refine Need.mk ?_ ?_);(first|omega|(refine ⟨?_,?_⟩<;>simp<;>omega)|(simp;omega));conv=>whnf)|((with_reducible refine Need.mk ?_ ?_);(first|omega|rfl|decide|(refine ⟨?_,?_⟩<;>simp<;>omega)|(simp;omega));conv=>whnf)|((with_reducible refine Wr.quo ?_ ?_ ?_ ?_);omega;omega;omega;conv=>whnf)|((with_reducible refine Wr.inr ?_ ?_);(first|omega|(simp;omega));conv=>whnf)|((with_reducible refine Wr.inu ?_ ?_);omega;conv=>whnf)|((with_reducible refine AltK.l ?_);(conv=>whnf);(first|(refine CallK.mk _ (w1) ?_)|(refine CallK.mk _ (w2) ?_)|(refine CallK.mk _ (w3) ?_));conv=>whnf)|(exfalso;first|omega|contradiction)|fail)
     all_goals first
      | exact Again.au (i + 1) ⟨by omega, hp⟩ (by omega) (by refine ⟨?_, ?_, rfl⟩<;>(repeat' (first|exact True.intro|exact rfl|(refine ⟨?_,?_⟩)|(intro h;cases h;done)|(intro h;exact h)|exact map_snoc|(refine own_congr ?_;simp;done)|(refine int_congr ?_;(first|omega|(simp;omega)))|(simp;done)|fail));done)
      |(exfalso; omega)
  ·rw [if_pos (by simpa using ha)] at hp
   rw [hp]
   cases fresh with
   | true =>
    conv => whnf
    repeat' (first|((refine PickE.map i hbt (by omega) ?_);conv=>whnf)|((with_reducible first|refine Split.of_true ?_|refine Split.of_false ?_);conv=>whnf)|(with_reducible refine Split.neg ?_)|((with_reducible refine Split.is_true ?_ ?_);decide;conv=>whnf)|((with_reducible refine Split.is_false ?_ ?_);decide;conv=>whnf)|((with_reducible refine Split.nez (fun _=>?_) (fun _=>?_))<;>conv=>whnf)|((with_reducible refine Split.eqz (fun _=>?_) (fun _=>?_))<;>conv=>whnf)|(with_reducible refine Split.and ?_)|(with_reducible refine Split.or ?_)|((with_reducible refine Split.streq (fun _=>?_) (fun _=>?_))<;>conv=>whnf)|((with_reducible refine Split.dec (fun _=>?_) (fun _=>?_))<;>conv=>whnf)|((with_reducible refine Split.mk (fun _=>?_) (fun _=>?_))<;>conv=>whnf)|((with_reducible refine NilK.mk (fun _=>?_) ?_)<;>conv=>whnf)|((with_reducible refine AltK.l ?_);(conv=>whnf);(with_reducible refine Need.mk ?_ ?_);(first|omega|(refine ⟨?_,?_⟩<;>simp<;>omega)|(simp;omega));conv=>whnf)|((with_reducible refine Need.mk ?_ ?_);(first|omega|rfl|decide|(refine ⟨?_,?_⟩<;>simp<;>omega)|(simp;omega));conv=>whnf)|((with_reducible refine Wr.quo ?_ ?_ ?_ ?_);omega;omega;omega;conv=>whnf)|((with_reducible refine Wr.inr ?_ ?_);(first|omega|(simp;omega));conv=>whnf)|((with_reducible refine Wr.inu ?_ ?_);omega;conv=>whnf)|((with_reducible refine AltK.l ?_);(conv=>whnf);(first|(refine CallK.mk _ (w1) ?_)|(refine CallK.mk _ (w2) ?_)|(refine CallK.mk _ (w3) ?_));conv=>whnf)|(exfalso;first|omega|contradiction)|fail)
    all_goals first
     | rfl
     |(exfalso; omega)
   | false =>
    conv => whnf
    repeat' (first|((refine PickE.map i hbt (by omega) ?_);conv=>whnf)|((with_reducible first|refine Split.of_true ?_|refine Split.of_false ?_);conv=>whnf)|(with_reducible refine Split.neg ?_)|((with_reducible refine Split.is_true ?_ ?_);decide;conv=>whnf)|((with_reducible refine Split.is_false ?_ ?_);decide;conv=>whnf)|((with_reducible refine Split.nez (fun _=>?_) (fun _=>?_))<;>conv=>whnf)|((with_reducible refine Split.eqz (fun _=>?_) (fun _=>?_))<;>conv=>whnf)|(with_reducible refine Split.and ?_)|(with_reducible refine Split.or ?_)|((with_reducible refine Split.streq (fun _=>?_) (fun _=>?_))<;>conv=>whnf)|((with_reducible refine Split.dec (fun _=>?_) (fun _=>?_))<;>conv=>whnf)|((with_reducible refine Split.mk (fun _=>?_) (fun _=>?_))<;>conv=>whnf)|((with_reducible refine NilK.mk (fun _=>?_) ?_)<;>conv=>whnf)|((with_reducible refine AltK.l ?_);(conv=>whnf);(with_reducible refine Need.mk ?_ ?_);(first|omega|(refine ⟨?_,?_⟩<;>simp<;>omega)|(simp;omega));conv=>whnf)|((with_reducible refine Need.mk ?_ ?_);(first|omega|rfl|decide|(refine ⟨?_,?_⟩<;>simp<;>omega)|(simp;omega));conv=>whnf)|((with_reducible refine Wr.quo ?_ ?_ ?_ ?_);omega;omega;omega;conv=>whnf)|((with_reducible refine Wr.inr ?_ ?_);(first|omega|(simp;omega));conv=>whnf)|((with_reducible refine Wr.inu ?_ ?_);omega;conv=>whnf)|((with_reducible refine AltK.l ?_);(conv=>whnf);(first|(refine CallK.mk _ (w1) ?_)|(refine CallK.mk _ (w2) ?_)|(refine CallK.mk _ (w3) ?_));conv=>whnf)|(exfalso;first|omega|contradiction)|fail)
    all_goals first
     | rfl
     |(exfalso; omega)
 ·rw [List.drop_eq_nil_of_le (show l.length ≤ i by omega)] at hp
  rw [hp]
  conv => whnf
  repeat' (first|((with_reducible first|refine Split.of_true ?_|refine Split.of_false ?_);conv=>whnf)|(with_reducible refine Split.neg ?_)|((with_reducible refine Split.is_true ?_ ?_);decide;conv=>whnf)|((with_reducible refine Split.is_false ?_ ?_);decide;conv=>whnf)|((with_reducible refine Split.nez (fun _=>?_) (fun _=>?_))<;>conv=>whnf)|((with_reducible refine Split.eqz (fun _=>?_) (fun _=>?_))<;>conv=>whnf)|(with_reducible refine Split.and ?_)|(with_reducible refine Split.or ?_)|((with_reducible refine Split.streq (fun _=>?_) (fun _=>?_))<;>conv=>whnf)|((with_reducible refine Split.dec (fun _=>?_) (fun _=>?_))<;>conv=>whnf)|((with_reducible refine Split.mk (fun _=>?_) (fun _=>?_))<;>conv=>whnf)|((with_reducible refine NilK.mk (fun _=>?_) ?_)<;>conv=>whnf)|((with_reducible refine AltK.l ?_);(conv=>whnf);(with_reducible refine Need.mk ?_ ?_);(first|omega|(refine ⟨?_,?_⟩<;>simp<;>omega)|(simp;omega));conv=>whnf)|((with_reducible refine Need.mk ?_ ?_);(first|omega|rfl|decide|(refine ⟨?_,?_⟩<;>simp<;>omega)|(simp;omega));conv=>whnf)|((with_reducible refine Wr.quo ?_ ?_ ?_ ?_);omega;omega;omega;conv=>whnf)|((with_reducible refine Wr.inr ?_ ?_);(first|omega|(simp;omega));conv=>whnf)|((with_reducible refine Wr.inu ?_ ?_);omega;conv=>whnf)|(exfalso;first|omega|contradiction)|fail)
  rfl
end Go.Proofs.Try
end

section
namespace Go.Proofs.Try
open Go Go.Vm
set_option maxRecDepth 20000
set_option maxHeartbeats 8000000
theorem ev_batchOf1 (b : Bt) (n : Int) : Ev Try.prog 100 [btD b, .ref [iD n] 0] (.bool (b.n == n)) := by
 refine ev_of_awp tysOk mixed (fn := Try.f100) Try.func100 rfl rfl rfl ?_
 conv => whnf
 skip
 rfl
theorem ev_judged (b : Bool) : Ev Try.prog 48 [.bool b] (iD (if b = true then 0 else 21)) := by
 cases b with
 | true =>
  refine ev_of_awp tysOk mixed (fn := Try.f48) Try.func48 rfl rfl rfl ?_
  conv => whnf
  repeat' (first|((with_reducible refine Split.of_true ?_);conv=>whnf)|(with_reducible refine Split.neg ?_)|fail)
  rfl
 | false =>
  refine ev_of_awp tysOk mixed (fn := Try.f48) Try.func48 rfl rfl rfl ?_
  conv => whnf
  repeat' (first|((with_reducible refine Split.of_false ?_);conv=>whnf)|(with_reducible refine Split.neg ?_)|fail)
  rfl
end Go.Proofs.Try
end

section
namespace Go.Proofs.Try
open Go Go.Vm
set_option maxRecDepth 20000
section
variable {acc : Nat → Nat → Bool} {P L : Nat} {vol room : List Int} {fl : List (List Int)}
theorem cut_weak (h : FlOk acc P L vol room fl) (A : Nat → Bool) : needS L vol A - restS L vol fl A ≤ haveS acc P L room A := by
 rw [out_sum h A, haveS]
 refine sumN_le fun p hp => ?_
 split
 ·have h1 := h.fr p hp
  rw [free_sum h.dim] at h1
  have h2 : sumN L (fun b => if A b = true then cellZ fl b p else 0) ≤ sumN L fun b => cellZ fl b p := sumN_le fun b _ => by
   have := h.nn b p
   split <;> omega
  omega
 ·exact Int.le_refl _
end
end Go.Proofs.Try
end

section
namespace Go.Proofs.Try
open Go Go.Vm
set_option maxRecDepth 20000
theorem no_cut {acc : Nat → Nat → Bool} {P L : Nat} {vol room : List Int} {fl : List (List Int)} (h : FlOk acc P L vol room fl) (hd : doneF L vol fl = true) (A : Nat → Bool) : needS L vol A ≤ haveS acc P L room A := by
 have h1 := cut_weak h A
 have h2 : restS L vol fl A = 0 := (sumN_congr fun b hb => by
  have h3 := h.lf b hb
  have h4 := done_iff.1 hd b hb
  show (if A b = true then leftF vol fl b else 0) = 0
  split <;> omega).trans sumN_zero
 omega
end Go.Proofs.Try
end

section
namespace Go.Proofs.Try
open Go Go.Vm
set_option maxRecDepth 20000
theorem sumN_hit {c : Int} {k : Nat} : ∀ {n : Nat}, sumN n (fun i => if i = k then c else 0) = if k < n then c else 0
 | 0 => by simp [sumN]
 | n + 1 => by
  rw [sumN, sumN_hit (n := n)]
  by_cases h1 : n = k
  ·subst h1; simp
  ·rw [if_neg h1]
   by_cases h2 : k < n
   ·rw [if_pos h2, if_pos (by omega)]; omega
   ·rw [if_neg h2, if_neg (by omega)]; rfl
section
variable {acc : Nat → Nat → Bool} {P L : Nat} {vol room : List Int} {ix : Int → Int}
def cutP (acc : Nat → Nat → Bool) (room : List Int) (b : Nat) (s : List Nat × Int) (p : Nat) : List Nat × Int :=
 if acc p b = false then s else if s.1.any (fun y => (y : Int) == (p : Int)) = true then s else (s.1 ++ [p], s.2 + room.getD p 0)
def cutR (acc : Nat → Nat → Bool) (P : Nat) (room : List Int) (b : Nat) (s : List Nat × Int) : List Nat × Int := (List.range P).foldl (cutP acc room b) s
def cutGo (acc : Nat → Nat → Bool) (P : Nat) (vol room : List Int) (ix : Int → Int) : List Int → Int → List Nat × Int → List Int → Option (Int × Int)
 | _, need, s, [] => some (need, s.2)
 | o, need, s, n :: r => if ix n < 0 then none else if o.any (fun c => c == n) = true then none
  else cutGo acc P vol room ix (o ++ [n]) (need + vol.getD (ix n).toNat 0) (cutR acc P room (ix n).toNat s) r
def cutB (acc : Nat → Nat → Bool) (P : Nat) (vol room : List Int) (ix : Int → Int) (cut : List Int) : Bool := match cutGo acc P vol room ix [] 0 ([], 0) cut with
 | none => false
 | some r => decide (r.2 < r.1)
def rcGo (vol : List Int) (ix : Int → Int) : List Int → Int → List Int → Option Int
 | _, need, [] => some need
 | o, need, n :: r => if ix n < 0 then none else if o.any (fun c => c == n) = true then none
  else rcGo vol ix (o ++ [n]) (need + vol.getD (ix n).toNat 0) r
def opnC (acc : Nat → Nat → Bool) (ix : Int → Int) (cut : List Int) (p : Nat) : Bool := cut.any fun n => acc p (ix n).toNat
def rcB (acc : Nat → Nat → Bool) (P : Nat) (vol room : List Int) (ix : Int → Int) (cut : List Int) : Bool := match rcGo vol ix [] 0 cut with
 | none => false
 | some need => decide (sumN P (fun p => if opnC acc ix cut p = true then room.getD p 0 else 0) < need)
def inC (ix : Int → Int) (o : List Int) (b : Nat) : Bool := o.any fun n => ix n == (b : Int)
structure CutJ (P : Nat) (room : List Int) (Q : Nat → Bool) (s : List Nat × Int) : Prop where
 mem : ∀ p, p < P → (p ∈ s.1 ↔ Q p = true)
 sum : s.2 = sumN P fun p => if Q p = true then room.getD p 0 else 0
theorem cutP_ok {Q : Nat → Bool} {s : List Nat × Int} {b p : Nat} (h : CutJ P room Q s) (hp : p < P) : CutJ P room (fun q => Q q || (q == p && acc q b)) (cutP acc room b s p) := by
 unfold cutP
 cases ha : acc p b with
 | false =>
  rw [if_pos rfl]
  have e : ∀ q, (Q q || (q == p && acc q b)) = Q q := fun q => by
   by_cases hq : q = p
   ·subst hq; rw [ha]; simp
   ·have : (q == p) = false := by simpa using hq
    rw [this]; simp
  exact ⟨fun q hq => by rw [e]; exact h.mem q hq, by simp only [e]; exact h.sum⟩
 | true =>
  rw [if_neg (by decide)]
  have hm := h.mem p hp
  have hany : s.1.any (fun y => (y : Int) == (p : Int)) = true ↔ p ∈ s.1 := by
   rw [List.any_eq_true]
   constructor
   ·rintro ⟨y, hy, he⟩
    have : y = p := by have := eq_of_beq he; omega
    rw [← this]; exact hy
   ·exact fun hy => ⟨p, hy, by simp⟩
  by_cases hin : p ∈ s.1
  ·rw [if_pos (hany.2 hin)]
   have hQ := hm.1 hin
   have e : ∀ q, (Q q || (q == p && acc q b)) = Q q := fun q => by
    by_cases hq : q = p
    ·subst hq; rw [hQ]; simp
    ·have : (q == p) = false := by simpa using hq
     rw [this]; simp
   exact ⟨fun q hq => by rw [e]; exact h.mem q hq, by simp only [e]; exact h.sum⟩
  ·rw [if_neg (fun hh => hin (hany.1 hh))]
   have hQ : Q p = false := by
    cases hc : Q p with
    | false => rfl
    | true => exact absurd (hm.2 hc) hin
   refine ⟨fun q hq => ?_, ?_⟩
   ·dsimp only
    rw [List.mem_append, List.mem_singleton, h.mem q hq]
    by_cases hqp : q = p
    ·subst hqp; simp [ha]
    ·simp [hqp]
   ·dsimp only
    have e : (fun q => if (Q q || (q == p && acc q b)) = true then room.getD q 0 else 0) = fun q => (if Q q = true then room.getD q 0 else 0) + if q = p then room.getD p 0 else 0 := by
     funext q
     by_cases hqp : q = p
     ·subst hqp; rw [hQ, ha]; simp
     ·rw [if_neg hqp]
      have : (q == p) = false := by simpa using hqp
      rw [this]; simp
    rw [e, sumN_add, sumN_hit, if_pos hp, h.sum]
theorem cutR_at {Q : Nat → Bool} {s : List Nat × Int} {b : Nat} (h : CutJ P room Q s) : ∀ i, i ≤ P → CutJ P room (fun q => Q q || (decide (q < i) && acc q b)) ((List.range i).foldl (cutP acc room b) s)
 | 0, _ => by
  have e : (fun q => Q q || (decide (q < 0) && acc q b)) = Q := by funext q; simp
  rw [e]; exact h
 | i + 1, hi => by
  have ih := cutP_ok (acc := acc) (b := b) (cutR_at (b := b) h i (by omega)) (show i < P by omega)
  rw [List.range_succ, List.foldl_append]
  have e : (fun q => Q q || (decide (q < i + 1) && acc q b)) = fun q => (Q q || (decide (q < i) && acc q b)) || (q == i && acc q b) := by
   funext q
   by_cases h1 : q < i
   ·have : ¬ q = i := by omega
    simp [h1, this, show q < i + 1 by omega]
   ·by_cases h2 : q = i
    ·subst h2; simp
    ·simp [h1, h2, show ¬ q < i + 1 by omega]
  rw [e]; exact ih
structure IxOk (ix : Int → Int) (L : Nat) : Prop where
 lt : ∀ n, ix n < L
 inj : ∀ n m, 0 ≤ ix n → ix n = ix m → n = m
theorem inC_snoc {o : List Int} {n : Int} {b : Nat} : inC ix (o ++ [n]) b = (inC ix o b || ix n == (b : Int)) := by
 simp [inC]
theorem opn_snoc (hix : IxOk ix L) {o : List Int} {n : Int} (hn : 0 ≤ ix n) {p : Nat} : openB acc L (inC ix (o ++ [n])) p = (openB acc L (inC ix o) p || acc p (ix n).toNat) := by
 have hl := hix.lt n
 rw [Bool.eq_iff_iff, Bool.or_eq_true, openB, openB, List.any_eq_true, List.any_eq_true]
 constructor
 ·rintro ⟨b, hb, h⟩
  rw [inC_snoc, Bool.and_eq_true, Bool.or_eq_true] at h
  rcases h.1 with h1 | h1
  ·exact .inl ⟨b, hb, by rw [h1, h.2]; rfl⟩
  ·have : (ix n).toNat = b := by have := eq_of_beq h1; omega
   rw [this]; exact .inr h.2
 ·rintro (⟨b, hb, h⟩ | h)
  ·rw [Bool.and_eq_true] at h
   exact ⟨b, hb, by rw [inC_snoc, h.1, h.2]; rfl⟩
  ·exact ⟨(ix n).toNat, List.mem_range.2 (by omega), by
    have : (ix n == ((ix n).toNat : Int)) = true := by simp; omega
    rw [inC_snoc, this, h]; simp⟩
theorem need_snoc (hix : IxOk ix L) {o : List Int} {n : Int} (hn : 0 ≤ ix n) (hno : ¬ o.any (fun c => c == n) = true) : needS L vol (inC ix (o ++ [n])) = needS L vol (inC ix o) + vol.getD (ix n).toNat 0 := by
 have hl := hix.lt n
 unfold needS
 have e : (fun b => if inC ix (o ++ [n]) b = true then vol.getD b 0 else 0) = fun b => (if inC ix o b = true then vol.getD b 0 else 0) + if b = (ix n).toNat then vol.getD (ix n).toNat 0 else 0 := by
  funext b
  by_cases hb : b = (ix n).toNat
  ·subst hb
   have h1 : (ix n == ((ix n).toNat : Int)) = true := by simp; omega
   have h2 : inC ix o (ix n).toNat = false := by
    rw [inC, List.any_eq_false]
    intro m hm he
    have h3 : ix m = ix n := by have := eq_of_beq he; omega
    have h4 := hix.inj n m hn h3.symm
    exact hno (List.any_eq_true.2 ⟨m, hm, by rw [h4]; simp⟩)
   rw [inC_snoc, h1, h2]; simp
  ·have h1 : (ix n == (b : Int)) = false := by simp; omega
   rw [inC_snoc, h1, if_neg hb]; simp
 rw [e, sumN_add, sumN_hit, if_pos (by omega)]
theorem cutGo_eq (hix : IxOk ix L) : ∀ {r o : List Int} {need : Int} {s : List Nat × Int}, need = needS L vol (inC ix o) → CutJ P room (openB acc L (inC ix o)) s →
 cutGo acc P vol room ix o need s r = (rcGo vol ix o need r).map (fun n => (n, haveS acc P L room (inC ix (o ++ r)))) ∧ ∀ n, rcGo vol ix o need r = some n → n = needS L vol (inC ix (o ++ r))
 | [], o, need, s, hn, hs => by
  rw [cutGo, rcGo, List.append_nil]
  refine ⟨by rw [Option.map_some, hs.sum]; rfl, fun n h => by cases h; exact hn⟩
 | n :: r, o, need, s, hn, hs => by
  rw [cutGo, rcGo]
  by_cases h1 : ix n < 0
  ·rw [if_pos h1, if_pos h1]; exact ⟨rfl, fun _ h => (by cases h)⟩
  rw [if_neg h1, if_neg h1]
  by_cases h2 : o.any (fun c => c == n) = true
  ·rw [if_pos h2, if_pos h2]; exact ⟨rfl, fun _ h => (by cases h)⟩
  rw [if_neg h2, if_neg h2]
  have hj := cutR_at (acc := acc) (b := (ix n).toNat) hs P (Nat.le_refl _)
  have e : ∀ q, q < P → (openB acc L (inC ix o) q || (decide (q < P) && acc q (ix n).toNat)) = openB acc L (inC ix (o ++ [n])) q := fun q hq => by
   rw [opn_snoc hix (by omega)]; simp [hq]
  have hj2 : CutJ P room (openB acc L (inC ix (o ++ [n]))) (cutR acc P room (ix n).toNat s) := ⟨fun p hp => by rw [← e p hp]; exact hj.mem p hp, by
   rw [cutR, hj.sum]; exact sumN_congr fun q hq => by rw [e q hq]⟩
  have ih := cutGo_eq hix (r := r) (need := need + vol.getD (ix n).toNat 0) (by rw [hn, need_snoc hix (by omega) h2]) hj2
  rw [List.append_assoc] at ih
  exact ih
theorem have_opn (hix : IxOk ix L) {cut : List Int} (hc : ∀ n ∈ cut, 0 ≤ ix n) : haveS acc P L room (inC ix cut) = sumN P (fun p => if opnC acc ix cut p = true then room.getD p 0 else 0) := by
 refine sumN_congr fun p _ => ?_
 have : openB acc L (inC ix cut) p = opnC acc ix cut p := by
  rw [Bool.eq_iff_iff, openB, opnC, List.any_eq_true, List.any_eq_true]
  constructor
  ·rintro ⟨b, hb, h⟩
   rw [Bool.and_eq_true, inC, List.any_eq_true] at h
   obtain ⟨⟨n, hn, he⟩, h⟩ := h
   have : (ix n).toNat = b := by have := eq_of_beq he; omega
   exact ⟨n, hn, by rw [this]; exact h⟩
  ·rintro ⟨n, hn, h⟩
   have h1 := hix.lt n
   have h2 := hc n hn
   refine ⟨(ix n).toNat, List.mem_range.2 (by omega), ?_⟩
   rw [Bool.and_eq_true]
   exact ⟨List.any_eq_true.2 ⟨n, hn, by simp; omega⟩, h⟩
 rw [this]
theorem rcGo_nn {vol : List Int} {ix : Int → Int} : ∀ {r o : List Int} {need z : Int}, rcGo vol ix o need r = some z → ∀ n ∈ r, 0 ≤ ix n
 | [], _, _, _, _ => fun _ h => (by cases h)
 | n :: r, o, need, z, h => by
  rw [rcGo] at h
  split at h
  ·cases h
  split at h
  ·cases h
  intro m hm
  rcases List.mem_cons.1 hm with rfl | hm
  ·omega
  ·exact rcGo_nn h m hm
theorem cut_eq (hix : IxOk ix L) (cut : List Int) : cutB acc P vol room ix cut = rcB acc P vol room ix cut := by
 have hJ : CutJ P room (openB acc L (inC ix [])) ([], 0) := by
  have e : ∀ p, openB acc L (inC ix []) p = false := fun p => by
   rw [openB, List.any_eq_false]; intro b _; simp [inC]
  refine ⟨fun p _ => by rw [e]; simp, ?_⟩
  simp only [e]
  exact sumN_zero.symm
 have h0 : (0 : Int) = needS L vol (inC ix []) := by
  unfold needS
  have e : ∀ b, inC ix [] b = false := fun b => rfl
  simp only [e]
  exact sumN_zero.symm
 have h := cutGo_eq (acc := acc) (P := P) (room := room) hix (r := cut) h0 hJ
 rw [cutB, rcB, h.1]
 cases hr : rcGo vol ix [] 0 cut with
 | none => rfl
 | some z =>
  rw [Option.map_some, List.nil_append, have_opn hix (rcGo_nn hr)]
theorem cut_says (hix : IxOk ix L) {cut : List Int} (h : cutB acc P vol room ix cut = true) : haveS acc P L room (inC ix cut) < needS L vol (inC ix cut) := by
 rw [cut_eq hix] at h
 rw [rcB] at h
 have hJ : CutJ P room (openB acc L (inC ix [])) ([], 0) := by
  have e : ∀ p, openB acc L (inC ix []) p = false := fun p => by
   rw [openB, List.any_eq_false]; intro b _; simp [inC]
  refine ⟨fun p _ => by rw [e]; simp, ?_⟩
  simp only [e]
  exact sumN_zero.symm
 have h0 : (0 : Int) = needS L vol (inC ix []) := by
  unfold needS
  have e : ∀ b, inC ix [] b = false := fun b => rfl
  simp only [e]
  exact sumN_zero.symm
 have h2 := (cutGo_eq (acc := acc) (P := P) (room := room) hix (r := cut) h0 hJ).2
 cases hr : rcGo vol ix [] 0 cut with
 | none => rw [hr] at h; cases h
 | some z =>
  rw [hr] at h
  have := h2 z hr
  rw [List.nil_append] at this
  rw [← this, have_opn hix (rcGo_nn hr)]
  simpa using h
end
end Go.Proofs.Try
end

section
namespace Go.Proofs.Try
open Go Go.Vm
set_option maxRecDepth 20000
section
variable {acc : Nat → Nat → Bool} {P L : Nat} {vol room : List Int} {ib : Int → Int} {ip : ByteArray → Int}
def asgGo (acc : Nat → Nat → Bool) (ib : Int → Int) (ip : ByteArray → Int) : List Int → List Int → List (Int × Int) → List Al → Option (List Int)
 | vol, _, _, [] => some vol
 | vol, room, seen, a :: r =>
  if ib a.n < 0 ∨ ip a.pit < 0 ∨ a.vol ≤ 0 then none
  else if acc (ip a.pit).toNat (ib a.n).toNat = false then none
  else if (ib a.n, ip a.pit) ∈ seen then none
  else if vol.getD (ib a.n).toNat 0 < a.vol ∨ room.getD (ip a.pit).toNat 0 < a.vol then none
  else asgGo acc ib ip (vol.set (ib a.n).toNat (vol.getD (ib a.n).toNat 0 - a.vol)) (room.set (ip a.pit).toNat (room.getD (ip a.pit).toNat 0 - a.vol)) (seen ++ [(ib a.n, ip a.pit)]) r
def asgB (acc : Nat → Nat → Bool) (ib : Int → Int) (ip : ByteArray → Int) (vol room : List Int) (x : List Al) : Bool := match asgGo acc ib ip vol room [] x with
 | none => false
 | some v => !v.any fun z => z != 0
theorem sumA_nil {q : Al → Bool} : sumA q [] = 0 := rfl
theorem sumA_nn {q : Al → Bool} : ∀ {x : List Al}, (∀ a ∈ x, 0 < a.vol) → 0 ≤ sumA q x
 | [], _ => by simp [sumA]
 | a :: r, h => by
  have h1 := h a (by simp)
  have h2 := sumA_nn (q := q) (x := r) fun b hb => h b (List.mem_cons_of_mem _ hb)
  rw [sumA_cons]
  split <;> omega
theorem set_at {v : List Int} {i : Int} (h0 : 0 ≤ i) (h1 : i < v.length) (z : Int) (b : Nat) : (v.set i.toNat z).getD b 0 = if (i == (b : Int)) = true then z else v.getD b 0 := by
 rw [getD_set9 (by omega)]
 by_cases e : i.toNat = b
 ·rw [if_pos e, if_pos (by simp; omega)]
 ·rw [if_neg e, if_neg (by simp; omega)]
theorem any_ne {v : List Int} : (v.any fun z => z != 0) = false ↔ ∀ b, b < v.length → 0 = v.getD b 0 := by
 rw [List.any_eq_false]
 constructor
 ·intro h b hb
  have := h v[b] (List.getElem_mem _)
  rw [List.getD_eq_getElem?_getD, List.getElem?_eq_getElem hb, Option.getD_some]
  simp at this; omega
 ·intro h z hz
  obtain ⟨b, hb, rfl⟩ := List.getElem_of_mem hz
  have := h b hb
  rw [List.getD_eq_getElem?_getD, List.getElem?_eq_getElem hb, Option.getD_some] at this
  simp; omega
theorem asg_chr (hib : ∀ n, ib n < L) (hip : ∀ s, ip s < P) : ∀ {x : List Al} {v rm : List Int} {seen : List (Int × Int)}, v.length = L → rm.length = P → (∀ p, p < P → 0 ≤ rm.getD p 0) →
 ((∃ v', asgGo acc ib ip v rm seen x = some v' ∧ (v'.any fun z => z != 0) = false) ↔ Chr acc ib ip P L (fun b => v.getD b 0) (fun p => rm.getD p 0) seen x)
 | [], v, rm, seen, hv, hr, h0 => by
  constructor
  ·rintro ⟨v', h1, h2⟩
   rw [asgGo] at h1
   cases h1
   exact ⟨by simp, by simp, by simp, fun b hb => any_ne.1 h2 b (by omega), h0⟩
  ·intro h
   exact ⟨v, rfl, any_ne.2 fun b hb => h.sb b (by omega)⟩
 | a :: r, v, rm, seen, hv, hr, h0 => by
  have hb := hib a.n
  have hp := hip a.pit
  have key : 0 ≤ ib a.n → 0 ≤ ip a.pit → Vld acc ib ip a → (ib a.n, ip a.pit) ∉ seen → a.vol ≤ rm.getD (ip a.pit).toNat 0 →
   ((∃ v', asgGo acc ib ip (v.set (ib a.n).toNat (v.getD (ib a.n).toNat 0 - a.vol)) (rm.set (ip a.pit).toNat (rm.getD (ip a.pit).toNat 0 - a.vol)) (seen ++ [(ib a.n, ip a.pit)]) r = some v' ∧ (v'.any fun z => z != 0) = false) ↔
     Chr acc ib ip P L (fun b => v.getD b 0) (fun p => rm.getD p 0) seen (a :: r)) := fun k1 k2 k3 k4 k5 => by
   rw [asg_chr hib hip (by rw [List.length_set]; exact hv) (by rw [List.length_set]; exact hr) (fun p hp' => by
    rw [set_at k2 (by omega)]
    have := h0 p hp'
    split <;> omega)]
   refine (Chr.cons (acc := acc) (ib := ib) (ip := ip) hb hp k3 k4 (fun b hb' => ?_) fun p hp' => ?_).symm
   ·rw [set_at k1 (by omega)]
    split
    ·rename_i e
     have : (ib a.n).toNat = b := by have := eq_of_beq e; omega
     rw [this]
    ·omega
   ·rw [set_at k2 (by omega)]
    split
    ·rename_i e
     have : (ip a.pit).toNat = p := by have := eq_of_beq e; omega
     rw [this]
    ·omega
  constructor
  ·rintro ⟨v', h1, h2⟩
   rw [asgGo] at h1
   split at h1
   ·cases h1
   rename_i c1
   split at h1
   ·cases h1
   rename_i c2
   split at h1
   ·cases h1
   rename_i c3
   split at h1
   ·cases h1
   rename_i c4
   exact (key (by omega) (by omega) ⟨by omega, by omega, by omega, by simpa using c2⟩ c3 (by omega)).1 ⟨v', h1, h2⟩
  ·intro h
   have hk := h.ok a (by simp)
   have k1 := hk.b
   have k2 := hk.p
   have k3 := hk.v
   have hs := h.ns a (by simp)
   have hrp : ∀ c ∈ r, 0 < c.vol := fun c hc => (h.ok c (List.mem_cons_of_mem _ hc)).v
   have s1 := h.sb (ib a.n).toNat (by omega)
   have s2 := h.sp (ip a.pit).toNat (by omega)
   rw [sumA_cons, if_pos (by simp; omega)] at s1 s2
   have n1 := sumA_nn (q := fun c => ib c.n == ((ib a.n).toNat : Int)) hrp
   have n2 := sumA_nn (q := fun c => ip c.pit == ((ip a.pit).toNat : Int)) hrp
   rw [asgGo, if_neg (by omega), if_neg (by rw [hk.ac]; decide), if_neg hs, if_neg (by omega)]
   exact (key k1 k2 hk hs (by omega)).2 h
theorem asgB_chr (hib : ∀ n, ib n < L) (hip : ∀ s, ip s < P) (hv : vol.length = L) (hr : room.length = P) (h0 : ∀ p, p < P → 0 ≤ room.getD p 0) (x : List Al) :
 asgB acc ib ip vol room x = true ↔ Chr acc ib ip P L (fun b => vol.getD b 0) (fun p => room.getD p 0) [] x := by
 rw [← asg_chr hib hip hv hr h0, asgB]
 constructor
 ·intro h
  split at h
  ·cases h
  ·rename_i v hv
   exact ⟨v, hv, by simpa using h⟩
 ·rintro ⟨v, h1, h2⟩
  rw [h1]
  simp only [h2]; rfl
end
end Go.Proofs.Try
end
