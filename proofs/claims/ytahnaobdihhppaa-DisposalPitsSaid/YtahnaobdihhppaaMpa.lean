/- Texts TwB TwC TwF TwM DpC DpE DpF DpK DpL DpM DpN DpO DpP TwZ, joined; what is not needed is left out. -/
import Derived.Test.YtahnaobdihhppaaProg
import Derived.Test.YtahnaobdihhppaaMgH
import Derived.Test.YtahnaobdihhppaaMgI
import Derived.Test.YtahnaobdihhppaaMgJ
import Derived.Test.YtahnaobdihhppaaMcd
section
namespace Go.Proofs.Try
open Go Go.Vm
set_option maxRecDepth 20000
set_option maxHeartbeats 2000000
def upZ (a b : Int) : Int := -(-a / b)
theorem ediv_bd {a b M : Int} (hb : 0 < b) (h : -M ≤ a ∧ a ≤ M) : -M ≤ a / b ∧ a / b ≤ M := by
 have h1 := Int.emod_add_mul_ediv a b
 have h2 := Int.emod_nonneg a (Int.ne_of_gt hb)
 have h3 := Int.emod_lt_of_pos a hb
 constructor
 ·refine (Int.le_ediv_iff_mul_le hb).2 ?_
  have : -M * b ≤ -M * 1 := Int.mul_le_mul_of_nonpos_left (by omega) (by omega)
  omega
 ·refine Int.ediv_le_of_le_mul hb ?_
  have : M * 1 ≤ M * b := Int.mul_le_mul_of_nonneg_left (by omega) (by omega)
  omega
theorem badAt_iff {s : ByteArray} {i : Nat} : badAt s i = true ↔ ¬ ((97 ≤ bAt s (i : Int).toNat ∧ bAt s (i : Int).toNat ≤ 122) ∨ (65 ≤ bAt s (i : Int).toNat ∧ bAt s (i : Int).toNat ≤ 90)) ∧
 (i = 0 ∨ ¬ ((48 ≤ bAt s (i : Int).toNat ∧ bAt s (i : Int).toNat ≤ 57) ∨ bAt s (i : Int).toNat = 45)) := by
 have e : bAt s (i : Int).toNat = bAt s i := rfl
 rw [e]
 generalize hc : bAt s i = c
 simp only [badAt, hc, letterZ, otherZ, Bool.and_eq_true, Bool.not_eq_true', Bool.or_eq_true, Bool.or_eq_false_iff, Bool.and_eq_false_iff, decide_eq_true_eq, decide_eq_false_iff_not]
 omega
end Go.Proofs.Try
end

section
namespace Go.Proofs.Try
open Go Go.Vm
set_option maxRecDepth 20000
set_option maxHeartbeats 2000000
theorem ev_IsName (s : ByteArray) : Ev Try.prog 110 [.str s] (.bool (nameB s)) := by
 refine ev_of_awp tysOk mixed (fn := Try.f110) Try.func110 rfl rfl rfl ?_
 conv => whnf
 repeat' (first|((with_reducible refine Split.of_true ?_);conv=>whnf)|((with_reducible refine Split.dec (fun _=>?_) (fun _=>?_))<;>conv=>whnf)|fail)
 ·have : s.size = 0 := by omega
  simp_all [retOf, nameB]
 ·simp_all [retOf, nameB] <;> omega
 refine LoopK.mk (fun i => i ≤ s.size ∧ ∀ k, k < i → badAt s k = false)
  (fun i => ⟨[(2, .d (.bool false)), (3, .d (.int .i64 i)), (0, .d (.str s))], []⟩)
  (fun i => s.size - i) 0 [] ⟨by omega, fun k h => absurd h (by omega)⟩ (by refine ⟨?_, ?_, rfl⟩<;>(repeat' (first|exact True.intro|exact rfl|(refine ⟨?_,?_⟩)|fail));done) ?_
 rintro i ⟨hi, hs⟩
 conv => whnf
 repeat' (first|((with_reducible first|refine Split.of_true ?_|refine Split.of_false ?_);conv=>whnf)|(with_reducible refine Split.neg ?_)|((with_reducible refine Split.nez (fun _=>?_) (fun _=>?_))<;>conv=>whnf)|((with_reducible refine Split.eqz (fun _=>?_) (fun _=>?_))<;>conv=>whnf)|((with_reducible refine Split.dec (fun _=>?_) (fun _=>?_))<;>conv=>whnf)|((with_reducible refine Need.mk ?_ ?_);(first|omega|rfl|decide|(refine ⟨?_,?_⟩<;>simp<;>omega)|(simp;omega));conv=>whnf)|((with_reducible refine Wr.inr ?_ ?_);(first|omega|(simp;omega));conv=>whnf)|(exfalso;first|omega|contradiction)|fail)
 all_goals first
  | exact congrArg D.bool (nameB_bad (i := i) (by omega) (badAt_iff.2 (by omega))).symm
  |(refine Again.mk (i+1) [] ⟨by omega, fun k hk => ?_⟩ (by omega) (by refine ⟨?_, ?_, rfl⟩<;>(repeat' (first|exact True.intro|exact rfl|(refine ⟨?_,?_⟩)|fail));done)
    rcases Nat.lt_or_ge k i with h | h
    ·exact hs k h
    ·have : k = i := by omega
     subst this
     exact Bool.eq_false_iff.2 fun h => by have := badAt_iff.1 h; omega)
  | skip
 have : ∀ k, k < s.size → badAt s k = false := fun k hk => hs k (by omega)
 have h1 : s.size ≠ 0 := by omega
 have h2 : s.size ≤ 12 := by omega
 simp [retOf, nameB, h1, h2]
 exact this
end Go.Proofs.Try
end

section
namespace Go.Proofs.Try
open Go Go.Vm
set_option maxRecDepth 20000
set_option maxHeartbeats 2000000
open Classical in
noncomputable def eqB {α : Type} (a b : α) : Bool := decide (a = b)
theorem eqB_self {α : Type} (a : α) : eqB a a = true := by simp [eqB]
theorem eqB_of {α : Type} {a b : α} (h : a = b) : eqB a b = true := by simp [eqB, h]
theorem eqB_ne {α : Type} {a b : α} (h : a ≠ b) : eqB a b = false := by simp [eqB, h]
theorem take_succ_eq {α : Type} {a b : List α} {i : Nat} {x : α} (ha : a[i]? = some x) (hb : b[i]? = some x) (h : a.take i = b.take i) : a.take (i + 1) = b.take (i + 1) := by
 rw [List.take_add_one, List.take_add_one, h, ha, hb]
theorem eq_of_take {α : Type} {a b : List α} {i : Nat} (h : a.take i = b.take i) (ha : a.length ≤ i) (hb : b.length ≤ i) : a = b := by
 rwa [List.take_of_length_le ha, List.take_of_length_le hb] at h
end Go.Proofs.Try
end

section
namespace Go.Proofs.Try
open Go Go.Vm
set_option maxRecDepth 20000
set_option maxHeartbeats 2000000
theorem ev_Within (n lo hi : Int) : Ev Try.prog 75 [.int .i64 n, .int .i64 lo, .int .i64 hi] (.bool (!outsideB n lo hi)) := by
 refine ev_of_awp tysOk mixed (fn := Try.f75) Try.func75 rfl rfl rfl ?_
 conv => whnf
 repeat' (first|((with_reducible refine Split.dec (fun _=>?_) (fun _=>?_))<;>conv=>whnf)|fail)
 all_goals
  simp only [retOf, outsideB]
  congr 1
  rw [Bool.eq_iff_iff]
  simp
  omega
end Go.Proofs.Try
end

section
namespace Go.Proofs.Try
open Go Go.Vm
set_option maxRecDepth 20000
set_option maxHeartbeats 4000000
theorem sEq_eq {a b : ByteArray} (h : sEq a b = true) : a = b := toList_inj (by simpa [sEq] using h)
theorem ix_lt {α : Type} {p : α → Bool} {l : List α} : ixI p l < l.length := by
 unfold ixI
 split
 ·rename_i i h
  have := (List.findIdx?_eq_some_iff_getElem.1 h).1
  omega
 ·omega
end Go.Proofs.Try
end

section
namespace Go.Proofs.Try
open Go Go.Vm
set_option maxRecDepth 20000
set_option maxHeartbeats 4000000
theorem ev_Find9 (l : List Pt) (s : ByteArray) (hn : l.length ≤ 1000000) : Ev Try.prog 39 [.sl 6 (l.map ptD), .str s] (iD (ixI (fun x => sEq x.name s) l)) := by
 have hlen : (l.map ptD).length = l.length := List.length_map _
 refine ev_of_awp tysOk mixed (fn := Try.f39) Try.func39 rfl rfl rfl ?_
 conv => whnf
 skip
 refine LoopK.o2 (fun i : Nat => i ≤ l.length ∧ ∀ g ∈ l.take i, sEq g.name s = false) (fun i => [(5, .d (.int .i64 i))]) (fun _ => []) (fun i => l.length - i) 0 (by simp) (by refine ⟨?_, ?_, rfl⟩<;>(repeat' (first|exact True.intro|exact rfl|(refine ⟨?_,?_⟩)|fail));done) ?_
 rintro i ⟨hi, hp⟩
 by_cases hil : i < l.length
 ·obtain ⟨g, hg⟩ := some_of_lt hil
  by_cases he : g.name = s
  ·have e : l.findIdx? (fun x => sEq x.name s) = some i := by
    rw [List.findIdx?_eq_some_iff_getElem]
    refine ⟨by omega, by rw [(List.getElem?_eq_some_iff.1 hg).2, he]; exact sEq_self _, fun j hj => ?_⟩
    have := hp l[j] (List.mem_take_iff_getElem.2 ⟨j, by omega, rfl⟩)
    rw [this]; decide
   rw [ixI, e]
   conv => whnf
   repeat' (first|((refine PickE.map i hg (by omega) ?_);conv=>whnf)|((with_reducible refine Split.streq (fun _=>?_) (fun _=>?_))<;>conv=>whnf)|((with_reducible refine Split.dec (fun _=>?_) (fun _=>?_))<;>conv=>whnf)|((with_reducible refine Need.mk ?_ ?_);(first|omega|rfl|decide|(refine ⟨?_,?_⟩<;>simp<;>omega)|(simp;omega));conv=>whnf)|((with_reducible refine Wr.inr ?_ ?_);(first|omega|(simp;omega));conv=>whnf)|(exfalso;first|omega|contradiction)|fail)
   all_goals first
    | rfl
    |(exfalso; contradiction)
  ·conv => whnf
   repeat' (first|((refine PickE.map i hg (by omega) ?_);conv=>whnf)|((with_reducible refine Split.streq (fun _=>?_) (fun _=>?_))<;>conv=>whnf)|((with_reducible refine Split.dec (fun _=>?_) (fun _=>?_))<;>conv=>whnf)|((with_reducible refine Need.mk ?_ ?_);(first|omega|rfl|decide|(refine ⟨?_,?_⟩<;>simp<;>omega)|(simp;omega));conv=>whnf)|((with_reducible refine Wr.inr ?_ ?_);(first|omega|(simp;omega));conv=>whnf)|(exfalso;first|omega|contradiction)|fail)
   all_goals first
    |(exfalso; contradiction)
    |(refine Again.au (i + 1) ⟨by omega, fun x hx => ?_⟩ (by omega) (by refine ⟨?_, ?_, rfl⟩<;>(repeat' (first|exact True.intro|exact rfl|(refine ⟨?_,?_⟩)|fail));done)
      rw [take_snoc hg] at hx
      rcases List.mem_append.1 hx with hx | hx
      ·exact hp x hx
      ·rw [List.mem_singleton.1 hx]; exact sEq_ne he)
 ·have e : l.findIdx? (fun x => sEq x.name s) = none := by
   rw [List.findIdx?_eq_none_iff]
   intro x hx
   rw [← List.take_of_length_le (show l.length ≤ i by omega)] at hx
   exact hp x hx
  rw [ixI, e]
  conv => whnf
  repeat' (first|((with_reducible refine Split.dec (fun _=>?_) (fun _=>?_))<;>conv=>whnf)|((with_reducible refine Need.mk ?_ ?_);(first|omega|rfl|decide|(refine ⟨?_,?_⟩<;>simp<;>omega)|(simp;omega));conv=>whnf)|(exfalso;first|omega|contradiction)|fail)
  rfl
theorem ev_Factor9 (l : List Bk) (s : ByteArray) (hn : l.length ≤ 1000000) : Ev Try.prog 18 [.sl 3 (l.map bkD), .str s] (iD (ixI (fun x => sEq x.soil s) l)) := by
 have hlen : (l.map bkD).length = l.length := List.length_map _
 refine ev_of_awp tysOk mixed (fn := Try.f18) Try.func18 rfl rfl rfl ?_
 conv => whnf
 skip
 refine LoopK.o2 (fun i : Nat => i ≤ l.length ∧ ∀ g ∈ l.take i, sEq g.soil s = false) (fun i => [(5, .d (.int .i64 i))]) (fun _ => []) (fun i => l.length - i) 0 (by simp) (by refine ⟨?_, ?_, rfl⟩<;>(repeat' (first|exact True.intro|exact rfl|(refine ⟨?_,?_⟩)|fail));done) ?_
 rintro i ⟨hi, hp⟩
 by_cases hil : i < l.length
 ·obtain ⟨g, hg⟩ := some_of_lt hil
  by_cases he : g.soil = s
  ·have e : l.findIdx? (fun x => sEq x.soil s) = some i := by
    rw [List.findIdx?_eq_some_iff_getElem]
    refine ⟨by omega, by rw [(List.getElem?_eq_some_iff.1 hg).2, he]; exact sEq_self _, fun j hj => ?_⟩
    have := hp l[j] (List.mem_take_iff_getElem.2 ⟨j, by omega, rfl⟩)
    rw [this]; decide
   rw [ixI, e]
   conv => whnf
   repeat' (first|((refine PickE.map i hg (by omega) ?_);conv=>whnf)|((with_reducible refine Split.streq (fun _=>?_) (fun _=>?_))<;>conv=>whnf)|((with_reducible refine Split.dec (fun _=>?_) (fun _=>?_))<;>conv=>whnf)|((with_reducible refine Need.mk ?_ ?_);(first|omega|rfl|decide|(refine ⟨?_,?_⟩<;>simp<;>omega)|(simp;omega));conv=>whnf)|((with_reducible refine Wr.inr ?_ ?_);(first|omega|(simp;omega));conv=>whnf)|(exfalso;first|omega|contradiction)|fail)
   all_goals first
    | rfl
    |(exfalso; contradiction)
  ·conv => whnf
   repeat' (first|((refine PickE.map i hg (by omega) ?_);conv=>whnf)|((with_reducible refine Split.streq (fun _=>?_) (fun _=>?_))<;>conv=>whnf)|((with_reducible refine Split.dec (fun _=>?_) (fun _=>?_))<;>conv=>whnf)|((with_reducible refine Need.mk ?_ ?_);(first|omega|rfl|decide|(refine ⟨?_,?_⟩<;>simp<;>omega)|(simp;omega));conv=>whnf)|((with_reducible refine Wr.inr ?_ ?_);(first|omega|(simp;omega));conv=>whnf)|(exfalso;first|omega|contradiction)|fail)
   all_goals first
    |(exfalso; contradiction)
    |(refine Again.au (i + 1) ⟨by omega, fun x hx => ?_⟩ (by omega) (by refine ⟨?_, ?_, rfl⟩<;>(repeat' (first|exact True.intro|exact rfl|(refine ⟨?_,?_⟩)|fail));done)
      rw [take_snoc hg] at hx
      rcases List.mem_append.1 hx with hx | hx
      ·exact hp x hx
      ·rw [List.mem_singleton.1 hx]; exact sEq_ne he)
 ·have e : l.findIdx? (fun x => sEq x.soil s) = none := by
   rw [List.findIdx?_eq_none_iff]
   intro x hx
   rw [← List.take_of_length_le (show l.length ≤ i by omega)] at hx
   exact hp x hx
  rw [ixI, e]
  conv => whnf
  repeat' (first|((with_reducible refine Split.dec (fun _=>?_) (fun _=>?_))<;>conv=>whnf)|((with_reducible refine Need.mk ?_ ?_);(first|omega|rfl|decide|(refine ⟨?_,?_⟩<;>simp<;>omega)|(simp;omega));conv=>whnf)|(exfalso;first|omega|contradiction)|fail)
  rfl
theorem met_ix {α : Type} {nm : α → ByteArray} {l : List α} {s : ByteArray} : metB nm l s = true ↔ ¬ ixI (fun x => sEq (nm x) s) l < 0 := by
 constructor
 ·intro h hlt
  unfold metB at h
  rw [List.any_eq_true] at h
  obtain ⟨x, hx, he⟩ := h
  have he : nm x = s := by simpa using he
  unfold ixI at hlt
  cases hf : l.findIdx? (fun x => sEq (nm x) s) with
  | none =>
   have := List.findIdx?_eq_none_iff.1 hf x hx
   rw [he, sEq_self] at this; cases this
  | some i => rw [hf] at hlt; simp at hlt; omega
 ·intro h
  obtain ⟨i, r, -, hr, hs⟩ := ix_at h
  exact List.any_eq_true.2 ⟨r, List.mem_of_getElem? hr, by simpa using sEq_eq hs⟩
theorem ev_pitErr (p : Pt) (bef : List Pt) (hn : bef.length ≤ 1000000) (hc : p.cls.length ≤ 1000000) :
 Ev Try.prog 73 [ptD p, .sl 6 (bef.map ptD)] (iD (if nameB p.name = false then 4 else if metB Pt.name bef p.name = true then 5 else ptErr p)) := by
 have hlen : (p.cls.map iD).length = p.cls.length := List.length_map _
 have hN := ev_IsName p.name
 have hF := ev_Find9 bef p.name hn
 have hm := @met_ix _ Pt.name bef p.name
 have hA := ev_Within p.area 1 1000000000
 have hB := ev_Within p.base (-20000) 20000
 have hT := ev_Within p.top (-20000) 20000
 have hP := ev_Within p.price 0 10000
 generalize ixI (fun x => sEq x.name p.name) bef = ix at *
 generalize metB Pt.name bef p.name = mt at *
 cases hb : nameB p.name with
 | false =>
  rw [hb] at hN
  rw [if_pos rfl]
  refine ev_of_awp tysOk mixed (fn := Try.f73) Try.func73 rfl rfl rfl ?_
  conv => whnf
  repeat' (first|((with_reducible refine Split.of_false ?_);conv=>whnf)|(with_reducible refine Split.neg ?_)|((with_reducible refine AltK.l ?_);(conv=>whnf);(first|(refine CallK.mk _ (hN) ?_));conv=>whnf)|fail)
  rfl
 | true =>
 rw [hb] at hN
 rw [if_neg (by decide)]
 cases mt with
 | true =>
  have hi := hm.1 rfl
  rw [if_pos rfl]
  refine ev_of_awp tysOk mixed (fn := Try.f73) Try.func73 rfl rfl rfl ?_
  conv => whnf
  repeat' (first|((with_reducible refine Split.of_true ?_);conv=>whnf)|(with_reducible refine Split.neg ?_)|((with_reducible refine Split.dec (fun _=>?_) (fun _=>?_))<;>conv=>whnf)|((with_reducible refine AltK.l ?_);(conv=>whnf);(first|(refine CallK.mk _ (hN) ?_)|(refine CallK.mk _ (hF) ?_));conv=>whnf)|(exfalso;first|omega|contradiction)|fail)
  all_goals first
   | rfl
   |(exfalso; omega)
 | false =>
 have hi : ix < 0 := by
  rcases Int.lt_or_le ix 0 with h | h
  ·exact h
  ·exact absurd (hm.2 (by omega)) (by decide)
 clear hm
 rw [if_neg (by decide)]
 unfold ptErr
 generalize outsideB p.area 1 1000000000 = a1 at *
 generalize outsideB p.base (-20000) 20000 = a2 at *
 generalize outsideB p.top (-20000) 20000 = a3 at *
 generalize outsideB p.price 0 10000 = a4 at *
 by_cases h1 : (a1 || a2 || a3) = true
 ·rw [if_pos h1]
  refine ev_of_awp tysOk mixed (fn := Try.f73) Try.func73 rfl rfl rfl ?_
  conv => whnf
  repeat' (first|((with_reducible refine Split.of_true ?_);conv=>whnf)|(with_reducible refine Split.neg ?_)|((with_reducible refine Split.dec (fun _=>?_) (fun _=>?_))<;>conv=>whnf)|((with_reducible refine Split.mk (fun _=>?_) (fun _=>?_))<;>conv=>whnf)|((with_reducible refine AltK.l ?_);(conv=>whnf);(first|(refine CallK.mk _ (hN) ?_)|(refine CallK.mk _ (hF) ?_)|(refine CallK.mk _ (hA) ?_)|(refine CallK.mk _ (hB) ?_)|(refine CallK.mk _ (hT) ?_)|(refine CallK.mk _ (hP) ?_));conv=>whnf)|(exfalso;first|omega|contradiction)|fail)
  all_goals first
   | rfl
   |(exfalso; omega)
   |(exfalso; simp_all; done)
 rw [if_neg h1]
 have h1 : a1 = false ∧ a2 = false ∧ a3 = false := by simpa [and_assoc] using h1
 obtain ⟨rfl, rfl, rfl⟩ := h1
 by_cases h2 : p.top ≤ p.base
 ·rw [if_pos h2]
  refine ev_of_awp tysOk mixed (fn := Try.f73) Try.func73 rfl rfl rfl ?_
  conv => whnf
  repeat' (first|((with_reducible first|refine Split.of_true ?_|refine Split.of_false ?_);conv=>whnf)|(with_reducible refine Split.neg ?_)|((with_reducible refine Split.dec (fun _=>?_) (fun _=>?_))<;>conv=>whnf)|((with_reducible refine Split.mk (fun _=>?_) (fun _=>?_))<;>conv=>whnf)|((with_reducible refine AltK.l ?_);(conv=>whnf);(first|(refine CallK.mk _ (hN) ?_)|(refine CallK.mk _ (hF) ?_)|(refine CallK.mk _ (hA) ?_)|(refine CallK.mk _ (hB) ?_)|(refine CallK.mk _ (hT) ?_)|(refine CallK.mk _ (hP) ?_));conv=>whnf)|(exfalso;first|omega|contradiction)|fail)
  all_goals first
   | rfl
   |(exfalso; omega)
 rw [if_neg h2]
 cases a4 with
 | true =>
  rw [if_pos rfl]
  refine ev_of_awp tysOk mixed (fn := Try.f73) Try.func73 rfl rfl rfl ?_
  conv => whnf
  repeat' (first|((with_reducible first|refine Split.of_true ?_|refine Split.of_false ?_);conv=>whnf)|(with_reducible refine Split.neg ?_)|((with_reducible refine Split.dec (fun _=>?_) (fun _=>?_))<;>conv=>whnf)|((with_reducible refine AltK.l ?_);(conv=>whnf);(first|(refine CallK.mk _ (hN) ?_)|(refine CallK.mk _ (hF) ?_)|(refine CallK.mk _ (hA) ?_)|(refine CallK.mk _ (hB) ?_)|(refine CallK.mk _ (hT) ?_)|(refine CallK.mk _ (hP) ?_));conv=>whnf)|(exfalso;first|omega|contradiction)|fail)
  all_goals first
   | rfl
   |(exfalso; omega)
 | false =>
 rw [if_neg (by decide)]
 have e0 : clsGo none p.cls = clsGo (prevI p.cls 0) (p.cls.drop 0) := rfl
 refine ev_of_awp tysOk mixed (fn := Try.f73) Try.func73 rfl rfl rfl ?_
 conv => whnf
 repeat' (first|((with_reducible first|refine Split.of_true ?_|refine Split.of_false ?_);conv=>whnf)|(with_reducible refine Split.neg ?_)|((with_reducible refine Split.dec (fun _=>?_) (fun _=>?_))<;>conv=>whnf)|((with_reducible refine AltK.l ?_);(conv=>whnf);(first|(refine CallK.mk _ (hN) ?_)|(refine CallK.mk _ (hF) ?_)|(refine CallK.mk _ (hA) ?_)|(refine CallK.mk _ (hB) ?_)|(refine CallK.mk _ (hT) ?_)|(refine CallK.mk _ (hP) ?_));conv=>whnf)|(exfalso;first|omega|contradiction)|fail)
 refine LoopK.o2 (fun i : Nat => i ≤ p.cls.length ∧ clsGo none p.cls = clsGo (prevI p.cls i) (p.cls.drop i)) (fun i => [(5, .d (.int .i64 i))]) (fun _ => []) (fun i => p.cls.length - i) 0 ⟨by omega, e0⟩ (by refine ⟨?_, ?_, rfl⟩<;>(repeat' (first|exact True.intro|exact rfl|(refine ⟨?_,?_⟩)|(intro h;cases h;done)|fail));done) ?_
 rintro i ⟨hi', hp⟩
 by_cases hil : i < p.cls.length
 ·obtain ⟨c, hc⟩ := some_of_lt hil
  have hC := ev_Within c 0 9
  rw [cls_at hc] at hp
  cases ho : outsideB c 0 9 with
  | true =>
   rw [ho, if_pos rfl] at hp
   rw [ho] at hC
   conv => whnf
   repeat' (first|((refine PickE.map i hc (by omega) ?_);conv=>whnf)|((with_reducible refine Split.of_true ?_);conv=>whnf)|(with_reducible refine Split.neg ?_)|((with_reducible refine Split.dec (fun _=>?_) (fun _=>?_))<;>conv=>whnf)|((with_reducible refine Need.mk ?_ ?_);(first|omega|rfl|decide|(refine ⟨?_,?_⟩<;>simp<;>omega)|(simp;omega));conv=>whnf)|((with_reducible refine AltK.l ?_);(conv=>whnf);(first|(refine CallK.mk _ (hC) ?_));conv=>whnf)|(exfalso;first|omega|contradiction)|fail)
   rw [hp]; rfl
  | false =>
   rw [ho, if_neg (by decide)] at hp
   rw [ho] at hC
   by_cases hz : i = 0
   ·subst hz
    rw [if_neg (by simp [prevI])] at hp
    conv => whnf
    repeat' (first|((refine PickE.map 0 hc (by omega) ?_);conv=>whnf)|((with_reducible refine Split.of_false ?_);conv=>whnf)|(with_reducible refine Split.neg ?_)|((with_reducible refine Split.is_false ?_ ?_);decide;conv=>whnf)|((with_reducible refine Split.dec (fun _=>?_) (fun _=>?_))<;>conv=>whnf)|((with_reducible refine Need.mk ?_ ?_);(first|omega|rfl|decide|(refine ⟨?_,?_⟩<;>simp<;>omega)|(simp;omega));conv=>whnf)|((with_reducible refine Wr.inr ?_ ?_);(first|omega|(simp;omega));conv=>whnf)|((with_reducible refine AltK.l ?_);(conv=>whnf);(first|(refine CallK.mk _ (hC) ?_));conv=>whnf)|(exfalso;first|omega|contradiction)|fail)
    all_goals first
     | exact Again.au (0 + 1) ⟨by omega, hp⟩ (by omega) (by refine ⟨?_, ?_, rfl⟩<;>(repeat' (first|exact True.intro|exact rfl|(refine ⟨?_,?_⟩)|(intro h;cases h;done)|fail));done)
     |(exfalso; omega)
   ·obtain ⟨q, hq⟩ := some_of_lt (show i - 1 < p.cls.length by omega)
    have hpv : prevI p.cls i = some q := by
     cases i with
     | zero => exact absurd rfl hz
     | succ j => simpa [prevI] using hq
    rw [hpv] at hp
    by_cases hle : c ≤ q
    ·rw [if_pos (by simp [hle])] at hp
     conv => whnf
     repeat' (first|((refine PickE.map (i - 1) hq (by omega) ?_);conv=>whnf)|((refine PickE.map i hc (by omega) ?_);conv=>whnf)|((with_reducible refine Split.of_false ?_);conv=>whnf)|(with_reducible refine Split.neg ?_)|((with_reducible refine Split.dec (fun _=>?_) (fun _=>?_))<;>conv=>whnf)|((with_reducible refine Need.mk ?_ ?_);(first|omega|rfl|decide|(refine ⟨?_,?_⟩<;>simp<;>omega)|(simp;omega));conv=>whnf)|((with_reducible refine Wr.inr ?_ ?_);(first|omega|(simp;omega));conv=>whnf)|((with_reducible refine AltK.l ?_);(conv=>whnf);(first|(refine CallK.mk _ (hC) ?_));conv=>whnf)|(exfalso;first|omega|contradiction)|fail)
     all_goals first
      |(rw [hp]; rfl)
      |(exfalso; omega)
    ·rw [if_neg (by simp; omega)] at hp
     conv => whnf
     repeat' (first|((refine PickE.map (i - 1) hq (by omega) ?_);conv=>whnf)|((refine PickE.map i hc (by omega) ?_);conv=>whnf)|((with_reducible refine Split.of_false ?_);conv=>whnf)|(with_reducible refine Split.neg ?_)|((with_reducible refine Split.dec (fun _=>?_) (fun _=>?_))<;>conv=>whnf)|((with_reducible refine Need.mk ?_ ?_);(first|omega|rfl|decide|(refine ⟨?_,?_⟩<;>simp<;>omega)|(simp;omega));conv=>whnf)|((with_reducible refine Wr.inr ?_ ?_);(first|omega|(simp;omega));conv=>whnf)|((with_reducible refine AltK.l ?_);(conv=>whnf);(first|(refine CallK.mk _ (hC) ?_));conv=>whnf)|(exfalso;first|omega|contradiction)|fail)
     all_goals first
      | exact Again.au (i + 1) ⟨by omega, hp⟩ (by omega) (by refine ⟨?_, ?_, rfl⟩<;>(repeat' (first|exact True.intro|exact rfl|(refine ⟨?_,?_⟩)|(intro h;cases h;done)|fail));done)
      |(exfalso; omega)
 ·rw [List.drop_eq_nil_of_le (show p.cls.length ≤ i by omega)] at hp
  rw [hp]
  conv => whnf
  repeat' (first|((with_reducible refine Split.dec (fun _=>?_) (fun _=>?_))<;>conv=>whnf)|((with_reducible refine Need.mk ?_ ?_);(first|omega|rfl|decide|(refine ⟨?_,?_⟩<;>simp<;>omega)|(simp;omega));conv=>whnf)|(exfalso;first|omega|contradiction)|fail)
  cases prevI p.cls i <;> rfl
theorem ev_Deposited (l : List Dp) (n : Int) (hn : l.length ≤ 1000000) : Ev Try.prog 63 [.sl 3 (l.map dpD), iD n] (.bool (l.any fun x => x.batch == n)) := by
 have hlen : (l.map dpD).length = l.length := List.length_map _
 refine ev_of_awp tysOk mixed (fn := Try.f63) Try.func63 rfl rfl rfl ?_
 conv => whnf
 skip
 refine LoopK.o2 (fun i : Nat => i ≤ l.length ∧ (l.take i).any (fun x => x.batch == n) = false) (fun i => [(5, .d (.int .i64 i))]) (fun _ => []) (fun i => l.length - i) 0 ⟨by omega, rfl⟩ (by refine ⟨?_, ?_, rfl⟩<;>(repeat' (first|exact True.intro|exact rfl|(refine ⟨?_,?_⟩)|fail));done) ?_
 rintro i ⟨hi, hp⟩
 by_cases hil : i < l.length
 ·obtain ⟨d, hd⟩ := some_of_lt hil
  have hy := @any_yes _ (fun x : Dp => x.batch == n) l i d hd
  have hno := @any_no _ (fun x : Dp => x.batch == n) l i d hd hp
  conv => whnf
  repeat' (first|((refine PickE.map i hd (by omega) ?_);conv=>whnf)|((with_reducible refine Split.eqz (fun _=>?_) (fun _=>?_))<;>conv=>whnf)|((with_reducible refine Split.dec (fun _=>?_) (fun _=>?_))<;>conv=>whnf)|((with_reducible refine Need.mk ?_ ?_);(first|omega|rfl|decide|(refine ⟨?_,?_⟩<;>simp<;>omega)|(simp;omega));conv=>whnf)|((with_reducible refine Wr.inr ?_ ?_);(first|omega|(simp;omega));conv=>whnf)|(exfalso;first|omega|contradiction)|fail)
  ·rw [hy (by simpa using (by assumption : d.batch = n))]; rfl
  ·exact Again.au (i + 1) ⟨by omega, hno (by simpa using (by assumption : d.batch ≠ n))⟩ (by omega) (by refine ⟨?_, ?_, rfl⟩<;>(repeat' (first|exact True.intro|exact rfl|(refine ⟨?_,?_⟩)|fail));done)
 ·rw [List.take_of_length_le (by omega)] at hp
  rw [hp]
  conv => whnf
  repeat' (first|((with_reducible refine Split.dec (fun _=>?_) (fun _=>?_))<;>conv=>whnf)|((with_reducible refine Need.mk ?_ ?_);(first|omega|rfl|decide|(refine ⟨?_,?_⟩<;>simp<;>omega)|(simp;omega));conv=>whnf)|(exfalso;first|omega|contradiction)|fail)
  rfl
theorem ev_Capacity9 {p : Pt} (h : PtOk p) : Ev Try.prog 76 [ptD p] (iD (capS p)) := by
 have hc := cap_bd h
 have h2 := h.base
 have h3 := h.top
 unfold capS at *
 refine ev_of_awp tysOk mixed (fn := Try.f76) Try.func76 rfl rfl rfl ?_
 conv => whnf
 repeat' (first|((with_reducible refine Wr.inr ?_ ?_);(first|omega|(simp;omega));conv=>whnf)|fail)
 rfl
theorem ev_Taken9 (y : Yd) {k : Nat} {p : Pt} (hk : y.pits[k]? = some p) (hv : volOk y.deps) (hn : y.deps.length ≤ 300) : Ev Try.prog 40 [ydD y, iD k] (iD (takS p.name y.deps)) := by
 have hlen : (y.deps.map dpD).length = y.deps.length := List.length_map _
 refine ev_of_awp tysOk mixed (fn := Try.f40) Try.func40 rfl rfl rfl ?_
 conv => whnf
 skip
 refine LoopK.o2 (fun i : Nat => i ≤ y.deps.length) (fun i => [(5, .d (iD (takS p.name (y.deps.take i)))), (6, .d (.int .i64 i))]) (fun _ => []) (fun i => y.deps.length - i) 0 (by simp) (by refine ⟨?_, ?_, rfl⟩<;>(repeat' (first|exact True.intro|exact rfl|(refine ⟨?_,?_⟩)|(intro h;cases h;done)|fail));done) ?_
 rintro i hi
 have hb := takS_bd p.name (y.deps.take i) (fun x hx => hv x (List.mem_of_mem_take hx))
 have hl : (y.deps.take i).length ≤ 300 := by rw [List.length_take]; omega
 by_cases hil : i < y.deps.length
 ·obtain ⟨d, hd⟩ := some_of_lt hil
  have hs := takS_snoc (s := p.name) hd
  have hdv := hv d (List.mem_of_getElem? hd)
  by_cases he : d.pit = p.name
  ·rw [he, sEq_self, if_pos rfl] at hs
   conv => whnf
   repeat' (first|((refine PickE.map k hk (by omega) ?_);conv=>whnf)|((refine PickE.map i hd (by omega) ?_);conv=>whnf)|((with_reducible refine Split.streq (fun _=>?_) (fun _=>?_))<;>conv=>whnf)|((with_reducible refine Split.dec (fun _=>?_) (fun _=>?_))<;>conv=>whnf)|((with_reducible refine Need.mk ?_ ?_);(first|omega|rfl|decide|(refine ⟨?_,?_⟩<;>simp<;>omega)|(simp;omega));conv=>whnf)|((with_reducible refine Wr.inr ?_ ?_);(first|omega|(simp;omega));conv=>whnf)|(exfalso;first|omega|contradiction)|fail)
   ·refine Again.au (i + 1) (by omega) (by omega) ?_
    rw [hs]
    exact (by refine ⟨?_, ?_, rfl⟩<;>(repeat' (first|exact True.intro|exact rfl|(refine ⟨?_,?_⟩)|(intro h;cases h;done)|fail));done)
   all_goals (exfalso; contradiction)
  ·rw [sEq_ne he, if_neg (by decide)] at hs
   conv => whnf
   repeat' (first|((refine PickE.map k hk (by omega) ?_);conv=>whnf)|((refine PickE.map i hd (by omega) ?_);conv=>whnf)|((with_reducible refine Split.streq (fun _=>?_) (fun _=>?_))<;>conv=>whnf)|((with_reducible refine Split.dec (fun _=>?_) (fun _=>?_))<;>conv=>whnf)|((with_reducible refine Need.mk ?_ ?_);(first|omega|rfl|decide|(refine ⟨?_,?_⟩<;>simp<;>omega)|(simp;omega));conv=>whnf)|((with_reducible refine Wr.inr ?_ ?_);(first|omega|(simp;omega));conv=>whnf)|(exfalso;first|omega|contradiction)|fail)
   all_goals first
    |(exfalso; contradiction)
    |(refine Again.au (i + 1) (by omega) (by omega) ?_
      rw [hs, Int.add_zero]
      exact (by refine ⟨?_, ?_, rfl⟩<;>(repeat' (first|exact True.intro|exact rfl|(refine ⟨?_,?_⟩)|(intro h;cases h;done)|fail));done))
 ·have e : y.deps.take i = y.deps := List.take_of_length_le (by omega)
  conv => whnf
  repeat' (first|((with_reducible refine Split.dec (fun _=>?_) (fun _=>?_))<;>conv=>whnf)|((with_reducible refine Need.mk ?_ ?_);(first|omega|rfl|decide|(refine ⟨?_,?_⟩<;>simp<;>omega)|(simp;omega));conv=>whnf)|(exfalso;first|omega|contradiction)|fail)
  rw [e]; rfl
theorem ev_bulkingErr (y : Yd) : Ev Try.prog 74 [ydD y] (iD (if 20 < y.bulk.length then 8 else if nmGo Bk.soil bkErr [] y.bulk ≠ 0 then nmGo Bk.soil bkErr [] y.bulk else if y.carry.length ≠ y.bulk.length then 10 else carGo y.bulk y.carry)) := by
 have hlb : (y.bulk.map bkD).length = y.bulk.length := List.length_map _
 have hlc : (y.carry.map iD).length = y.carry.length := List.length_map _
 by_cases h3 : 20 < y.bulk.length
 ·rw [if_pos h3]
  refine ev_of_awp tysOk mixed (fn := Try.f74) Try.func74 rfl rfl rfl ?_
  conv => whnf
  repeat' (first|((with_reducible refine Split.dec (fun _=>?_) (fun _=>?_))<;>conv=>whnf)|(exfalso;first|omega|contradiction)|fail)
  all_goals first
   | rfl
   |(exfalso; omega)
 rw [if_neg h3]
 have z2 := @nmGo_zero _ Bk.soil bkErr y.bulk []
 have e0 : nmGo Bk.soil bkErr [] y.bulk = nmGo Bk.soil bkErr (y.bulk.take 0) (y.bulk.drop 0) := rfl
 generalize hE : nmGo Bk.soil bkErr [] y.bulk = e2 at *
 refine ev_of_awp tysOk mixed (fn := Try.f74) Try.func74 rfl rfl rfl ?_
 conv => whnf
 repeat' (first|((with_reducible refine Split.dec (fun _=>?_) (fun _=>?_))<;>conv=>whnf)|(exfalso;first|omega|contradiction)|fail)
 refine LoopK.o2 (fun i : Nat => i ≤ y.bulk.length ∧ e2 = nmGo Bk.soil bkErr (y.bulk.take i) (y.bulk.drop i)) (fun i => [(3, .d (.int .i64 i))]) (fun _ => []) (fun i => y.bulk.length - i) 0 ⟨by omega, e0⟩ (by refine ⟨?_, ?_, rfl⟩<;>(repeat' (first|exact True.intro|exact rfl|(refine ⟨?_,?_⟩)|(intro h;cases h;done)|fail));done) ?_
 rintro i ⟨hi, hp⟩
 by_cases hil : i < y.bulk.length
 ·obtain ⟨b, hb⟩ := some_of_lt hil
  rw [nmGo_at hb] at hp
  have hN := ev_IsName b.soil
  have hF := ev_Factor9 (y.bulk.take i) b.soil (by rw [List.length_take]; omega)
  have hm := @met_ix _ Bk.soil (y.bulk.take i) b.soil
  have hlt := @ix_lt _ (fun x : Bk => sEq x.soil b.soil) (y.bulk.take i)
  have w1 := ev_Within b.den 1 1000
  have w2 := ev_Within b.num 1 (10 * b.den)
  have hd : ((y.bulk.map bkD).take ((i : Int)).toNat).drop (Int.toNat 0) = (y.bulk.take i).map bkD := by rw [Int.toNat_natCast, Int.toNat_zero, List.drop_zero, List.map_take]
  rw [← hd] at hF
  generalize ixI (fun x => sEq x.soil b.soil) (y.bulk.take i) = ix at *
  generalize metB Bk.soil (y.bulk.take i) b.soil = mt at *
  cases hnb : nameB b.soil with
  | false =>
   rw [hnb, if_pos rfl] at hp
   rw [hnb] at hN
   rw [hp]
   conv => whnf
   repeat' (first|((refine PickE.map i hb (by omega) ?_);conv=>whnf)|((with_reducible refine Split.of_false ?_);conv=>whnf)|(with_reducible refine Split.neg ?_)|((with_reducible refine Split.nez (fun _=>?_) (fun _=>?_))<;>conv=>whnf)|((with_reducible refine Split.dec (fun _=>?_) (fun _=>?_))<;>conv=>whnf)|((with_reducible refine Need.mk ?_ ?_);(first|omega|rfl|decide|(refine ⟨?_,?_⟩<;>simp<;>omega)|(simp;omega));conv=>whnf)|((with_reducible refine AltK.l ?_);(conv=>whnf);(first|(refine CallK.mk _ (hN) ?_));conv=>whnf)|(exfalso;first|omega|contradiction)|fail)
   rfl
  | true =>
  rw [hnb, if_neg (by decide)] at hp
  rw [hnb] at hN
  cases mt with
  | true =>
   have hi' := hm.1 rfl
   rw [if_pos rfl] at hp
   rw [hp]
   conv => whnf
   repeat' (first|((refine PickE.map i hb (by omega) ?_);conv=>whnf)|((with_reducible refine Split.of_true ?_);conv=>whnf)|(with_reducible refine Split.neg ?_)|((with_reducible refine Split.nez (fun _=>?_) (fun _=>?_))<;>conv=>whnf)|((with_reducible refine Split.dec (fun _=>?_) (fun _=>?_))<;>conv=>whnf)|((with_reducible refine Need.mk ?_ ?_);(first|omega|rfl|decide|(refine ⟨?_,?_⟩<;>simp<;>omega)|(simp;omega));conv=>whnf)|((with_reducible refine AltK.l ?_);(conv=>whnf);(first|(refine CallK.mk _ (hN) ?_)|(refine CallK.mk _ (hF) ?_));conv=>whnf)|(exfalso;first|omega|contradiction)|fail)
   all_goals first
    | rfl
    |(exfalso; omega)
  | false =>
  have hi' : ix < 0 := by
   rcases Int.lt_or_le ix 0 with h | h
   ·exact h
   ·exact absurd (hm.2 (by omega)) (by decide)
  clear hm
  rw [if_neg (by decide)] at hp
  have eb : bkErr b = if (outsideB b.den 1 1000 || outsideB b.num 1 (10 * b.den)) = true then 2 else 0 := rfl
  rw [eb] at hp
  cases ho : outsideB b.den 1 1000 with
  | true =>
   rw [ho] at w1 hp
   rw [Bool.true_or, if_pos rfl, if_pos (by decide)] at hp
   rw [hp]
   conv => whnf
   repeat' (first|((refine PickE.map i hb (by omega) ?_);conv=>whnf)|((with_reducible refine Split.of_true ?_);conv=>whnf)|(with_reducible refine Split.neg ?_)|((with_reducible refine Split.nez (fun _=>?_) (fun _=>?_))<;>conv=>whnf)|((with_reducible refine Split.dec (fun _=>?_) (fun _=>?_))<;>conv=>whnf)|((with_reducible refine Need.mk ?_ ?_);(first|omega|rfl|decide|(refine ⟨?_,?_⟩<;>simp<;>omega)|(simp;omega));conv=>whnf)|((with_reducible refine AltK.l ?_);(conv=>whnf);(first|(refine CallK.mk _ (hN) ?_)|(refine CallK.mk _ (hF) ?_)|(refine CallK.mk _ (w1) ?_)|(refine CallK.mk _ (w2) ?_));conv=>whnf)|(exfalso;first|omega|contradiction)|fail)
   all_goals first
    | rfl
    |(exfalso; omega)
  | false =>
   have hdb : 1 ≤ b.den ∧ b.den ≤ 1000 := by simp [outsideB] at ho; omega
   rw [ho] at w1 hp
   rw [Bool.false_or] at hp
   cases ho2 : outsideB b.num 1 (10 * b.den) with
   | true =>
    rw [ho2] at w2 hp
    rw [if_pos rfl, if_pos (by decide)] at hp
    rw [hp]
    conv => whnf
    repeat' (first|((refine PickE.map i hb (by omega) ?_);conv=>whnf)|((with_reducible first|refine Split.of_true ?_|refine Split.of_false ?_);conv=>whnf)|(with_reducible refine Split.neg ?_)|((with_reducible refine Split.nez (fun _=>?_) (fun _=>?_))<;>conv=>whnf)|((with_reducible refine Split.dec (fun _=>?_) (fun _=>?_))<;>conv=>whnf)|((with_reducible refine Need.mk ?_ ?_);(first|omega|rfl|decide|(refine ⟨?_,?_⟩<;>simp<;>omega)|(simp;omega));conv=>whnf)|((with_reducible refine Wr.inr ?_ ?_);(first|omega|(simp;omega));conv=>whnf)|((with_reducible refine AltK.l ?_);(conv=>whnf);(first|(refine CallK.mk _ (hN) ?_)|(refine CallK.mk _ (hF) ?_)|(refine CallK.mk _ (w1) ?_)|(refine CallK.mk _ (w2) ?_));conv=>whnf)|(exfalso;first|omega|contradiction)|fail)
    all_goals first
     | rfl
     |(exfalso; omega)
   | false =>
    rw [ho2] at w2 hp
    simp only [Bool.false_eq_true, if_false, ne_eq, not_true_eq_false] at hp
    conv => whnf
    repeat' (first|((refine PickE.map i hb (by omega) ?_);conv=>whnf)|((with_reducible first|refine Split.of_true ?_|refine Split.of_false ?_);conv=>whnf)|(with_reducible refine Split.neg ?_)|((with_reducible refine Split.nez (fun _=>?_) (fun _=>?_))<;>conv=>whnf)|((with_reducible refine Split.dec (fun _=>?_) (fun _=>?_))<;>conv=>whnf)|((with_reducible refine Need.mk ?_ ?_);(first|omega|rfl|decide|(refine ⟨?_,?_⟩<;>simp<;>omega)|(simp;omega));conv=>whnf)|((with_reducible refine Wr.inr ?_ ?_);(first|omega|(simp;omega));conv=>whnf)|((with_reducible refine AltK.l ?_);(conv=>whnf);(first|(refine CallK.mk _ (hN) ?_)|(refine CallK.mk _ (hF) ?_)|(refine CallK.mk _ (w1) ?_)|(refine CallK.mk _ (w2) ?_));conv=>whnf)|(exfalso;first|omega|contradiction)|fail)
    all_goals first
     | exact Again.au (i + 1) ⟨by omega, hp⟩ (by omega) (by refine ⟨?_, ?_, rfl⟩<;>(repeat' (first|exact True.intro|exact rfl|(refine ⟨?_,?_⟩)|(intro h;cases h;done)|fail));done)
     |(exfalso; omega)
 rw [List.drop_eq_nil_of_le (show y.bulk.length ≤ i by omega)] at hp
 have hp : e2 = 0 := hp
 subst hp
 rw [if_neg (by decide)]
 have hbk : ∀ b ∈ y.bulk, 1 ≤ b.den ∧ b.den ≤ 1000 := fun b hb => by
  have := (z2 rfl b hb).1
  unfold bkErr at this
  split at this
  ·cases this
  ·rename_i h; simp [outsideB] at h; omega
 by_cases h5 : y.carry.length = y.bulk.length
 case neg =>
  rw [if_pos h5]
  conv => whnf
  repeat' (first|((with_reducible refine Split.nez (fun _=>?_) (fun _=>?_))<;>conv=>whnf)|((with_reducible refine Split.dec (fun _=>?_) (fun _=>?_))<;>conv=>whnf)|((with_reducible refine Need.mk ?_ ?_);(first|omega|rfl|decide|(refine ⟨?_,?_⟩<;>simp<;>omega)|(simp;omega));conv=>whnf)|(exfalso;first|omega|contradiction)|fail)
  all_goals first
   | rfl
   |(exfalso; omega)
 rw [if_neg (by simpa using h5)]
 have e0 : carGo y.bulk y.carry = carGo (y.bulk.drop 0) (y.carry.drop 0) := rfl
 conv => whnf
 repeat' (first|((with_reducible refine Split.nez (fun _=>?_) (fun _=>?_))<;>conv=>whnf)|((with_reducible refine Split.dec (fun _=>?_) (fun _=>?_))<;>conv=>whnf)|((with_reducible refine Need.mk ?_ ?_);(first|omega|rfl|decide|(refine ⟨?_,?_⟩<;>simp<;>omega)|(simp;omega));conv=>whnf)|(exfalso;first|omega|contradiction)|fail)
 refine LoopK.o2 (fun i : Nat => i ≤ y.carry.length ∧ carGo y.bulk y.carry = carGo (y.bulk.drop i) (y.carry.drop i)) (fun i => [(5, .d (.int .i64 i))]) (fun _ => []) (fun i => y.carry.length - i) 0 ⟨by omega, e0⟩ (by refine ⟨?_, ?_, rfl⟩<;>(repeat' (first|exact True.intro|exact rfl|(refine ⟨?_,?_⟩)|(intro h;cases h;done)|fail));done) ?_
 rintro i ⟨hi, hp⟩
 by_cases hil : i < y.carry.length
 ·obtain ⟨c, hc⟩ := some_of_lt hil
  obtain ⟨b, hb⟩ := some_of_lt (show i < y.bulk.length by omega)
  rw [car_at hb hc] at hp
  have hbb := hbk b (List.mem_of_getElem? hb)
  have w := ev_Within c 0 (b.den - 1)
  cases ho : outsideB c 0 (b.den - 1) with
  | true =>
   rw [ho, if_pos rfl] at hp
   rw [ho] at w
   rw [hp]
   conv => whnf
   repeat' (first|((refine PickE.map i hb (by omega) ?_);conv=>whnf)|((refine PickE.map i hc (by omega) ?_);conv=>whnf)|((with_reducible refine Split.of_true ?_);conv=>whnf)|(with_reducible refine Split.neg ?_)|((with_reducible refine Split.dec (fun _=>?_) (fun _=>?_))<;>conv=>whnf)|((with_reducible refine Need.mk ?_ ?_);(first|omega|rfl|decide|(refine ⟨?_,?_⟩<;>simp<;>omega)|(simp;omega));conv=>whnf)|((with_reducible refine Wr.inr ?_ ?_);(first|omega|(simp;omega));conv=>whnf)|((with_reducible refine AltK.l ?_);(conv=>whnf);(first|(refine CallK.mk _ (w) ?_));conv=>whnf)|(exfalso;first|omega|contradiction)|fail)
   rfl
  | false =>
   rw [ho, if_neg (by decide)] at hp
   rw [ho] at w
   conv => whnf
   repeat' (first|((refine PickE.map i hb (by omega) ?_);conv=>whnf)|((refine PickE.map i hc (by omega) ?_);conv=>whnf)|((with_reducible refine Split.of_false ?_);conv=>whnf)|(with_reducible refine Split.neg ?_)|((with_reducible refine Split.dec (fun _=>?_) (fun _=>?_))<;>conv=>whnf)|((with_reducible refine Need.mk ?_ ?_);(first|omega|rfl|decide|(refine ⟨?_,?_⟩<;>simp<;>omega)|(simp;omega));conv=>whnf)|((with_reducible refine Wr.inr ?_ ?_);(first|omega|(simp;omega));conv=>whnf)|((with_reducible refine AltK.l ?_);(conv=>whnf);(first|(refine CallK.mk _ (w) ?_));conv=>whnf)|(exfalso;first|omega|contradiction)|fail)
   exact Again.au (i + 1) ⟨by omega, hp⟩ (by omega) (by refine ⟨?_, ?_, rfl⟩<;>(repeat' (first|exact True.intro|exact rfl|(refine ⟨?_,?_⟩)|(intro h;cases h;done)|fail));done)
 ·rw [List.drop_eq_nil_of_le (show y.carry.length ≤ i by omega), carGo] at hp
  rw [hp]
  conv => whnf
  repeat' (first|((with_reducible refine Split.dec (fun _=>?_) (fun _=>?_))<;>conv=>whnf)|((with_reducible refine Need.mk ?_ ?_);(first|omega|rfl|decide|(refine ⟨?_,?_⟩<;>simp<;>omega)|(simp;omega));conv=>whnf)|(exfalso;first|omega|contradiction)|fail)
  rfl
end Go.Proofs.Try
end

section
namespace Go.Proofs.Try
open Go Go.Vm
set_option maxRecDepth 20000
set_option maxHeartbeats 4000000
def bErr (y : Yd) : Int := if 20 < y.bulk.length then 8 else if nmGo Bk.soil bkErr [] y.bulk ≠ 0 then nmGo Bk.soil bkErr [] y.bulk else if y.carry.length ≠ y.bulk.length then 10 else carGo y.bulk y.carry
theorem yd_split (y : Yd) : ydErr y = if 8 < y.pits.length then 8 else if nmGo Pt.name ptErr [] y.pits ≠ 0 then nmGo Pt.name ptErr [] y.pits else if bErr y ≠ 0 then bErr y else dpsErr y := by
 unfold ydErr bErr
 by_cases h1 : 8 < y.pits.length
 ·rw [if_pos h1, if_pos h1]
 rw [if_neg h1, if_neg h1]
 by_cases h2 : nmGo Pt.name ptErr [] y.pits ≠ 0
 ·rw [if_pos h2, if_pos h2]
 rw [if_neg h2, if_neg h2]
 by_cases h3 : 20 < y.bulk.length
 ·simp [h3]
 simp only [h3, if_false]
 by_cases h4 : nmGo Bk.soil bkErr [] y.bulk ≠ 0
 ·simp [h4]
 simp only [h4, if_false]
 by_cases h5 : y.carry.length ≠ y.bulk.length
 ·simp [h5]
 simp only [h5, if_false]
theorem ev_DCheckR (y : Yd) (hs : smallP y) : Ev Try.prog 26 [ydD y] (iD (ydErr y)) := by
 have hlp : (y.pits.map ptD).length = y.pits.length := List.length_map _
 have hld : (y.deps.map dpD).length = y.deps.length := List.length_map _
 rw [yd_split]
 have hB : Ev Try.prog 74 [ydD y] (iD (bErr y)) := ev_bulkingErr y
 by_cases h1 : 8 < y.pits.length
 ·rw [if_pos h1]
  refine ev_of_awp tysOk mixed (fn := Try.f26) Try.func26 rfl rfl rfl ?_
  conv => whnf
  repeat' (first|((with_reducible refine Split.dec (fun _=>?_) (fun _=>?_))<;>conv=>whnf)|(exfalso;first|omega|contradiction)|fail)
  all_goals first
   | rfl
   |(exfalso; omega)
 rw [if_neg h1]
 have z1 := @nmGo_zero _ Pt.name ptErr y.pits []
 have e0 : nmGo Pt.name ptErr [] y.pits = nmGo Pt.name ptErr (y.pits.take 0) (y.pits.drop 0) := rfl
 generalize hE : nmGo Pt.name ptErr [] y.pits = e1 at *
 refine ev_of_awp tysOk mixed (fn := Try.f26) Try.func26 rfl rfl rfl ?_
 conv => whnf
 repeat' (first|((with_reducible refine Split.dec (fun _=>?_) (fun _=>?_))<;>conv=>whnf)|(exfalso;first|omega|contradiction)|fail)
 refine LoopK.o2 (fun i : Nat => i ≤ y.pits.length ∧ e1 = nmGo Pt.name ptErr (y.pits.take i) (y.pits.drop i)) (fun i => [(3, .d (.int .i64 i))]) (fun _ => []) (fun i => y.pits.length - i) 0 ⟨by omega, e0⟩ (by refine ⟨?_, ?_, rfl⟩<;>(repeat' (first|exact True.intro|exact rfl|(refine ⟨?_,?_⟩)|(intro h;cases h;done)|fail));done) ?_
 rintro i ⟨hi, hp⟩
 by_cases hil : i < y.pits.length
 ·obtain ⟨p, hpi⟩ := some_of_lt hil
  rw [nmGo_at hpi] at hp
  have hQ := ev_pitErr p (y.pits.take i) (by rw [List.length_take]; omega) (hs p (List.mem_of_getElem? hpi))
  have hd : ((y.pits.map ptD).take ((i : Int)).toNat).drop (Int.toNat 0) = (y.pits.take i).map ptD := by rw [Int.toNat_natCast, Int.toNat_zero, List.drop_zero, List.map_take]
  rw [← hd] at hQ
  by_cases hz : (if nameB p.name = false then 4 else if metB Pt.name (y.pits.take i) p.name = true then 5 else ptErr p) = 0
  ·rw [hz] at hQ
   have hp : e1 = nmGo Pt.name ptErr (y.pits.take (i + 1)) (y.pits.drop (i + 1)) := by
    rw [hp]
    split at hz
    ·cases hz
    rename_i g1
    rw [if_neg g1]
    split at hz
    ·cases hz
    rename_i g2
    rw [if_neg g2, if_neg (by simpa using hz)]
   conv => whnf
   repeat' (first|((refine PickE.map i hpi (by omega) ?_);conv=>whnf)|((with_reducible refine Split.is_false ?_ ?_);decide;conv=>whnf)|((with_reducible refine Split.dec (fun _=>?_) (fun _=>?_))<;>conv=>whnf)|((with_reducible refine Need.mk ?_ ?_);(first|omega|rfl|decide|(refine ⟨?_,?_⟩<;>simp<;>omega)|(simp;omega));conv=>whnf)|((with_reducible refine Wr.inr ?_ ?_);(first|omega|(simp;omega));conv=>whnf)|((with_reducible refine AltK.l ?_);(conv=>whnf);(first|(refine CallK.mk _ (hQ) ?_));conv=>whnf)|(exfalso;first|omega|contradiction)|fail)
   exact Again.au (i + 1) ⟨by omega, hp⟩ (by omega) (by refine ⟨?_, ?_, rfl⟩<;>(repeat' (first|exact True.intro|exact rfl|(refine ⟨?_,?_⟩)|(intro h;cases h;done)|fail));done)
  ·have hp : e1 = (if nameB p.name = false then 4 else if metB Pt.name (y.pits.take i) p.name = true then 5 else ptErr p) := by
    rw [hp]
    by_cases g1 : nameB p.name = false
    ·rw [if_pos g1, if_pos g1]
    rw [if_neg g1, if_neg g1]
    by_cases g2 : metB Pt.name (y.pits.take i) p.name = true
    ·rw [if_pos g2, if_pos g2]
    rw [if_neg g2, if_neg g2] at *
    rw [if_neg g1] at hz
    rw [if_pos hz]
   rw [← hp] at hQ hz
   rw [if_pos hz]
   conv => whnf
   repeat' (first|((refine PickE.map i hpi (by omega) ?_);conv=>whnf)|((with_reducible refine Split.nez (fun _=>?_) (fun _=>?_))<;>conv=>whnf)|((with_reducible refine Split.dec (fun _=>?_) (fun _=>?_))<;>conv=>whnf)|((with_reducible refine Need.mk ?_ ?_);(first|omega|rfl|decide|(refine ⟨?_,?_⟩<;>simp<;>omega)|(simp;omega));conv=>whnf)|((with_reducible refine Wr.inr ?_ ?_);(first|omega|(simp;omega));conv=>whnf)|((with_reducible refine AltK.l ?_);(conv=>whnf);(first|(refine CallK.mk _ (hQ) ?_));conv=>whnf)|(exfalso;first|omega|contradiction)|fail)
   rfl
 rw [List.drop_eq_nil_of_le (show y.pits.length ≤ i by omega)] at hp
 have hp : e1 = 0 := hp
 subst hp
 rw [if_neg (by decide)]
 have hP : ∀ p ∈ y.pits, PtOk p := fun p hp => pt_ok (z1 rfl p hp).1
 generalize bErr y = eb at *
 by_cases hz : eb = 0
 case neg =>
  rw [if_pos hz]
  conv => whnf
  repeat' (first|((with_reducible refine Split.nez (fun _=>?_) (fun _=>?_))<;>conv=>whnf)|((with_reducible refine Split.dec (fun _=>?_) (fun _=>?_))<;>conv=>whnf)|((with_reducible refine Need.mk ?_ ?_);(first|omega|rfl|decide|(refine ⟨?_,?_⟩<;>simp<;>omega)|(simp;omega));conv=>whnf)|((with_reducible refine AltK.l ?_);(conv=>whnf);(first|(refine CallK.mk _ (hB) ?_));conv=>whnf)|(exfalso;first|omega|contradiction)|fail)
  rfl
 subst hz
 rw [if_neg (by decide)]
 unfold dpsErr
 by_cases h0 : 200 < y.deps.length
 ·rw [if_pos h0]
  conv => whnf
  repeat' (first|((with_reducible refine Split.is_false ?_ ?_);decide;conv=>whnf)|((with_reducible refine Split.dec (fun _=>?_) (fun _=>?_))<;>conv=>whnf)|((with_reducible refine Need.mk ?_ ?_);(first|omega|rfl|decide|(refine ⟨?_,?_⟩<;>simp<;>omega)|(simp;omega));conv=>whnf)|((with_reducible refine AltK.l ?_);(conv=>whnf);(first|(refine CallK.mk _ (hB) ?_));conv=>whnf)|(exfalso;first|omega|contradiction)|fail)
  all_goals first
   | rfl
   |(exfalso; omega)
 rw [if_neg h0]
 have e0 : dpGo y [] y.deps = dpGo y (y.deps.take 0) (y.deps.drop 0) := rfl
 conv => whnf
 repeat' (first|((with_reducible refine Split.is_false ?_ ?_);decide;conv=>whnf)|((with_reducible refine Split.dec (fun _=>?_) (fun _=>?_))<;>conv=>whnf)|((with_reducible refine Need.mk ?_ ?_);(first|omega|rfl|decide|(refine ⟨?_,?_⟩<;>simp<;>omega)|(simp;omega));conv=>whnf)|((with_reducible refine AltK.l ?_);(conv=>whnf);(first|(refine CallK.mk _ (hB) ?_));conv=>whnf)|(exfalso;first|omega|contradiction)|fail)
 refine LoopK.o2 (fun i : Nat => i ≤ y.deps.length ∧ dpGo y [] y.deps = dpGo y (y.deps.take i) (y.deps.drop i)) (fun i => [(6, .d (.int .i64 i))]) (fun _ => []) (fun i => y.deps.length - i) 0 ⟨by omega, e0⟩ (by refine ⟨?_, ?_, rfl⟩<;>(repeat' (first|exact True.intro|exact rfl|(refine ⟨?_,?_⟩)|(intro h;cases h;done)|fail));done) ?_
 rintro i ⟨hi, hp⟩
 by_cases hil : i < y.deps.length
 ·obtain ⟨d, hd⟩ := some_of_lt hil
  rw [dpGo_at hd] at hp
  have w1 := ev_Within d.batch 1 1000000
  have w2 := ev_Within d.vol 0 100000000000000
  have w3 : Ev Try.prog 39 [.sl 6 (y.pits.map ptD), .str d.pit] (iD (pitI y d.pit)) := ev_Find9 y.pits d.pit (by omega)
  have w4 := ev_Deposited (y.deps.take i) d.batch (by rw [List.length_take]; omega)
  have hdd : ((y.deps.map dpD).take ((i : Int)).toNat).drop (Int.toNat 0) = (y.deps.take i).map dpD := by rw [Int.toNat_natCast, Int.toNat_zero, List.drop_zero, List.map_take]
  rw [← hdd] at w4
  generalize (y.deps.take i).any (fun x => x.batch == d.batch) = sn at *
  generalize outsideB d.batch 1 1000000 = b1 at *
  generalize outsideB d.vol 0 100000000000000 = b2 at *
  cases b1 with
  | true =>
   rw [if_pos rfl] at hp
   conv => whnf
   repeat' (first|((refine PickE.map i hd (by omega) ?_);conv=>whnf)|((with_reducible refine Split.of_true ?_);conv=>whnf)|(with_reducible refine Split.neg ?_)|((with_reducible refine Split.dec (fun _=>?_) (fun _=>?_))<;>conv=>whnf)|((with_reducible refine Need.mk ?_ ?_);(first|omega|rfl|decide|(refine ⟨?_,?_⟩<;>simp<;>omega)|(simp;omega));conv=>whnf)|((with_reducible refine AltK.l ?_);(conv=>whnf);(first|(refine CallK.mk _ (w1) ?_)|(refine CallK.mk _ (w2) ?_)|(refine CallK.mk _ (w3) ?_)|(refine CallK.mk _ (w4) ?_));conv=>whnf)|(exfalso;first|omega|contradiction)|fail)
   rw [hp]; rfl
  | false =>
  rw [if_neg (by decide)] at hp
  cases sn with
  | true =>
   rw [if_pos rfl] at hp
   conv => whnf
   repeat' (first|((refine PickE.map i hd (by omega) ?_);conv=>whnf)|((with_reducible first|refine Split.of_true ?_|refine Split.of_false ?_);conv=>whnf)|(with_reducible refine Split.neg ?_)|((with_reducible refine Split.dec (fun _=>?_) (fun _=>?_))<;>conv=>whnf)|((with_reducible refine Need.mk ?_ ?_);(first|omega|rfl|decide|(refine ⟨?_,?_⟩<;>simp<;>omega)|(simp;omega));conv=>whnf)|((with_reducible refine AltK.l ?_);(conv=>whnf);(first|(refine CallK.mk _ (w1) ?_)|(refine CallK.mk _ (w2) ?_)|(refine CallK.mk _ (w3) ?_)|(refine CallK.mk _ (w4) ?_));conv=>whnf)|(exfalso;first|omega|contradiction)|fail)
   rw [hp]; rfl
  | false =>
  rw [if_neg (by decide)] at hp
  by_cases hpt : pitI y d.pit < 0
  ·rw [if_pos hpt] at hp
   conv => whnf
   repeat' (first|((refine PickE.map i hd (by omega) ?_);conv=>whnf)|((with_reducible refine Split.of_false ?_);conv=>whnf)|(with_reducible refine Split.neg ?_)|((with_reducible refine Split.dec (fun _=>?_) (fun _=>?_))<;>conv=>whnf)|((with_reducible refine Split.mk (fun _=>?_) (fun _=>?_))<;>conv=>whnf)|((with_reducible refine Need.mk ?_ ?_);(first|omega|rfl|decide|(refine ⟨?_,?_⟩<;>simp<;>omega)|(simp;omega));conv=>whnf)|((with_reducible refine Wr.inr ?_ ?_);(first|omega|(simp;omega));conv=>whnf)|((with_reducible refine AltK.l ?_);(conv=>whnf);(first|(refine CallK.mk _ (w1) ?_)|(refine CallK.mk _ (w2) ?_)|(refine CallK.mk _ (w3) ?_)|(refine CallK.mk _ (w4) ?_));conv=>whnf)|(exfalso;first|omega|contradiction)|fail)
   all_goals first
    |(rw [hp]; rfl)
    |(exfalso; omega)
  ·rw [if_neg hpt] at hp
   cases b2 with
   | true =>
    rw [if_pos rfl] at hp
    conv => whnf
    repeat' (first|((refine PickE.map i hd (by omega) ?_);conv=>whnf)|((with_reducible first|refine Split.of_true ?_|refine Split.of_false ?_);conv=>whnf)|(with_reducible refine Split.neg ?_)|((with_reducible refine Split.dec (fun _=>?_) (fun _=>?_))<;>conv=>whnf)|((with_reducible refine Need.mk ?_ ?_);(first|omega|rfl|decide|(refine ⟨?_,?_⟩<;>simp<;>omega)|(simp;omega));conv=>whnf)|((with_reducible refine AltK.l ?_);(conv=>whnf);(first|(refine CallK.mk _ (w1) ?_)|(refine CallK.mk _ (w2) ?_)|(refine CallK.mk _ (w3) ?_)|(refine CallK.mk _ (w4) ?_));conv=>whnf)|(exfalso;first|omega|contradiction)|fail)
    all_goals first
     |(rw [hp]; rfl)
     |(exfalso; omega)
   | false =>
    rw [if_neg (by decide)] at hp
    conv => whnf
    repeat' (first|((refine PickE.map i hd (by omega) ?_);conv=>whnf)|((with_reducible refine Split.of_false ?_);conv=>whnf)|(with_reducible refine Split.neg ?_)|((with_reducible refine Split.dec (fun _=>?_) (fun _=>?_))<;>conv=>whnf)|((with_reducible refine Need.mk ?_ ?_);(first|omega|rfl|decide|(refine ⟨?_,?_⟩<;>simp<;>omega)|(simp;omega));conv=>whnf)|((with_reducible refine Wr.inr ?_ ?_);(first|omega|(simp;omega));conv=>whnf)|((with_reducible refine AltK.l ?_);(conv=>whnf);(first|(refine CallK.mk _ (w1) ?_)|(refine CallK.mk _ (w2) ?_)|(refine CallK.mk _ (w3) ?_)|(refine CallK.mk _ (w4) ?_));conv=>whnf)|(exfalso;first|omega|contradiction)|fail)
    all_goals first
     | exact Again.au (i + 1) ⟨by omega, hp⟩ (by omega) (by refine ⟨?_, ?_, rfl⟩<;>(repeat' (first|exact True.intro|exact rfl|(refine ⟨?_,?_⟩)|(intro h;cases h;done)|fail));done)
     |(exfalso; omega)
 ·rw [List.drop_eq_nil_of_le (show y.deps.length ≤ i by omega)] at hp
  have hp : dpGo y [] y.deps = 0 := hp
  have hv := dpGo_vol hp
  rw [hp, if_neg (by decide)]
  conv => whnf
  repeat' (first|((with_reducible refine Split.dec (fun _=>?_) (fun _=>?_))<;>conv=>whnf)|((with_reducible refine Need.mk ?_ ?_);(first|omega|rfl|decide|(refine ⟨?_,?_⟩<;>simp<;>omega)|(simp;omega));conv=>whnf)|(exfalso;first|omega|contradiction)|fail)
  refine LoopK.o2 (fun k : Nat => k ≤ y.pits.length ∧ (y.pits.take k).any (fun p => decide (roomS y p < 0)) = false) (fun k => [(8, .d (.int .i64 k))]) (fun _ => []) (fun k => y.pits.length - k) 0 ⟨by omega, rfl⟩ (by refine ⟨?_, ?_, rfl⟩<;>(repeat' (first|exact True.intro|exact rfl|(refine ⟨?_,?_⟩)|(intro h;cases h;done)|fail));done) ?_
  rintro k ⟨hk, hq⟩
  by_cases hkl : k < y.pits.length
  ·obtain ⟨p, hpk⟩ := some_of_lt hkl
   have hR := ev_Taken9 y hpk hv (by omega)
   have hC := ev_Capacity9 (hP p (List.mem_of_getElem? hpk))
   have hy := @any_yes _ (fun p => decide (roomS y p < 0)) y.pits k p hpk
   have hno := @any_no _ (fun p => decide (roomS y p < 0)) y.pits k p hpk hq
   have er : roomS y p = capS p - takS p.name y.deps := rfl
   rw [er] at hy hno
   generalize takS p.name y.deps = tk at *
   generalize capS p = cp at *
   conv => whnf
   repeat' (first|((refine PickE.map k hpk (by omega) ?_);conv=>whnf)|((with_reducible refine Split.dec (fun _=>?_) (fun _=>?_))<;>conv=>whnf)|((with_reducible refine Need.mk ?_ ?_);(first|omega|rfl|decide|(refine ⟨?_,?_⟩<;>simp<;>omega)|(simp;omega));conv=>whnf)|((with_reducible refine Wr.inr ?_ ?_);(first|omega|(simp;omega));conv=>whnf)|((with_reducible refine AltK.l ?_);(conv=>whnf);(first|(refine CallK.mk _ (hR) ?_)|(refine CallK.mk _ (hC) ?_));conv=>whnf)|(exfalso;first|omega|contradiction)|fail)
   ·rw [hy (by simp; omega), if_pos rfl]; rfl
   ·exact Again.au (k + 1) ⟨by omega, hno (by simp;omega)⟩ (by omega) (by refine ⟨?_, ?_, rfl⟩<;>(repeat' (first|exact True.intro|exact rfl|(refine ⟨?_,?_⟩)|(intro h;cases h;done)|fail));done)
  ·rw [List.take_of_length_le (by omega)] at hq
   rw [hq]
   conv => whnf
   repeat' (first|((with_reducible refine Split.dec (fun _=>?_) (fun _=>?_))<;>conv=>whnf)|(exfalso;first|omega|contradiction)|fail)
   rfl
end Go.Proofs.Try
end

section
namespace Go.Proofs.Try
open Go Go.Vm
set_option maxRecDepth 20000
set_option maxHeartbeats 8000000
theorem ev_CopyInts9 (l : List Int) (hn : l.length ≤ 1000000) : Ev Try.prog 56 [.sl 1 (l.map iD)] (.sl 1 (l.map iD)) := by
 have hl : (l.map iD).length = l.length := List.length_map _
 refine ev_of_awp tysOk mixed (fn := Try.f56) Try.func56 rfl rfl rfl ?_
 conv => whnf
 repeat' (first|((with_reducible refine Need.mk ?_ ?_);(first|omega|rfl|decide|(refine ⟨?_,?_⟩<;>simp<;>omega)|(simp;omega));conv=>whnf)|fail)
 rfl
theorem ev_Copied (y : Yd) (h1 : y.pits.length ≤ 1000) (h2 : y.bulk.length ≤ 1000) (h3 : y.deps.length ≤ 1000) (h4 : y.carry.length ≤ 1000) (hcl : ∀ p ∈ y.pits, p.cls.length ≤ 100000) : Ev Try.prog 14 [ydD y] (ydD y) := by
 have hlp : (y.pits.map ptD).length = y.pits.length := List.length_map _
 have hlb : (y.bulk.map bkD).length = y.bulk.length := List.length_map _
 have hld : (y.deps.map dpD).length = y.deps.length := List.length_map _
 have hlc : (y.carry.map iD).length = y.carry.length := List.length_map _
 have hC := ev_CopyInts9 y.carry (by omega)
 refine ev_of_awp tysOk mixed (fn := Try.f14) Try.func14 rfl rfl rfl ?_
 conv => whnf
 repeat' (first|((with_reducible refine Need.mk ?_ ?_);(first|omega|rfl|decide|(refine ⟨?_,?_⟩<;>simp<;>omega)|(simp;omega));conv=>whnf)|fail)
 refine LoopK.o2 (fun i : Nat => i ≤ y.pits.length) (fun i => [(4, .d (.int .i64 i))]) (fun i => [(1, .var [.own 200 6 ((y.pits.take i).map ptD).length, .d (.sl 3 (y.bulk.map bkD)), .d (.sl 3 (y.deps.map dpD)), .d (.sl 1 (y.carry.map iD))] false), (200, .row 60 6 ((y.pits.take i).map ptD) false)]) (fun i => y.pits.length - i) 0 (by omega) (by refine ⟨?_, ?_, rfl⟩<;>(repeat' (first|exact True.intro|exact rfl|(refine ⟨?_,?_⟩)|(intro h;cases h;done)|fail));done) ?_
 rintro i hi
 have htl : ((y.pits.take i).map ptD).length = i := by simp; omega
 by_cases hil : i < y.pits.length
 ·obtain ⟨p, hp⟩ := some_of_lt hil
  have hc := ev_CopyInts9 p.cls (Nat.le_trans (hcl p (List.mem_of_getElem? hp)) (by decide))
  have hmp1 : (y.pits.take i).map ptD ++ ptD p :: List.replicate 0 (ptD p) = (y.pits.take (i + 1)).map ptD := by rw [take_snoc hp]; simp
  have hmp2 : (y.pits.take i).map ptD ++ [ptD p] = (y.pits.take (i + 1)).map ptD := by rw [take_snoc hp]; simp
  conv => whnf
  repeat' (first|((refine PickE.map i hp (by omega) ?_);conv=>whnf)|((with_reducible refine Split.dec (fun _=>?_) (fun _=>?_))<;>conv=>whnf)|((with_reducible refine Need.mk ?_ ?_);(first|omega|rfl|decide|(refine ⟨?_,?_⟩<;>simp<;>omega)|(simp;omega));conv=>whnf)|((with_reducible refine Wr.inr ?_ ?_);(first|omega|(simp;omega));conv=>whnf)|((with_reducible refine AltK.l ?_);(conv=>whnf);(first|(refine CallK.mk _ (hc) ?_));conv=>whnf)|(exfalso;first|omega|contradiction)|fail)
  exact Again.au (i + 1) (by omega) (by omega) (by refine ⟨?_, ?_, rfl⟩<;>(repeat' (first|exact True.intro|exact rfl|(refine ⟨?_,?_⟩)|(intro h;cases h;done)|exact hmp1|((first|refine own_congr ?_|refine int_congr ?_);simp [List.length_map];omega)|fail));done)
 ·have e : y.pits.take i = y.pits := List.take_of_length_le (by omega)
  rw [e] at htl ⊢
  conv => whnf
  repeat' (first|((with_reducible refine Split.dec (fun _=>?_) (fun _=>?_))<;>conv=>whnf)|((with_reducible refine Need.mk ?_ ?_);(first|omega|rfl|decide|(refine ⟨?_,?_⟩<;>simp<;>omega)|(simp;omega));conv=>whnf)|((with_reducible refine AltK.l ?_);(conv=>whnf);(first|(refine CallK.mk _ (hC) ?_));conv=>whnf)|(exfalso;first|omega|contradiction)|fail)
  rfl
def smallA (y : Yd) : Bool := !((decide (y.pits.length > 4) && decide (y.pits.length ≤ 8)) || decide (y.pits.length > 12) || (decide (y.bulk.length > 4) && decide (y.bulk.length ≤ 20)) || decide (y.bulk.length > 25) || decide (y.carry.length > 30) || (decide (y.deps.length > 8) && decide (y.deps.length ≤ 200)) || decide (y.deps.length > 205))
def smallB (y : Yd) : Bool := smallA y && y.pits.all (fun p => decide (p.name.size ≤ 40) && decide (p.cls.length ≤ 12)) && y.bulk.all (fun b => decide (b.soil.size ≤ 40)) && y.deps.all (fun d => decide (d.pit.size ≤ 40))
structure SmOk (y : Yd) : Prop where
 p : y.pits.length ≤ 4 ∨ (8 < y.pits.length ∧ y.pits.length ≤ 12)
 b : y.bulk.length ≤ 4 ∨ (20 < y.bulk.length ∧ y.bulk.length ≤ 25)
 c : y.carry.length ≤ 30
 d : y.deps.length ≤ 8 ∨ (200 < y.deps.length ∧ y.deps.length ≤ 205)
theorem sm_ok {y : Yd} (h : smallA y = true) : SmOk y := by
 simp only [smallA, Bool.not_eq_true', Bool.or_eq_false_iff, Bool.and_eq_false_iff, decide_eq_false_iff_not] at h
 exact ⟨by omega, by omega, by omega, by omega⟩
theorem sm_no {y : Yd} (h : smallA y = false) : ¬ SmOk y := by
 intro ⟨h1, h2, h3, h4⟩
 have : smallA y = true := by
  simp only [smallA, Bool.not_eq_true', Bool.or_eq_false_iff, Bool.and_eq_false_iff, decide_eq_false_iff_not]
  omega
 rw [h] at this; cases this
theorem all_snoc9 {α : Type} {l : List α} {p : α → Bool} {i : Nat} {m : α} (hm : l[i]? = some m) (h : (l.take i).all p = true) (hp : p m = true) : (l.take (i + 1)).all p = true := by
 rw [take_snoc hm, List.all_append, h]; simp [hp]
theorem all_not9 {α : Type} {l : List α} {p : α → Bool} {i : Nat} {m : α} (hm : l[i]? = some m) (hp : p m = false) : l.all p = false := by
 rw [List.all_eq_false]; exact ⟨m, List.mem_of_getElem? hm, by simp [hp]⟩
theorem ev_Small (y : Yd) : Ev Try.prog 12 [ydD y] (.bool (smallB y)) := by
 have hlp : (y.pits.map ptD).length = y.pits.length := List.length_map _
 have hlb : (y.bulk.map bkD).length = y.bulk.length := List.length_map _
 have hld : (y.deps.map dpD).length = y.deps.length := List.length_map _
 have hlc : (y.carry.map iD).length = y.carry.length := List.length_map _
 cases hA : smallA y with
 | false =>
  have hno := sm_no hA
  have e : smallB y = false := by rw [smallB, hA]; rfl
  have hx : ¬ ((y.pits.length ≤ 4 ∨ (8 < y.pits.length ∧ y.pits.length ≤ 12)) ∧ (y.bulk.length ≤ 4 ∨ (20 < y.bulk.length ∧ y.bulk.length ≤ 25)) ∧ y.carry.length ≤ 30 ∧ (y.deps.length ≤ 8 ∨ (200 < y.deps.length ∧ y.deps.length ≤ 205))) := fun h => hno ⟨h.1, h.2.1, h.2.2.1, h.2.2.2⟩
  rw [e]
  refine ev_of_awp tysOk mixed (fn := Try.f12) Try.func12 rfl rfl rfl ?_
  conv => whnf
  repeat' (first|((with_reducible first|refine Split.of_true ?_|refine Split.of_false ?_);conv=>whnf)|((with_reducible refine Split.dec (fun _=>?_) (fun _=>?_))<;>conv=>whnf)|(exfalso;first|omega|contradiction)|fail)
  all_goals first
   | rfl
   |(exfalso; omega)
 | true =>
 obtain ⟨q1, q2, q3, q4⟩ := sm_ok hA
 have e : smallB y = (y.pits.all (fun p => decide (p.name.size ≤ 40) && decide (p.cls.length ≤ 12)) && y.bulk.all (fun b => decide (b.soil.size ≤ 40)) && y.deps.all (fun d => decide (d.pit.size ≤ 40))) := by rw [smallB, hA, Bool.true_and]
 rw [e]
 clear e hA
 refine ev_of_awp tysOk mixed (fn := Try.f12) Try.func12 rfl rfl rfl ?_
 conv => whnf
 repeat' (first|((with_reducible first|refine Split.of_true ?_|refine Split.of_false ?_);conv=>whnf)|((with_reducible refine Split.dec (fun _=>?_) (fun _=>?_))<;>conv=>whnf)|(exfalso;first|omega|contradiction)|fail)
 all_goals first
  |(exfalso; omega)
  | skip
 all_goals
  refine LoopK.o2 (fun i : Nat => i ≤ y.pits.length ∧ (y.pits.take i).all (fun p => decide (p.name.size ≤ 40) && decide (p.cls.length ≤ 12)) = true) (fun i => [(3, .d (.int .i64 i))]) (fun _ => []) (fun i => y.pits.length - i) 0 ⟨by omega, rfl⟩ (by refine ⟨?_, ?_, rfl⟩<;>(repeat' (first|exact True.intro|exact rfl|(refine ⟨?_,?_⟩)|(intro h;cases h;done)|fail));done) ?_
  rintro i ⟨hi, hp⟩
  by_cases hil : i < y.pits.length
  ·obtain ⟨p, hpi⟩ := some_of_lt hil
   have hcl : (p.cls.map iD).length = p.cls.length := List.length_map _
   have hn := @all_not9 _ y.pits (fun p => decide (p.name.size ≤ 40) && decide (p.cls.length ≤ 12)) i p hpi
   have hy := @all_snoc9 _ y.pits (fun p => decide (p.name.size ≤ 40) && decide (p.cls.length ≤ 12)) i p hpi hp
   clear hp
   conv => whnf
   repeat' (first|((refine PickE.map i hpi (by omega) ?_);conv=>whnf)|((with_reducible refine Split.of_true ?_);conv=>whnf)|((with_reducible refine Split.dec (fun _=>?_) (fun _=>?_))<;>conv=>whnf)|((with_reducible refine Need.mk ?_ ?_);(first|omega|rfl|decide|(refine ⟨?_,?_⟩<;>simp<;>omega)|(simp;omega));conv=>whnf)|((with_reducible refine Wr.inr ?_ ?_);(first|omega|(simp;omega));conv=>whnf)|(exfalso;first|omega|contradiction)|fail)
   all_goals first
    | exact Again.au (i + 1) ⟨by omega, hy (by simp;omega)⟩ (by omega) (by refine ⟨?_, ?_, rfl⟩<;>(repeat' (first|exact True.intro|exact rfl|(refine ⟨?_,?_⟩)|(intro h;cases h;done)|fail));done)
    |(rw [hn (by simp; omega)]; rfl)
  rw [List.take_of_length_le (by omega)] at hp
  rw [hp, Bool.true_and]
  clear hp
  conv => whnf
  repeat' (first|((with_reducible refine Split.dec (fun _=>?_) (fun _=>?_))<;>conv=>whnf)|((with_reducible refine Need.mk ?_ ?_);(first|omega|rfl|decide|(refine ⟨?_,?_⟩<;>simp<;>omega)|(simp;omega));conv=>whnf)|(exfalso;first|omega|contradiction)|fail)
  refine LoopK.o2 (fun i : Nat => i ≤ y.bulk.length ∧ (y.bulk.take i).all (fun b => decide (b.soil.size ≤ 40)) = true) (fun i => [(4, .d (.int .i64 i))]) (fun _ => []) (fun i => y.bulk.length - i) 0 ⟨by omega, rfl⟩ (by refine ⟨?_, ?_, rfl⟩<;>(repeat' (first|exact True.intro|exact rfl|(refine ⟨?_,?_⟩)|(intro h;cases h;done)|fail));done) ?_
  rintro i ⟨hi, hp⟩
  by_cases hil : i < y.bulk.length
  ·obtain ⟨p, hpi⟩ := some_of_lt hil
   have hn := @all_not9 _ y.bulk (fun b => decide (b.soil.size ≤ 40)) i p hpi
   have hy := @all_snoc9 _ y.bulk (fun b => decide (b.soil.size ≤ 40)) i p hpi hp
   clear hp
   conv => whnf
   repeat' (first|((refine PickE.map i hpi (by omega) ?_);conv=>whnf)|((with_reducible refine Split.dec (fun _=>?_) (fun _=>?_))<;>conv=>whnf)|((with_reducible refine Need.mk ?_ ?_);(first|omega|rfl|decide|(refine ⟨?_,?_⟩<;>simp<;>omega)|(simp;omega));conv=>whnf)|((with_reducible refine Wr.inr ?_ ?_);(first|omega|(simp;omega));conv=>whnf)|(exfalso;first|omega|contradiction)|fail)
   all_goals first
    | exact Again.au (i + 1) ⟨by omega, hy (by simp;omega)⟩ (by omega) (by refine ⟨?_, ?_, rfl⟩<;>(repeat' (first|exact True.intro|exact rfl|(refine ⟨?_,?_⟩)|(intro h;cases h;done)|fail));done)
    |(rw [hn (by simp; omega)]; rfl)
  rw [List.take_of_length_le (by omega)] at hp
  rw [hp, Bool.true_and]
  clear hp
  conv => whnf
  repeat' (first|((with_reducible refine Split.dec (fun _=>?_) (fun _=>?_))<;>conv=>whnf)|((with_reducible refine Need.mk ?_ ?_);(first|omega|rfl|decide|(refine ⟨?_,?_⟩<;>simp<;>omega)|(simp;omega));conv=>whnf)|(exfalso;first|omega|contradiction)|fail)
  refine LoopK.o2 (fun i : Nat => i ≤ y.deps.length ∧ (y.deps.take i).all (fun b => decide (b.pit.size ≤ 40)) = true) (fun i => [(5, .d (.int .i64 i))]) (fun _ => []) (fun i => y.deps.length - i) 0 ⟨by omega, rfl⟩ (by refine ⟨?_, ?_, rfl⟩<;>(repeat' (first|exact True.intro|exact rfl|(refine ⟨?_,?_⟩)|(intro h;cases h;done)|fail));done) ?_
  rintro i ⟨hi, hp⟩
  by_cases hil : i < y.deps.length
  ·obtain ⟨p, hpi⟩ := some_of_lt hil
   have hn := @all_not9 _ y.deps (fun b => decide (b.pit.size ≤ 40)) i p hpi
   have hy := @all_snoc9 _ y.deps (fun b => decide (b.pit.size ≤ 40)) i p hpi hp
   clear hp
   conv => whnf
   repeat' (first|((refine PickE.map i hpi (by omega) ?_);conv=>whnf)|((with_reducible refine Split.dec (fun _=>?_) (fun _=>?_))<;>conv=>whnf)|((with_reducible refine Need.mk ?_ ?_);(first|omega|rfl|decide|(refine ⟨?_,?_⟩<;>simp<;>omega)|(simp;omega));conv=>whnf)|((with_reducible refine Wr.inr ?_ ?_);(first|omega|(simp;omega));conv=>whnf)|(exfalso;first|omega|contradiction)|fail)
   all_goals first
    | exact Again.au (i + 1) ⟨by omega, hy (by simp;omega)⟩ (by omega) (by refine ⟨?_, ?_, rfl⟩<;>(repeat' (first|exact True.intro|exact rfl|(refine ⟨?_,?_⟩)|(intro h;cases h;done)|fail));done)
    |(rw [hn (by simp; omega)]; rfl)
  rw [List.take_of_length_le (by omega)] at hp
  rw [hp]
  conv => whnf
  repeat' (first|((with_reducible refine Split.dec (fun _=>?_) (fun _=>?_))<;>conv=>whnf)|((with_reducible refine Need.mk ?_ ?_);(first|omega|rfl|decide|(refine ⟨?_,?_⟩<;>simp<;>omega)|(simp;omega));conv=>whnf)|(exfalso;first|omega|contradiction)|fail)
  rfl
end Go.Proofs.Try
end

section
namespace Go.Proofs.Try
open Go Go.Vm
set_option maxRecDepth 20000
set_option maxHeartbeats 8000000
theorem ev_deposits9 (a b : List Dp) (h : a.length ≤ 1000000) : Ev Try.prog 43 [.sl 3 (a.map dpD), .sl 3 (b.map dpD)] (.bool (eqB a b)) := by
 have hla : (a.map dpD).length = a.length := List.length_map _
 have hlb : (b.map dpD).length = b.length := List.length_map _
 refine ev_of_awp tysOk mixed (fn := Try.f43) Try.func43 rfl rfl rfl ?_
 conv => whnf
 repeat' (first|((with_reducible refine Split.nez (fun _=>?_) (fun _=>?_))<;>conv=>whnf)|fail)
 ·exact congrArg D.bool (eqB_ne fun e => by subst e; omega).symm
 refine LoopK.o2 (fun i : Nat => i ≤ a.length ∧ a.take i = b.take i) (fun i => [(5, .d (.int .i64 i))]) (fun _ => []) (fun i => a.length - i) 0 (by simp) (by refine ⟨?_, ?_, rfl⟩<;>(repeat' (first|exact True.intro|exact rfl|(refine ⟨?_,?_⟩)|fail));done) ?_
 rintro i ⟨hi, ht⟩
 have hab : a.length = b.length := by omega
 by_cases hil : i < a.length
 ·obtain ⟨x, hx⟩ := some_of_lt hil
  obtain ⟨y, hy⟩ := some_of_lt (show i < b.length by omega)
  have hne : x ≠ y → eqB a b = false := fun h => eqB_ne fun e => h (by subst e; exact Option.some.inj (hx.symm.trans hy))
  conv => whnf
  repeat' (first|((refine PickE.map i hy (by omega) ?_);conv=>whnf)|((refine PickE.map i hx (by omega) ?_);conv=>whnf)|((with_reducible refine Split.of_true ?_);conv=>whnf)|(with_reducible refine Split.neg ?_)|((with_reducible refine Split.eqz (fun _=>?_) (fun _=>?_))<;>conv=>whnf)|(with_reducible refine Split.and ?_)|((with_reducible refine Split.streq (fun _=>?_) (fun _=>?_))<;>conv=>whnf)|((with_reducible refine Split.dec (fun _=>?_) (fun _=>?_))<;>conv=>whnf)|((with_reducible refine Need.mk ?_ ?_);(first|omega|rfl|decide|(refine ⟨?_,?_⟩<;>simp<;>omega)|(simp;omega));conv=>whnf)|((with_reducible refine Wr.inr ?_ ?_);(first|omega|(simp;omega));conv=>whnf)|(exfalso;first|omega|contradiction)|fail)
  all_goals first
   |(exact congrArg D.bool (hne fun e => by subst e; contradiction).symm)
   |(have e : x = y := by
      cases x
      cases y
      simp only [Dp.mk.injEq]
      exact ⟨by assumption, by assumption, by assumption⟩
     subst e
     exact Again.au (i + 1) ⟨by omega, take_succ_eq hx hy ht⟩ (by omega) (by refine ⟨?_, ?_, rfl⟩<;>(repeat' (first|exact True.intro|exact rfl|(refine ⟨?_,?_⟩)|fail));done))
 ·conv => whnf
  repeat' (first|((with_reducible refine Split.dec (fun _=>?_) (fun _=>?_))<;>conv=>whnf)|((with_reducible refine Need.mk ?_ ?_);(first|omega|rfl|decide|(refine ⟨?_,?_⟩<;>simp<;>omega)|(simp;omega));conv=>whnf)|(exfalso;first|omega|contradiction)|fail)
  exact congrArg D.bool (eqB_of (eq_of_take ht (by omega) (by omega))).symm
end Go.Proofs.Try
end

section
namespace Go.Proofs.Try
open Go Go.Vm
set_option maxRecDepth 20000
set_option maxHeartbeats 8000000
structure SmB (y : Yd) : Prop where
 p : y.pits.length ≤ 12
 b : y.bulk.length ≤ 25
 c : y.carry.length ≤ 30
 d : y.deps.length ≤ 205
 cl : ∀ x ∈ y.pits, x.cls.length ≤ 12
theorem smB {y : Yd} (h : smallB y = true) : SmB y := by
 simp only [smallB, Bool.and_eq_true, List.all_eq_true, decide_eq_true_eq] at h
 obtain ⟨⟨⟨h1, h2⟩, -⟩, -⟩ := h
 obtain ⟨q1, q2, q3, q4⟩ := sm_ok h1
 exact ⟨by omega, by omega, by omega, by omega, fun x hx => (h2 x hx).2⟩
theorem SmB.copied {y : Yd} (h : SmB y) : Ev Try.prog 14 [ydD y] (ydD y) :=
 ev_Copied y (by have := h.p; omega) (by have := h.b; omega) (by have := h.d; omega) (by have := h.c; omega) (fun p hp => Nat.le_trans (h.cl p hp) (by decide))
theorem SmB.sp {y : Yd} (h : SmB y) : smallP y := fun p hp => Nat.le_trans (h.cl p hp) (by decide)
theorem ev_Taken1 (y : Yd) (p : Pt) (hv : volOk y.deps) (hn : y.deps.length ≤ 300) : Ev Try.prog 79 [ptD p, .ref (ydD y).cells 0] (iD (takS p.name y.deps)) := by
 have h := ev_taken y p.name hv hn
 refine ev_of_awp tysOk mixed (fn := Try.f79) Try.func79 rfl rfl rfl ?_
 conv => whnf
 repeat' (first|((with_reducible refine Need.mk ?_ ?_);(first|omega|rfl|decide|(refine ⟨?_,?_⟩<;>simp<;>omega)|(simp;omega));conv=>whnf)|((with_reducible refine AltK.l ?_);(conv=>whnf);(first|(refine CallK.mk _ (h) ?_));conv=>whnf)|fail)
 rfl
theorem ev_Room1 (y : Yd) (p : Pt) (hp : PtOk p) (hv : volOk y.deps) (hn : y.deps.length ≤ 300) : Ev Try.prog 85 [ptD p, .ref (ydD y).cells 0] (iD (roomS y p)) := by
 have h := ev_room y hp hv hn
 refine ev_of_awp tysOk mixed (fn := Try.f85) Try.func85 rfl rfl rfl ?_
 conv => whnf
 repeat' (first|((with_reducible refine Need.mk ?_ ?_);(first|omega|rfl|decide|(refine ⟨?_,?_⟩<;>simp<;>omega)|(simp;omega));conv=>whnf)|((with_reducible refine AltK.l ?_);(conv=>whnf);(first|(refine CallK.mk _ (h) ?_));conv=>whnf)|fail)
 rfl
def levS9 (y : Yd) (p : Pt) : Int := p.base + (takS p.name y.deps + p.area - 1) / p.area
theorem ev_Level1 (y : Yd) (p : Pt) (hp : PtOk p) (hv : volOk y.deps) (hn : y.deps.length ≤ 300) : Ev Try.prog 87 [ptD p, .ref (ydD y).cells 0] (iD (levS9 y p)) := by
 have h := ev_taken y p.name hv hn
 have b2 := takS_bd p.name y.deps hv
 have ha := hp.area
 have hb := hp.base
 unfold levS9
 generalize takS p.name y.deps = t at *
 have d1 := Int.ediv_nonneg (a := t + p.area - 1) (b := p.area) (by omega) (by omega)
 have d2 := Int.ediv_le_self (a := t + p.area - 1) p.area (by omega)
 refine ev_of_awp tysOk mixed (fn := Try.f87) Try.func87 rfl rfl rfl ?_
 conv => whnf
 repeat' (first|((with_reducible refine Need.mk ?_ ?_);(first|omega|rfl|decide|(refine ⟨?_,?_⟩<;>simp<;>omega)|(simp;omega));conv=>whnf)|((with_reducible refine Wr.quo ?_ ?_ ?_ ?_);omega;omega;omega;conv=>whnf)|((with_reducible refine Wr.inr ?_ ?_);(first|omega|(simp;omega));conv=>whnf)|((with_reducible refine AltK.l ?_);(conv=>whnf);(first|(refine CallK.mk _ (h) ?_));conv=>whnf)|fail)
 rfl
end Go.Proofs.Try
end

section
namespace Go.Proofs.Try
open Go Go.Vm
set_option maxRecDepth 20000
set_option maxHeartbeats 8000000
def pitE (y : Yd) (s : ByteArray) : Int := if ydErr y ≠ 0 then ydErr y else if pitI y s < 0 then 6 else 0
theorem pitE_ok {y : Yd} {s : ByteArray} (h : pitE y s = 0) : ydErr y = 0 ∧ ∃ (k : Nat) (p : Pt), pitI y s = k ∧ y.pits[k]? = some p ∧ p.name = s := by
 unfold pitE at h
 split at h
 ·contradiction
 rename_i h1
 split at h
 ·cases h
 rename_i h2
 obtain ⟨k, p, hk, hp, he⟩ := ix_at h2
 exact ⟨by simpa using h1, k, p, hk, hp, sEq_eq he⟩
theorem ev_ofNo (y : Yd) (s : ByteArray) (F : Nat) (caps : List D) (hs : smallP y) (h : pitE y s ≠ 0) : Ev Try.prog 78 [ydD y, .str s, .fn F caps] (.tup [iD 0, iD (pitE y s)]) := by
 have h1 := ev_DCheck y hs
 by_cases h0 : ydErr y = 0
 ·have hY := yd_ok h0
  have hp8 := hY.pits
  have h2 := ev_pitOf y s (by omega)
  rw [h0] at h1
  by_cases hi : pitI y s < 0
  ·have e : pitE y s = 6 := by rw [pitE, if_neg (by simpa using h0), if_pos hi]
   rw [e]
   refine ev_of_awp tysOk mixed (fn := Try.f78) Try.func78 rfl rfl rfl ?_
   conv => whnf
   repeat' (first|((with_reducible refine Split.is_false ?_ ?_);decide;conv=>whnf)|((with_reducible refine Split.dec (fun _=>?_) (fun _=>?_))<;>conv=>whnf)|((with_reducible refine Need.mk ?_ ?_);(first|omega|rfl|decide|(refine ⟨?_,?_⟩<;>simp<;>omega)|(simp;omega));conv=>whnf)|((with_reducible refine AltK.l ?_);(conv=>whnf);(first|(refine CallK.mk _ (h1) ?_)|(refine CallK.mk _ (h2) ?_));conv=>whnf)|(exfalso;first|omega|contradiction)|fail)
   all_goals first
    | rfl
    |(exfalso; omega)
  ·exact absurd (by rw [pitE, if_neg (by simpa using h0), if_neg hi]) h
 ·have e : pitE y s = ydErr y := by rw [pitE, if_pos h0]
  rw [e]
  refine ev_of_awp tysOk mixed (fn := Try.f78) Try.func78 rfl rfl rfl ?_
  conv => whnf
  repeat' (first|((with_reducible refine Split.nez (fun _=>?_) (fun _=>?_))<;>conv=>whnf)|((with_reducible refine AltK.l ?_);(conv=>whnf);(first|(refine CallK.mk _ (h1) ?_));conv=>whnf)|(exfalso;first|omega|contradiction)|fail)
  rfl
theorem ev_ofOk {y : Yd} {s : ByteArray} (F : Nat) (caps : List D) (hs : smallP y) {k : Nat} {p : Pt} {v : Int} (h0 : ydErr y = 0) (hk : pitI y s = k) (hp : y.pits[k]? = some p) (hF : Ev Try.prog F ([ptD p] ++ caps) (iD v)) : Ev Try.prog 78 [ydD y, .str s, .fn F caps] (.tup [iD v, iD 0]) := by
 have h1 := ev_DCheck y hs
 have hY := yd_ok h0
 have hp8 := hY.pits
 have h2 := ev_pitOf y s (by omega)
 rw [h0] at h1
 rw [hk] at h2
 refine ev_of_awp tysOk mixed (fn := Try.f78) Try.func78 rfl rfl rfl ?_
 conv => whnf
 repeat' (first|((refine PickE.map k hp (by omega) ?_);conv=>whnf)|((with_reducible refine Split.is_false ?_ ?_);decide;conv=>whnf)|((with_reducible refine Split.dec (fun _=>?_) (fun _=>?_))<;>conv=>whnf)|((with_reducible refine Need.mk ?_ ?_);(first|omega|rfl|decide|(refine ⟨?_,?_⟩<;>simp<;>omega)|(simp;omega));conv=>whnf)|((with_reducible refine AltK.l ?_);(conv=>whnf);(first|(refine CallK.mk _ (h1) ?_)|(refine CallK.mk _ (h2) ?_));conv=>whnf)|(exfalso;first|omega|contradiction)|fail)
 refine AltK.l ?_
 conv => whnf
 refine CallK.mk _ hF ?_
 conv => whnf
 skip
 rfl
theorem ev_TakenNo (y : Yd) (s : ByteArray) (hs : smallP y) (h : pitE y s ≠ 0) : Ev Try.prog 32 [ydD y, .str s] (.tup [iD 0, iD (pitE y s)]) := by
 have h1 := ev_ofNo y s 79 [.ref (ydD y).cells 0] hs h
 refine ev_of_awp tysOk mixed (fn := Try.f32) Try.func32 rfl rfl rfl ?_
 conv => whnf
 repeat' (first|((with_reducible refine AltK.l ?_);(conv=>whnf);(first|(refine CallK.mk _ (h1) ?_));conv=>whnf)|fail)
 rfl
theorem ev_RoomNo (y : Yd) (s : ByteArray) (hs : smallP y) (h : pitE y s ≠ 0) : Ev Try.prog 36 [ydD y, .str s] (.tup [iD 0, iD (pitE y s)]) := by
 have h1 := ev_ofNo y s 85 [.ref (ydD y).cells 0] hs h
 refine ev_of_awp tysOk mixed (fn := Try.f36) Try.func36 rfl rfl rfl ?_
 conv => whnf
 repeat' (first|((with_reducible refine AltK.l ?_);(conv=>whnf);(first|(refine CallK.mk _ (h1) ?_));conv=>whnf)|fail)
 rfl
theorem ev_LevelNo (y : Yd) (s : ByteArray) (hs : smallP y) (h : pitE y s ≠ 0) : Ev Try.prog 37 [ydD y, .str s] (.tup [iD 0, iD (pitE y s)]) := by
 have h1 := ev_ofNo y s 87 [.ref (ydD y).cells 0] hs h
 refine ev_of_awp tysOk mixed (fn := Try.f37) Try.func37 rfl rfl rfl ?_
 conv => whnf
 repeat' (first|((with_reducible refine AltK.l ?_);(conv=>whnf);(first|(refine CallK.mk _ (h1) ?_));conv=>whnf)|fail)
 rfl
theorem ev_TakenOk {y : Yd} {s : ByteArray} (hs : smallP y) {k : Nat} {p : Pt} (h0 : ydErr y = 0) (hk : pitI y s = k) (hp : y.pits[k]? = some p) : Ev Try.prog 32 [ydD y, .str s] (.tup [iD (takS p.name y.deps), iD 0]) := by
 have hY := yd_ok h0
 have h1 := ev_ofOk 79 [.ref (ydD y).cells 0] hs h0 hk hp (ev_Taken1 y p hY.vol (by have := hY.deps; omega))
 refine ev_of_awp tysOk mixed (fn := Try.f32) Try.func32 rfl rfl rfl ?_
 conv => whnf
 repeat' (first|((with_reducible refine AltK.l ?_);(conv=>whnf);(first|(refine CallK.mk _ (h1) ?_));conv=>whnf)|fail)
 rfl
theorem ev_RoomOk {y : Yd} {s : ByteArray} (hs : smallP y) {k : Nat} {p : Pt} (h0 : ydErr y = 0) (hk : pitI y s = k) (hp : y.pits[k]? = some p) : Ev Try.prog 36 [ydD y, .str s] (.tup [iD (roomS y p), iD 0]) := by
 have hY := yd_ok h0
 have h1 := ev_ofOk 85 [.ref (ydD y).cells 0] hs h0 hk hp (ev_Room1 y p (hY.pit p (List.mem_of_getElem? hp)).1 hY.vol (by have := hY.deps; omega))
 refine ev_of_awp tysOk mixed (fn := Try.f36) Try.func36 rfl rfl rfl ?_
 conv => whnf
 repeat' (first|((with_reducible refine AltK.l ?_);(conv=>whnf);(first|(refine CallK.mk _ (h1) ?_));conv=>whnf)|fail)
 rfl
theorem ev_LevelOk {y : Yd} {s : ByteArray} (hs : smallP y) {k : Nat} {p : Pt} (h0 : ydErr y = 0) (hk : pitI y s = k) (hp : y.pits[k]? = some p) : Ev Try.prog 37 [ydD y, .str s] (.tup [iD (levS9 y p), iD 0]) := by
 have hY := yd_ok h0
 have h1 := ev_ofOk 87 [.ref (ydD y).cells 0] hs h0 hk hp (ev_Level1 y p (hY.pit p (List.mem_of_getElem? hp)).1 hY.vol (by have := hY.deps; omega))
 refine ev_of_awp tysOk mixed (fn := Try.f37) Try.func37 rfl rfl rfl ?_
 conv => whnf
 repeat' (first|((with_reducible refine AltK.l ?_);(conv=>whnf);(first|(refine CallK.mk _ (h1) ?_));conv=>whnf)|fail)
 rfl
theorem ev_Layers1 (d : Dp) (s : ByteArray) : Ev Try.prog 90 [dpD d, .ref [.str s] 0] (.bool (!sEq d.pit s)) := by
 refine ev_of_awp tysOk mixed (fn := Try.f90) Try.func90 rfl rfl rfl ?_
 conv => whnf
 skip
 rfl
end Go.Proofs.Try
end

section
namespace Go.Proofs.Try
open Go Go.Vm
set_option maxRecDepth 20000
set_option maxHeartbeats 8000000
theorem xv_IndexDX (l : List Dp) (f : Nat) (caps : List D) (p : Dp → Bool) (hn : l.length ≤ 1000000) (hf : ∀ g ∈ l, Ev Try.prog f ([dpD g] ++ caps) (.bool (p g))) :
 EvX Try.prog 112 [.own 1000 3 (l.map dpD).length, .d (.fn f caps)] [(1000, .row 81 3 (l.map dpD) false)] (.d (.int .i64 (match l.findIdx? p with | some i => (i : Int) | none => -1))) [(1000, .row 81 3 (l.map dpD) false)] := by
 have hlen : (l.map dpD).length = l.length := List.length_map _
 refine evx_of_awp tysOk mixed (fn := Try.f112) Try.func112 rfl rfl rfl ?_
 conv => whnf
 skip
 refine LoopK.o2 (fun i : Nat => i ≤ l.length ∧ ∀ g ∈ l.take i, p g = false) (fun i => [(8, .d (.int .i64 i))]) (fun _ => []) (fun i => l.length - i) 0 (by simp) (by refine ⟨?_, ?_, rfl⟩<;>(repeat' (first|exact True.intro|exact rfl|(refine ⟨?_,?_⟩)|(intro h;cases h;done)|fail));done) ?_
 rintro i ⟨hi, hp⟩
 have hn : (i : Int) < l.length → ∃ m, l[i]? = some m := fun h => some_of_lt (by omega)
 conv => whnf
 repeat' (first|((with_reducible refine Split.dec (fun _=>?_) (fun _=>?_))<;>conv=>whnf)|((with_reducible refine Need.mk ?_ ?_);(first|omega|rfl|decide|(refine ⟨?_,?_⟩<;>simp<;>omega)|(simp;omega));conv=>whnf)|fail)
 ·obtain ⟨g, hg⟩ := hn (by omega)
  have hf := hf g (List.mem_of_getElem? hg)
  conv => whnf
  repeat' (first|((refine PickE.map i hg (by omega) ?_);conv=>whnf)|((with_reducible refine Need.mk ?_ ?_);(first|omega|rfl|decide|(refine ⟨?_,?_⟩<;>simp<;>omega)|(simp;omega));conv=>whnf)|fail)
  refine AltK.l ?_
  conv => whnf
  refine CallK.mk _ hf ?_
  conv => whnf
  refine Split.mk (fun hpg => ?_) (fun hpg => ?_)
  ·conv => whnf
   skip
   have e : l.findIdx? p = some i := by
    rw [List.findIdx?_eq_some_iff_getElem]
    refine ⟨by omega, by rw [(List.getElem?_eq_some_iff.1 hg).2]; exact hpg, fun j hj => ?_⟩
    have := hp l[j] (List.mem_take_iff_getElem.2 ⟨j, by omega, rfl⟩)
    rw [this]; decide
   rw [e]
   exact ⟨⟨[], (by refine ⟨?_, ?_, rfl⟩<;>(repeat' (first|exact True.intro|exact rfl|(refine ⟨?_,?_⟩)|(intro h;cases h;done)|fail));done)⟩, rfl⟩
  ·conv => whnf
   conv => whnf
   repeat' (first|((with_reducible refine Wr.inr ?_ ?_);(first|omega|(simp;omega));conv=>whnf)|fail)
   refine Again.au (i + 1) ⟨by omega, fun x hx => ?_⟩ (by omega) (by refine ⟨?_, ?_, rfl⟩<;>(repeat' (first|exact True.intro|exact rfl|(refine ⟨?_,?_⟩)|(intro h;cases h;done)|fail));done)
   rw [take_snoc hg] at hx
   rcases List.mem_append.1 hx with hx | hx
   ·exact hp x hx
   ·rw [List.mem_singleton.1 hx]; exact hpg
 ·have e : l.findIdx? p = none := by
   rw [List.findIdx?_eq_none_iff]
   intro x hx
   rw [← List.take_of_length_le (show l.length ≤ i by omega)] at hx
   exact hp x hx
  rw [e]
  exact ⟨⟨[], (by refine ⟨?_, ?_, rfl⟩<;>(repeat' (first|exact True.intro|exact rfl|(refine ⟨?_,?_⟩)|(intro h;cases h;done)|fail));done)⟩, rfl⟩
theorem xv_delD0 (l : List Dp) (f : Nat) (caps : List D) (p : Dp → Bool) (hn : l.length ≤ 1000000) (hf : ∀ g ∈ l, Ev Try.prog f ([dpD g] ++ caps) (.bool (p g))) (h0 : l.findIdx? p = none) :
 EvX Try.prog 88 [.own 1000 3 (l.map dpD).length, .d (.fn f caps)] [(1000, .row 81 3 (l.map dpD) false)] (.own 1000 3 (l.map dpD).length) [(1000, .row 81 3 (l.map dpD) false)] := by
 have hlen : (l.map dpD).length = l.length := List.length_map _
 have h := xv_IndexDX l f caps p hn hf
 rw [h0] at h
 refine evx_of_awp tysOk mixed (fn := Try.f88) Try.func88 rfl rfl rfl ?_
 conv => whnf
 repeat' (first|((with_reducible refine Split.is_true ?_ ?_);decide;conv=>whnf)|((with_reducible refine AltK.r ?_);(conv=>whnf);(first|(refine CallX.mk _ _ (h) rfl ?_));conv=>whnf)|fail)
 exact ⟨⟨[], (by refine ⟨?_, ?_, rfl⟩<;>(repeat' (first|exact True.intro|exact rfl|(refine ⟨?_,?_⟩)|(intro h;cases h;done)|fail));done)⟩, rfl⟩
def kpL {α : Type} (p : α → Bool) (l : List α) (j : Nat) : List α := (l.take j).filter fun x => !p x
theorem kp_le {α : Type} (p : α → Bool) (l : List α) (j : Nat) : (kpL p l j).length ≤ j := by
 have := List.length_filter_le (fun x => !p x) (l.take j)
 rw [List.length_take] at this
 unfold kpL
 omega
theorem kp_snoc {α : Type} {p : α → Bool} {l : List α} {j : Nat} {x : α} (h : l[j]? = some x) : kpL p l (j + 1) = if p x = true then kpL p l j else kpL p l j ++ [x] := by
 rw [kpL, take_snoc h, List.filter_append]
 by_cases hp : p x = true <;> simp [hp, kpL]
theorem kp_first {α : Type} {p : α → Bool} {l : List α} {i : Nat} (h : l.findIdx? p = some i) : kpL p l (i + 1) = l.take i ∧ i < l.length := by
 obtain ⟨h1, h2, h3⟩ := List.findIdx?_eq_some_iff_getElem.1 h
 refine ⟨?_, h1⟩
 rw [kp_snoc (List.getElem?_eq_getElem h1), if_pos h2, kpL, List.filter_eq_self]
 intro x hx
 obtain ⟨j, hj, rfl⟩ := List.mem_take_iff_getElem.1 hx
 have := h3 j (by omega)
 simpa using this
theorem take_set_snoc {α : Type} {m : List α} {i : Nat} {x : α} (h : i < m.length) : m.take i ++ [x] = (m.set i x).take (i + 1) := by
 rw [take_snoc (show (m.set i x)[i]? = some x by simp [h])]
 congr 1
 rw [List.take_set_of_le (Nat.le_refl _)]
theorem xv_delD (l : List Dp) (f : Nat) (caps : List D) (p : Dp → Bool) (hn : l.length ≤ 1000000) (hf : ∀ g ∈ l, Ev Try.prog f ([dpD g] ++ caps) (.bool (p g))) {i0 : Nat} (h0 : l.findIdx? p = some i0) :
 EvX Try.prog 88 [.own 1000 3 (l.map dpD).length, .d (.fn f caps)] [(1000, .row 81 3 (l.map dpD) false)] (.own 9 3 ((l.filter fun x => !p x).map dpD).length) [(1000, .gone), (9, .row 81 3 ((l.filter fun x => !p x).map dpD) false)] := by
 have hlen : (l.map dpD).length = l.length := List.length_map _
 have h := xv_IndexDX l f caps p hn hf
 obtain ⟨k0, hi0⟩ := kp_first h0
 rw [h0] at h
 simp only at h
 have hk0 : (kpL p l (i0 + 1)).length = i0 := by rw [k0, List.length_take]; omega
 refine evx_of_awp tysOk mixed (fn := Try.f88) Try.func88 rfl rfl rfl ?_
 conv => whnf
 repeat' (first|((with_reducible refine Split.eqz (fun _=>?_) (fun _=>?_))<;>conv=>whnf)|((with_reducible refine Wr.inr ?_ ?_);(first|omega|(simp;omega));conv=>whnf)|((with_reducible refine AltK.r ?_);(conv=>whnf);(first|(refine CallX.mk _ _ (h) rfl ?_));conv=>whnf)|(exfalso;first|omega|contradiction)|fail)
 refine LoopK.o2 (fun x : Nat × List Dp => i0 + 1 ≤ x.1 ∧ x.1 ≤ l.length ∧ x.2.length = l.length ∧ (∀ k, x.1 ≤ k → x.2[k]? = l[k]?) ∧ x.2.take (kpL p l x.1).length = kpL p l x.1 ∧ (kpL p l x.1).length < x.1)
  (fun x => [(5, .d (.int .i64 (kpL p l x.1).length)), (6, .d (.int .i64 x.1))]) (fun x => [(1000, .row 81 3 (x.2.map dpD) false)]) (fun x => l.length - x.1) (i0 + 1, l) ⟨by omega, by omega, rfl, fun _ _ => rfl, by rw [hk0, k0], by rw [hk0];exact Nat.lt_succ_self _⟩ (by refine ⟨?_, ?_, rfl⟩<;>(repeat' (first|exact True.intro|exact rfl|(refine ⟨?_,?_⟩)|(intro h;cases h;done)|(refine int_congr ?_;(first|omega|(simp;omega)))|fail));done) ?_
 rintro ⟨j, m⟩ ⟨h1, h2, h3, h4, h5, h6⟩
 dsimp only at h1 h2 h3 h4 h5 h6 ⊢
 have em : (m.map dpD).length = m.length := List.length_map _
 have hnx : (j : Int) < l.length → ∃ x, l[j]? = some x := fun h => some_of_lt (by omega)
 have e6 := kp_le p l j
 conv => whnf
 repeat' (first|((with_reducible refine Split.dec (fun _=>?_) (fun _=>?_))<;>conv=>whnf)|((with_reducible refine Need.mk ?_ ?_);(first|omega|rfl|decide|(refine ⟨?_,?_⟩<;>simp<;>omega)|(simp;omega));conv=>whnf)|fail)
 ·obtain ⟨x, hx⟩ := hnx (by omega)
  have hxm : m[j]? = some x := (h4 j (Nat.le_refl _)).trans hx
  have hp := hf x (List.mem_of_getElem? hx)
  have hs := kp_snoc (p := p) hx
  cases hpx : p x with
  | true =>
   rw [if_pos hpx] at hs
   rw [hpx] at hp
   conv => whnf
   repeat' (first|((refine PickE.map j hxm (by omega) ?_);conv=>whnf)|((with_reducible refine Split.of_true ?_);conv=>whnf)|(with_reducible refine Split.neg ?_)|((with_reducible refine Need.mk ?_ ?_);(first|omega|rfl|decide|(refine ⟨?_,?_⟩<;>simp<;>omega)|(simp;omega));conv=>whnf)|((with_reducible refine Wr.inr ?_ ?_);(first|omega|(simp;omega));conv=>whnf)|((with_reducible refine AltK.l ?_);(conv=>whnf);(first|(refine CallK.mk _ (hp) ?_));conv=>whnf)|fail)
   refine Again.au (j + 1, m) ⟨by omega, by omega, h3, fun k hk => h4 k (by omega), by rw [hs];exact h5, by rw [hs];omega⟩ (by dsimp only;omega) (by refine ⟨?_, ?_, rfl⟩<;>(repeat' (first|exact True.intro|exact rfl|(refine ⟨?_,?_⟩)|(intro h;cases h;done)|((first|refine own_congr ?_|refine int_congr ?_|skip);simp [hs];done)|fail));done)
  | false =>
   rw [hpx, if_neg (by decide)] at hs
   rw [hpx] at hp
   obtain ⟨y, hy⟩ := some_of_lt (l := m) (i := (kpL p l j).length) (by omega)
   conv => whnf
   repeat' (first|((refine PickE.map (kpL p l j).length hy (by omega) ?_);conv=>whnf)|((refine PickE.map j hxm (by omega) ?_);conv=>whnf)|((with_reducible refine Split.of_false ?_);conv=>whnf)|(with_reducible refine Split.neg ?_)|((with_reducible refine Need.mk ?_ ?_);(first|omega|rfl|decide|(refine ⟨?_,?_⟩<;>simp<;>omega)|(simp;omega));conv=>whnf)|((with_reducible refine Wr.inr ?_ ?_);(first|omega|(simp;omega));conv=>whnf)|((with_reducible refine AltK.l ?_);(conv=>whnf);(first|(refine CallK.mk _ (hp) ?_));conv=>whnf)|fail)
   refine Again.au (j + 1, m.set (kpL p l j).length x) ⟨by omega, by omega, by rw [List.length_set];exact h3, fun k hk => by rw [List.getElem?_set_ne (by omega)];exact h4 k (by omega), ?_, by rw [hs, List.length_append, List.length_singleton];omega⟩ (by dsimp only;omega) (by refine ⟨?_, ?_, rfl⟩<;>(repeat' (first|exact True.intro|exact rfl|(refine ⟨?_,?_⟩)|(intro h;cases h;done)|((first|refine own_congr ?_|refine int_congr ?_|skip);simp [hs,dpD,List.map_set];done)|fail));done)
   rw [hs, List.length_append, List.length_singleton, ← take_set_snoc (by omega), h5]
 ·have ej : j = l.length := by omega
  have ek : kpL p l j = l.filter fun x => !p x := by rw [ej, kpL, List.take_length]
  have h5' : (m.map dpD).take (kpL p l j).length = (kpL p l j).map dpD := by rw [← List.map_take, h5]
  refine AltK.r (AltK.l ?_)
  conv => whnf
  conv => whnf
  repeat' (first|((with_reducible refine Need.mk ?_ ?_);(first|omega|rfl|decide|(refine ⟨?_,?_⟩<;>simp<;>omega)|(simp;omega));conv=>whnf)|fail)
  refine AltK.r (AltK.r ?_)
  conv => whnf
  conv => whnf
  repeat' (first|((with_reducible refine Need.mk ?_ ?_);(first|omega|rfl|decide|(refine ⟨?_,?_⟩<;>simp<;>omega)|(simp;omega));conv=>whnf)|fail)
  rw [← ek]
  exact ⟨⟨[(9, some 41)], (by refine ⟨?_, ?_, rfl⟩<;>(repeat' (first|exact True.intro|exact rfl|(refine ⟨?_,?_⟩)|(intro h;cases h;done)|(refine own_congr ?_;simp;done)|((first|refine own_congr ?_|refine int_congr ?_|skip);simp [h5'];done)|fail));done)⟩, rfl⟩
def layS (y : Yd) (s : ByteArray) : List Dp := y.deps.filter fun d => sEq d.pit s
theorem ev_Layers (y : Yd) (s : ByteArray) (hs : smallP y) : Ev Try.prog 38 [ydD y, .str s] (.tup [.sl 3 ((if pitE y s = 0 then layS y s else []).map dpD), iD (pitE y s)]) := by
 have h1 := ev_DCheck y hs
 by_cases h0 : ydErr y = 0
 case neg =>
  have e : pitE y s = ydErr y := by rw [pitE, if_pos h0]
  rw [e, if_neg h0]
  refine ev_of_awp tysOk mixed (fn := Try.f38) Try.func38 rfl rfl rfl ?_
  conv => whnf
  repeat' (first|((with_reducible refine Split.nez (fun _=>?_) (fun _=>?_))<;>conv=>whnf)|((with_reducible refine AltK.l ?_);(conv=>whnf);(first|(refine CallK.mk _ (h1) ?_));conv=>whnf)|(exfalso;first|omega|contradiction)|fail)
  rfl
 have hY := yd_ok h0
 have hp8 := hY.pits
 have hd := hY.deps
 have h2 := ev_pitOf y s (by omega)
 rw [h0] at h1
 by_cases hi : pitI y s < 0
 ·have e : pitE y s = 6 := by rw [pitE, if_neg (by simpa using h0), if_pos hi]
  rw [e, if_neg (by decide)]
  refine ev_of_awp tysOk mixed (fn := Try.f38) Try.func38 rfl rfl rfl ?_
  conv => whnf
  repeat' (first|((with_reducible refine Split.is_false ?_ ?_);decide;conv=>whnf)|((with_reducible refine Split.dec (fun _=>?_) (fun _=>?_))<;>conv=>whnf)|((with_reducible refine AltK.l ?_);(conv=>whnf);(first|(refine CallK.mk _ (h1) ?_)|(refine CallK.mk _ (h2) ?_));conv=>whnf)|(exfalso;first|omega|contradiction)|fail)
  all_goals first
   | rfl
   |(exfalso; omega)
 have e : pitE y s = 0 := by rw [pitE, if_neg (by simpa using h0), if_neg hi]
 rw [e, if_pos rfl]
 have hld : (y.deps.map dpD).length = y.deps.length := List.length_map _
 have hX := EvX.new1 (xs := [.sl 3 (y.deps.map dpD)]) (xv_clonedD y.deps (by omega)) 18
 have hf : ∀ g ∈ y.deps, Ev Try.prog 90 ([dpD g] ++ [.ref [.str s] 0]) (.bool (!sEq g.pit s)) := fun g _ => ev_Layers1 g s
 have ef : (y.deps.filter fun x => !!sEq x.pit s) = layS y s := by simp [layS]
 cases hx : y.deps.findIdx? (fun d => !sEq d.pit s) with
 | none =>
  have h4 := (xv_delD0 y.deps 90 [.ref [.str s] 0] (fun d => !sEq d.pit s) (by omega) hf hx).rn [(1000, 18)] rfl
  have h5 := EvX.cap 3 [.str s] false (xs := [.own 18 3 (y.deps.map dpD).length, .fnv 90 [.box 3]]) h4 rfl
  have el : layS y s = y.deps := by
   rw [layS, List.filter_eq_self]
   intro d hd
   have := List.findIdx?_eq_none_iff.1 hx d hd
   simpa using this
  rw [el]
  refine ev_of_awp tysOk mixed (fn := Try.f38) Try.func38 rfl rfl rfl ?_
  conv => whnf
  repeat' (first|((with_reducible refine Split.is_false ?_ ?_);decide;conv=>whnf)|((with_reducible refine Split.dec (fun _=>?_) (fun _=>?_))<;>conv=>whnf)|((with_reducible refine AltK.r ?_);(conv=>whnf);(first|(refine CallX.mk _ _ (hX) rfl ?_)|(refine CallX.mk _ _ (h5) rfl ?_));conv=>whnf)|((with_reducible refine AltK.l ?_);(conv=>whnf);(first|(refine CallK.mk _ (h1) ?_)|(refine CallK.mk _ (h2) ?_));conv=>whnf)|(exfalso;first|omega|contradiction)|fail)
  all_goals first
   | rfl
   |(exfalso; omega)
 | some i0 =>
  have h4 := (xv_delD y.deps 90 [.ref [.str s] 0] (fun d => !sEq d.pit s) (by omega) hf hx).rn [(1000, 18), (9, 20)] rfl
  rw [ef] at h4
  have h5 := EvX.cap 3 [.str s] false (xs := [.own 18 3 (y.deps.map dpD).length, .fnv 90 [.box 3]]) h4 rfl
  refine ev_of_awp tysOk mixed (fn := Try.f38) Try.func38 rfl rfl rfl ?_
  conv => whnf
  repeat' (first|((with_reducible refine Split.is_false ?_ ?_);decide;conv=>whnf)|((with_reducible refine Split.dec (fun _=>?_) (fun _=>?_))<;>conv=>whnf)|((with_reducible refine AltK.r ?_);(conv=>whnf);(first|(refine CallX.mk _ _ (hX) rfl ?_)|(refine CallX.mk _ _ (h5) rfl ?_));conv=>whnf)|((with_reducible refine AltK.l ?_);(conv=>whnf);(first|(refine CallK.mk _ (h1) ?_)|(refine CallK.mk _ (h2) ?_));conv=>whnf)|(exfalso;first|omega|contradiction)|fail)
  all_goals first
   | rfl
   |(exfalso; omega)
end Go.Proofs.Try
end

section
namespace Go.Proofs.Try
open Go Go.Vm
set_option maxRecDepth 20000
set_option maxHeartbeats 8000000
theorem tmod_facts (a b : Int) (hb : 0 < b) : (if a.tmod b < 0 then a.tmod b + b else a.tmod b) = a % b := by
 have h1 := Int.tmod_eq_emod (a := a) (b := b)
 have h2 := Int.emod_nonneg a (Int.ne_of_gt hb)
 have h3 := Int.emod_lt_of_pos a hb
 rw [h1]
 have hn : (b.natAbs : Int) = b := by omega
 split <;> split <;> omega
theorem ev_Mod (a b : Int) (hb : 0 < b ∧ b ≤ 4000000000000) : Ev Try.prog 113 [iD a, iD b] (iD (a % b)) := by
 have h := tmod_facts a b hb.1
 have h1 := Int.tmod_eq_emod (a := a) (b := b)
 have h2 := Int.emod_nonneg a (Int.ne_of_gt hb.1)
 have h3 := Int.emod_lt_of_pos a hb.1
 have hn : (b.natAbs : Int) = b := by omega
 have hbd : -4000000000000 ≤ a.tmod b ∧ a.tmod b ≤ 4000000000000 := by rw [h1]; split <;> omega
 clear h1
 refine ev_of_awp tysOk mixed (fn := Try.f113) Try.func113 rfl rfl rfl ?_
 conv => whnf
 repeat' (first|((with_reducible refine Split.dec (fun _=>?_) (fun _=>?_))<;>conv=>whnf)|((with_reducible refine Need.mk ?_ ?_);(first|omega|rfl|decide|(refine ⟨?_,?_⟩<;>simp<;>omega)|(simp;omega));conv=>whnf)|((with_reducible refine Wr.inr ?_ ?_);(first|omega|(simp;omega));conv=>whnf)|fail)
 ·rw [if_pos (by assumption)] at h; rw [← h]; rfl
 ·rw [if_neg (by assumption)] at h; rw [← h]; rfl
theorem ev_Floor (a b : Int) (hb : 0 < b ∧ b ≤ 4000000000000) (ha : -4000000000000000 ≤ a ∧ a ≤ 4000000000000000) : Ev Try.prog 91 [iD a, iD b] (iD (a / b)) := by
 have hM := ev_Mod a b hb
 have h2 := Int.emod_nonneg a (Int.ne_of_gt hb.1)
 have h3 := Int.emod_lt_of_pos a hb.1
 have e : (a - a % b).tdiv b = a / b := by
  have : a - a % b = b * (a / b) := by have := Int.mul_ediv_add_emod a b; omega
  rw [this, Int.mul_tdiv_cancel_left _ (Int.ne_of_gt hb.1)]
 have hq := ediv_bd (a := a) (M := 4000000000000000) hb.1 ha
 rw [← e] at hq ⊢
 generalize a % b = r at *
 refine ev_of_awp tysOk mixed (fn := Try.f91) Try.func91 rfl rfl rfl ?_
 conv => whnf
 repeat' (first|((with_reducible refine Need.mk ?_ ?_);(first|omega|rfl|decide|(refine ⟨?_,?_⟩<;>simp<;>omega)|(simp;omega));conv=>whnf)|((with_reducible refine Wr.inr ?_ ?_);(first|omega|(simp;omega));conv=>whnf)|((with_reducible refine AltK.l ?_);(conv=>whnf);(first|(refine CallK.mk _ (hM) ?_));conv=>whnf)|fail)
 rfl
theorem ev_Ceil (a b : Int) (hb : 0 < b ∧ b ≤ 4000000000000) (ha : -4000000000000000 ≤ a ∧ a ≤ 4000000000000000) : Ev Try.prog 42 [iD a, iD b] (iD (upZ a b)) := by
 have hF := ev_Floor (-a) b hb (by omega)
 have hq := ediv_bd (a := -a) (M := 4000000000000000) hb.1 (by omega)
 unfold upZ
 generalize -a / b = r at *
 have e : 0 - a = -a := by omega
 rw [← e] at hF
 refine ev_of_awp tysOk mixed (fn := Try.f42) Try.func42 rfl rfl rfl ?_
 conv => whnf
 repeat' (first|((with_reducible refine Wr.inr ?_ ?_);(first|omega|(simp;omega));conv=>whnf)|((with_reducible refine AltK.l ?_);(conv=>whnf);(first|(refine CallK.mk _ (hF) ?_));conv=>whnf)|fail)
 all_goals (simp [retOf, iD] <;> omega)
theorem ceil_div {X d : Int} (hd : 0 < d) : (X + d - 1) / d = upZ X d := by
 have h1 := Int.ediv_mul_le (-X) (Int.ne_of_gt hd)
 have h2 := Int.lt_ediv_add_one_mul_self (-X) hd
 unfold upZ
 generalize -X / d = r at *
 rw [Int.add_mul] at h2
 apply Int.le_antisymm
 ·refine Int.le_of_lt_add_one ((Int.ediv_lt_iff_lt_mul hd).2 ?_)
  rw [Int.add_mul, Int.neg_mul]; omega
 ·refine (Int.le_ediv_iff_mul_le hd).2 ?_
  rw [Int.neg_mul]; omega
theorem ev_Room9 (y : Yd) {k : Nat} {p : Pt} (hk : y.pits[k]? = some p) (hp : PtOk p) (hv : volOk y.deps) (hn : y.deps.length ≤ 300) : Ev Try.prog 41 [ydD y, iD k] (iD (roomS y p)) := by
 have h1 := ev_Capacity9 hp
 have h2 := ev_Taken9 y hk hv hn
 have b1 := cap_bd hp
 have b2 := takS_bd p.name y.deps hv
 unfold roomS
 generalize capS p = c at *
 generalize takS p.name y.deps = t at *
 refine ev_of_awp tysOk mixed (fn := Try.f41) Try.func41 rfl rfl rfl ?_
 conv => whnf
 repeat' (first|((refine PickE.map k hk (by omega) ?_);conv=>whnf)|((with_reducible refine Need.mk ?_ ?_);(first|omega|rfl|decide|(refine ⟨?_,?_⟩<;>simp<;>omega)|(simp;omega));conv=>whnf)|((with_reducible refine Wr.inr ?_ ?_);(first|omega|(simp;omega));conv=>whnf)|((with_reducible refine AltK.l ?_);(conv=>whnf);(first|(refine CallK.mk _ (h1) ?_)|(refine CallK.mk _ (h2) ?_));conv=>whnf)|fail)
 rfl
theorem ev_DisposalPits (hA : Ev Try.prog 11 [] (.bool true)) (y : Yd) (s : ByteArray) : Ev Try.prog 9 [ydD y, .str s] (.bool true) := by
 have h1 := ev_Small y
 cases hs : smallB y with
 | false =>
  rw [hs] at h1
  refine ev_of_awp tysOk mixed (fn := Try.f9) Try.func9 rfl rfl rfl ?_
  conv => whnf
  repeat' (first|((with_reducible first|refine Split.of_true ?_|refine Split.of_false ?_);conv=>whnf)|(with_reducible refine Split.neg ?_)|((with_reducible refine AltK.l ?_);(conv=>whnf);(first|(refine CallK.mk _ (hA) ?_)|(refine CallK.mk _ (h1) ?_));conv=>whnf)|fail)
  rfl
 | true =>
 rw [hs] at h1
 have hB := smB hs
 have h2 := hB.copied
 have h3 := ev_DCheckR y hB.sp
 have hpl := hB.p
 have h4 : Ev Try.prog 39 [.sl 6 (y.pits.map ptD), .str s] (iD (pitI y s)) := ev_Find9 y.pits s (by omega)
 have h5 := ev_Layers y s hB.sp
 by_cases hp : pitE y s = 0
 case neg =>
  rw [if_neg hp] at h5
  have t1 := ev_TakenNo y s hB.sp hp
  have t2 := ev_RoomNo y s hB.sp hp
  have t3 := ev_LevelNo y s hB.sp hp
  by_cases h0 : ydErr y = 0
  ·have hi : pitI y s < 0 := by
    rcases Int.lt_or_le (pitI y s) 0 with h | h
    ·exact h
    ·exact absurd (by rw [pitE, if_neg (by simpa using h0), if_neg (by omega)]) hp
   have e : pitE y s = 6 := by rw [pitE, if_neg (by simpa using h0), if_pos hi]
   rw [e] at t1 t2 t3 h5
   rw [h0] at h3
   refine ev_of_awp tysOk mixed (fn := Try.f9) Try.func9 rfl rfl rfl ?_
   conv => whnf
   repeat' (first|((with_reducible refine Split.of_true ?_);conv=>whnf)|(with_reducible refine Split.neg ?_)|((with_reducible refine Split.is_true ?_ ?_);decide;conv=>whnf)|((with_reducible refine Split.is_false ?_ ?_);decide;conv=>whnf)|((with_reducible refine Split.dec (fun _=>?_) (fun _=>?_))<;>conv=>whnf)|((with_reducible refine AltK.l ?_);(conv=>whnf);(first|(refine CallK.mk _ (hA) ?_)|(refine CallK.mk _ (h1) ?_)|(refine CallK.mk _ (h2) ?_)|(refine CallK.mk _ (h3) ?_)|(refine CallK.mk _ (h4) ?_)|(refine CallK.mk _ (h5) ?_)|(refine CallK.mk _ (t1) ?_)|(refine CallK.mk _ (t2) ?_)|(refine CallK.mk _ (t3) ?_));conv=>whnf)|(exfalso;first|omega|contradiction)|fail)
   all_goals first
    | rfl
    |(exfalso; omega)
  ·have e : pitE y s = ydErr y := by rw [pitE, if_pos h0]
   rw [e] at t1 t2 t3 h5
   refine ev_of_awp tysOk mixed (fn := Try.f9) Try.func9 rfl rfl rfl ?_
   conv => whnf
   repeat' (first|((with_reducible first|refine Split.of_true ?_|refine Split.of_false ?_);conv=>whnf)|(with_reducible refine Split.neg ?_)|((with_reducible refine Split.is_true ?_ ?_);decide;conv=>whnf)|((with_reducible refine Split.nez (fun _=>?_) (fun _=>?_))<;>conv=>whnf)|((with_reducible refine Split.eqz (fun _=>?_) (fun _=>?_))<;>conv=>whnf)|((with_reducible refine Split.dec (fun _=>?_) (fun _=>?_))<;>conv=>whnf)|((with_reducible refine AltK.l ?_);(conv=>whnf);(first|(refine CallK.mk _ (hA) ?_)|(refine CallK.mk _ (h1) ?_)|(refine CallK.mk _ (h2) ?_)|(refine CallK.mk _ (h3) ?_)|(refine CallK.mk _ (h4) ?_)|(refine CallK.mk _ (h5) ?_)|(refine CallK.mk _ (t1) ?_)|(refine CallK.mk _ (t2) ?_)|(refine CallK.mk _ (t3) ?_));conv=>whnf)|(exfalso;first|omega|contradiction)|fail)
   all_goals first
    | rfl
    |(exfalso; omega)
 rw [hp, if_pos rfl] at h5
 obtain ⟨h0, k, p, hk, hpk, hnm⟩ := pitE_ok hp
 have hY := yd_ok h0
 have t1 := ev_TakenOk hB.sp h0 hk hpk
 have t2 := ev_RoomOk hB.sp h0 hk hpk
 have t3 := ev_LevelOk hB.sp h0 hk hpk
 have hpo := (hY.pit p (List.mem_of_getElem? hpk)).1
 have hdl := hY.deps
 have r1 := ev_Taken9 y hpk hY.vol (by omega)
 have r2 := ev_Room9 y hpk hpo hY.vol (by omega)
 have b2 := takS_bd p.name y.deps hY.vol
 have hr0 := hY.room p (List.mem_of_getElem? hpk)
 have hcb := cap_bd hpo
 have htk : takS p.name y.deps ≤ 40000000000000 := by unfold roomS at hr0; omega
 have ha := hpo.area
 have hbs := hpo.base
 have r3 := ev_Ceil (takS p.name y.deps) p.area (by omega) (by omega)
 have d1 := Int.ediv_nonneg (a := takS p.name y.deps + p.area - 1) (b := p.area) (by omega) (by omega)
 have d2 := Int.ediv_le_self (a := takS p.name y.deps + p.area - 1) p.area (by omega)
 rw [ceil_div (by omega)] at d1 d2
 have hl9 : levS9 y p = p.base + upZ (takS p.name y.deps) p.area := by rw [levS9, ceil_div (by omega)]
 rw [hl9] at t3
 rw [h0] at h3
 rw [hk] at h4
 have hld : (y.deps.map dpD).length = y.deps.length := List.length_map _
 have eF : layS y s = y.deps.filter fun d => sEq d.pit s := rfl
 have w9 := ev_deposits9 (layS y s) (layS y s) (by rw [eF]; exact Nat.le_trans (List.length_filter_le _ _) (by omega))
 rw [eqB_self] at w9
 generalize takS p.name y.deps = tk at *
 generalize upZ tk p.area = uz at *
 generalize roomS y p = rm at *
 refine ev_of_awp tysOk mixed (fn := Try.f9) Try.func9 rfl rfl rfl ?_
 conv => whnf
 repeat' (first|((with_reducible first|refine Split.of_true ?_|refine Split.of_false ?_);conv=>whnf)|(with_reducible refine Split.neg ?_)|((with_reducible refine Split.is_true ?_ ?_);decide;conv=>whnf)|((with_reducible refine Split.is_false ?_ ?_);decide;conv=>whnf)|((with_reducible refine Split.dec (fun _=>?_) (fun _=>?_))<;>conv=>whnf)|((with_reducible refine AltK.l ?_);(conv=>whnf);(first|(refine CallK.mk _ (hA) ?_)|(refine CallK.mk _ (h1) ?_)|(refine CallK.mk _ (h2) ?_)|(refine CallK.mk _ (h3) ?_)|(refine CallK.mk _ (h4) ?_)|(refine CallK.mk _ (h5) ?_)|(refine CallK.mk _ (t1) ?_)|(refine CallK.mk _ (t2) ?_)|(refine CallK.mk _ (t3) ?_));conv=>whnf)|(exfalso;first|omega|contradiction)|fail)
 ·rfl
 refine LoopK.o2 (fun i : Nat => i ≤ y.deps.length) (fun i => [(15, .own 200 3 (((y.deps.take i).filter fun d => sEq d.pit s).map dpD).length), (16, .d (.int .i64 i))]) (fun i => [(200, .row 81 3 (((y.deps.take i).filter fun d => sEq d.pit s).map dpD) false)]) (fun i => y.deps.length - i) 0 (by simp) (by refine ⟨?_, ?_, rfl⟩<;>(repeat' (first|exact True.intro|exact rfl|(refine ⟨?_,?_⟩)|(intro h;cases h;done)|fail));done) ?_
 rintro i hi
 have hfl : (((y.deps.take i).filter fun d => sEq d.pit s).map dpD).length ≤ i := by
  rw [List.length_map]
  exact Nat.le_trans (List.length_filter_le _ _) (by rw [List.length_take]; omega)
 by_cases hil : i < y.deps.length
 ·obtain ⟨d, hd⟩ := some_of_lt hil
  have hs2 : (y.deps.take (i + 1)).filter (fun d => sEq d.pit s) = (y.deps.take i).filter (fun d => sEq d.pit s) ++ if sEq d.pit s = true then [d] else [] := by
   rw [take_snoc hd, List.filter_append, List.filter_cons]
   split <;> rfl
  generalize (y.deps.take i).filter (fun d => sEq d.pit s) = o at *
  have hol : (o.map dpD).length = o.length := List.length_map _
  by_cases he : d.pit = s
  ·rw [he, sEq_self, if_pos rfl] at hs2
   have hmp1 : o.map dpD ++ dpD d :: List.replicate 0 (dpD d) = (o ++ [d]).map dpD := by simp
   have hmp2 : o.map dpD ++ [dpD d] = (o ++ [d]).map dpD := by simp
   conv => whnf
   repeat' (first|((refine PickE.map i hd (by omega) ?_);conv=>whnf)|((with_reducible refine Split.streq (fun _=>?_) (fun _=>?_))<;>conv=>whnf)|((with_reducible refine Split.dec (fun _=>?_) (fun _=>?_))<;>conv=>whnf)|((with_reducible refine Need.mk ?_ ?_);(first|omega|rfl|decide|(refine ⟨?_,?_⟩<;>simp<;>omega)|(simp;omega));conv=>whnf)|((with_reducible refine Wr.inr ?_ ?_);(first|omega|(simp;omega));conv=>whnf)|(exfalso;first|omega|contradiction)|fail)
   all_goals first
    |(refine Again.au (i + 1) (by omega) (by omega) ?_
      rw [hs2]
      exact (by refine ⟨?_, ?_, rfl⟩<;>(repeat' (first|exact True.intro|exact rfl|(refine ⟨?_,?_⟩)|(intro h;cases h;done)|exact map_snoc|(refine own_congr ?_;simp;done)|fail));done))
    |(exfalso; contradiction)
  ·rw [sEq_ne he, if_neg (by decide), List.append_nil] at hs2
   conv => whnf
   repeat' (first|((refine PickE.map i hd (by omega) ?_);conv=>whnf)|((with_reducible refine Split.streq (fun _=>?_) (fun _=>?_))<;>conv=>whnf)|((with_reducible refine Split.dec (fun _=>?_) (fun _=>?_))<;>conv=>whnf)|((with_reducible refine Need.mk ?_ ?_);(first|omega|rfl|decide|(refine ⟨?_,?_⟩<;>simp<;>omega)|(simp;omega));conv=>whnf)|((with_reducible refine Wr.inr ?_ ?_);(first|omega|(simp;omega));conv=>whnf)|(exfalso;first|omega|contradiction)|fail)
   all_goals first
    |(exfalso; contradiction)
    |(refine Again.au (i + 1) (by omega) (by omega) ?_
      rw [hs2]
      exact (by refine ⟨?_, ?_, rfl⟩<;>(repeat' (first|exact True.intro|exact rfl|(refine ⟨?_,?_⟩)|(intro h;cases h;done)|fail));done))
 have e : (y.deps.take i).filter (fun d => sEq d.pit s) = layS y s := by rw [List.take_of_length_le (by omega), eF]
 rw [e]
 conv => whnf
 repeat' (first|((refine PickE.map k hpk (by omega) ?_);conv=>whnf)|((with_reducible refine Split.of_false ?_);conv=>whnf)|((with_reducible refine Split.is_true ?_ ?_);decide;conv=>whnf)|((with_reducible refine Split.eqz (fun _=>?_) (fun _=>?_))<;>conv=>whnf)|((with_reducible refine Split.dec (fun _=>?_) (fun _=>?_))<;>conv=>whnf)|((with_reducible refine Need.mk ?_ ?_);(first|omega|rfl|decide|(refine ⟨?_,?_⟩<;>simp<;>omega)|(simp;omega));conv=>whnf)|((with_reducible refine Wr.inr ?_ ?_);(first|omega|(simp;omega));conv=>whnf)|((with_reducible refine AltK.l ?_);(conv=>whnf);(first|(refine CallK.mk _ (r1) ?_)|(refine CallK.mk _ (r2) ?_)|(refine CallK.mk _ (r3) ?_)|(refine CallK.mk _ (w9) ?_));conv=>whnf)|(exfalso;first|omega|contradiction)|fail)
 all_goals first
  | rfl
  |(exfalso; omega)
end Go.Proofs.Try
end

section
namespace Go.Proofs.Try
open Go Go.Vm
theorem int_of {k : IntKind} {d : D} (h : Ty (.int k) d) : ∃ n, d = .int k n ∧ (Lit.int k n).wf = true := by cases h; exact ⟨_, rfl, by assumption⟩
theorem str_of {d : D} (h : Ty .str d) : ∃ s, d = .str s ∧ s.size ≤ 9223372036854775807 := by
 cases h with
 | str s h => exact ⟨_, rfl, h⟩
theorem sl_of {agg : Bool} {cs : List Cs} {d : D} (h : Ty (.sl agg cs) d) : ∃ es, d = .sl cs.length es ∧ (∀ e ∈ es, TyV (agg, cs) e) ∧ es.length ≤ 9223372036854775807 := by
 cases h with
 | sl hk hl h hn => exact ⟨_, rfl, fun e he => ⟨hk e he, hl e he, h e he⟩, hn⟩
theorem agg_of {cs : List Cs} {d : D} (h : TyV (true, cs) d) : ∃ ds, d = .agg ds ∧ ds.length = cs.length ∧ ∀ (j : Nat) c e, cs[j]? = some c → ds[j]? = some e → Ty c e := by
 obtain ⟨ds, rfl⟩ := h.1.1 rfl
 exact ⟨ds, rfl, h.2.1, h.2.2⟩
theorem one_of {c : Cs} {d : D} (h : TyV (false, [c]) d) : Ty c d := by
 have h1 := h.1.2 rfl
 have := h.2.2 0 c d rfl
 rw [(one_cells h1).1] at this
 exact this rfl
theorem map_of {α : Type} {f : α → D} {Q : D → Prop} (hf : ∀ d, Q d → ∃ a, d = f a) : ∀ {es : List D}, (∀ e ∈ es, Q e) → ∃ l : List α, es = l.map f
 | [], _ => ⟨[], rfl⟩
 | e :: es, h => by
  obtain ⟨a, rfl⟩ := hf e (h e (List.mem_cons_self ..))
  obtain ⟨l, rfl⟩ := map_of hf (fun e he => h e (List.mem_cons_of_mem _ he))
  exact ⟨a :: l, rfl⟩
end Go.Proofs.Try
end
