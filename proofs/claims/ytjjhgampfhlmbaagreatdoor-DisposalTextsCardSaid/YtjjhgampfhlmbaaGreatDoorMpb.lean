/- Texts DpE DpF DpK TyH TyI LyCu TyJ TyK TyL DpM TyO TyM, joined; what is not needed is left out. -/
import Derived.Test.YtjjhgampfhlmbaaGreatDoorMgH
import Derived.Test.YtjjhgampfhlmbaaGreatDoorProg
import Derived.Test.YtjjhgampfhlmbaaGreatDoorMgI
import Derived.Lib.AtoiAllCases
import Derived.Lib.MakeNoZero
import Derived.Laws.IdiomCopy
import Derived.Lib.CutLaws
import Derived.Shelf.Strings.Builder1
import Derived.Lib.ItoaLen
import Derived.Lib.AtoiTie
import Derived.Lib.SplitLaws
import Derived.Shelf.LaysM
import Derived.Shelf.LaysC
import Derived.Shelf.Lays
import Derived.Test.YtjjhgampfhlmbaaGreatDoorMpa
section
namespace Go.Proofs.Tryz
open Go Go.Vm
set_option maxRecDepth 20000
set_option maxHeartbeats 4000000
theorem ev_Find9 (l : List Pt) (s : ByteArray) (hn : l.length ≤ 1000000) : Ev Tryz.prog 29 [.sl 6 (l.map ptD), .str s] (iD (ixI (fun x => sEq x.name s) l)) := by
 have hlen : (l.map ptD).length = l.length := List.length_map _
 refine ev_of_awp tysOk mixed (fn := Tryz.f29) Tryz.func29 rfl rfl rfl ?_
 conv => whnf
 skip
 refine LoopK.o2 (fun i : Nat => i ≤ l.length ∧ ∀ g ∈ l.take i, sEq g.name s = false) (fun i => [(5, .d (.int .i64 i))]) (fun _ => []) (fun i => l.length - i) 0 (by simp) (by refine ⟨?_, ?_, rfl⟩<;>(repeat' (first|exact True.intro|exact rfl|(refine ⟨?_,?_⟩)|fail));done) ?_
 rintro i ⟨hi, hp⟩
 by_cases hil : i < l.length
 ·obtain ⟨g, hg⟩ := some_of_lt hil
  by_cases he : g.name = s
  ·have e : l.findIdx? (fun x => sEq x.name s) = some i := by
    rw [List.findIdx?_eq_some_iff_getElem]
    refine ⟨by omega, by rw [(List.getElem?_eq_some_iff.1 hg).2, he]; exact sEq_self _, fun j hj => ?_⟩
    have := hp l[j] (List.mem_take_iff_getElem.2 ⟨j, by omega, rfl⟩)
    rw [this]; decide
   rw [ixI, e]
   conv => whnf
   repeat' (first|((refine PickE.map i hg (by omega) ?_);conv=>whnf)|((with_reducible refine Split.streq (fun _=>?_) (fun _=>?_))<;>conv=>whnf)|((with_reducible refine Split.dec (fun _=>?_) (fun _=>?_))<;>conv=>whnf)|((with_reducible refine Need.mk ?_ ?_);(first|omega|rfl|decide|(refine ⟨?_,?_⟩<;>simp<;>omega)|(simp;omega));conv=>whnf)|((with_reducible refine Wr.inr ?_ ?_);(first|omega|(simp;omega));conv=>whnf)|(exfalso;first|omega|contradiction)|fail)
   all_goals first
    | rfl
    |(exfalso; contradiction)
  ·conv => whnf
   repeat' (first|((refine PickE.map i hg (by omega) ?_);conv=>whnf)|((with_reducible refine Split.streq (fun _=>?_) (fun _=>?_))<;>conv=>whnf)|((with_reducible refine Split.dec (fun _=>?_) (fun _=>?_))<;>conv=>whnf)|((with_reducible refine Need.mk ?_ ?_);(first|omega|rfl|decide|(refine ⟨?_,?_⟩<;>simp<;>omega)|(simp;omega));conv=>whnf)|((with_reducible refine Wr.inr ?_ ?_);(first|omega|(simp;omega));conv=>whnf)|(exfalso;first|omega|contradiction)|fail)
   all_goals first
    |(exfalso; contradiction)
    |(refine Again.au (i + 1) ⟨by omega, fun x hx => ?_⟩ (by omega) (by refine ⟨?_, ?_, rfl⟩<;>(repeat' (first|exact True.intro|exact rfl|(refine ⟨?_,?_⟩)|fail));done)
      rw [take_snoc hg] at hx
      rcases List.mem_append.1 hx with hx | hx
      ·exact hp x hx
      ·rw [List.mem_singleton.1 hx]; exact sEq_ne he)
 ·have e : l.findIdx? (fun x => sEq x.name s) = none := by
   rw [List.findIdx?_eq_none_iff]
   intro x hx
   rw [← List.take_of_length_le (show l.length ≤ i by omega)] at hx
   exact hp x hx
  rw [ixI, e]
  conv => whnf
  repeat' (first|((with_reducible refine Split.dec (fun _=>?_) (fun _=>?_))<;>conv=>whnf)|((with_reducible refine Need.mk ?_ ?_);(first|omega|rfl|decide|(refine ⟨?_,?_⟩<;>simp<;>omega)|(simp;omega));conv=>whnf)|(exfalso;first|omega|contradiction)|fail)
  rfl
theorem ev_Factor9 (l : List Bk) (s : ByteArray) (hn : l.length ≤ 1000000) : Ev Tryz.prog 64 [.sl 3 (l.map bkD), .str s] (iD (ixI (fun x => sEq x.soil s) l)) := by
 have hlen : (l.map bkD).length = l.length := List.length_map _
 refine ev_of_awp tysOk mixed (fn := Tryz.f64) Tryz.func64 rfl rfl rfl ?_
 conv => whnf
 skip
 refine LoopK.o2 (fun i : Nat => i ≤ l.length ∧ ∀ g ∈ l.take i, sEq g.soil s = false) (fun i => [(5, .d (.int .i64 i))]) (fun _ => []) (fun i => l.length - i) 0 (by simp) (by refine ⟨?_, ?_, rfl⟩<;>(repeat' (first|exact True.intro|exact rfl|(refine ⟨?_,?_⟩)|fail));done) ?_
 rintro i ⟨hi, hp⟩
 by_cases hil : i < l.length
 ·obtain ⟨g, hg⟩ := some_of_lt hil
  by_cases he : g.soil = s
  ·have e : l.findIdx? (fun x => sEq x.soil s) = some i := by
    rw [List.findIdx?_eq_some_iff_getElem]
    refine ⟨by omega, by rw [(List.getElem?_eq_some_iff.1 hg).2, he]; exact sEq_self _, fun j hj => ?_⟩
    have := hp l[j] (List.mem_take_iff_getElem.2 ⟨j, by omega, rfl⟩)
    rw [this]; decide
   rw [ixI, e]
   conv => whnf
   repeat' (first|((refine PickE.map i hg (by omega) ?_);conv=>whnf)|((with_reducible refine Split.streq (fun _=>?_) (fun _=>?_))<;>conv=>whnf)|((with_reducible refine Split.dec (fun _=>?_) (fun _=>?_))<;>conv=>whnf)|((with_reducible refine Need.mk ?_ ?_);(first|omega|rfl|decide|(refine ⟨?_,?_⟩<;>simp<;>omega)|(simp;omega));conv=>whnf)|((with_reducible refine Wr.inr ?_ ?_);(first|omega|(simp;omega));conv=>whnf)|(exfalso;first|omega|contradiction)|fail)
   all_goals first
    | rfl
    |(exfalso; contradiction)
  ·conv => whnf
   repeat' (first|((refine PickE.map i hg (by omega) ?_);conv=>whnf)|((with_reducible refine Split.streq (fun _=>?_) (fun _=>?_))<;>conv=>whnf)|((with_reducible refine Split.dec (fun _=>?_) (fun _=>?_))<;>conv=>whnf)|((with_reducible refine Need.mk ?_ ?_);(first|omega|rfl|decide|(refine ⟨?_,?_⟩<;>simp<;>omega)|(simp;omega));conv=>whnf)|((with_reducible refine Wr.inr ?_ ?_);(first|omega|(simp;omega));conv=>whnf)|(exfalso;first|omega|contradiction)|fail)
   all_goals first
    |(exfalso; contradiction)
    |(refine Again.au (i + 1) ⟨by omega, fun x hx => ?_⟩ (by omega) (by refine ⟨?_, ?_, rfl⟩<;>(repeat' (first|exact True.intro|exact rfl|(refine ⟨?_,?_⟩)|fail));done)
      rw [take_snoc hg] at hx
      rcases List.mem_append.1 hx with hx | hx
      ·exact hp x hx
      ·rw [List.mem_singleton.1 hx]; exact sEq_ne he)
 ·have e : l.findIdx? (fun x => sEq x.soil s) = none := by
   rw [List.findIdx?_eq_none_iff]
   intro x hx
   rw [← List.take_of_length_le (show l.length ≤ i by omega)] at hx
   exact hp x hx
  rw [ixI, e]
  conv => whnf
  repeat' (first|((with_reducible refine Split.dec (fun _=>?_) (fun _=>?_))<;>conv=>whnf)|((with_reducible refine Need.mk ?_ ?_);(first|omega|rfl|decide|(refine ⟨?_,?_⟩<;>simp<;>omega)|(simp;omega));conv=>whnf)|(exfalso;first|omega|contradiction)|fail)
  rfl
theorem met_ix {α : Type} {nm : α → ByteArray} {l : List α} {s : ByteArray} : metB nm l s = true ↔ ¬ ixI (fun x => sEq (nm x) s) l < 0 := by
 constructor
 ·intro h hlt
  unfold metB at h
  rw [List.any_eq_true] at h
  obtain ⟨x, hx, he⟩ := h
  have he : nm x = s := by simpa using he
  unfold ixI at hlt
  cases hf : l.findIdx? (fun x => sEq (nm x) s) with
  | none =>
   have := List.findIdx?_eq_none_iff.1 hf x hx
   rw [he, sEq_self] at this; cases this
  | some i => rw [hf] at hlt; simp at hlt; omega
 ·intro h
  obtain ⟨i, r, -, hr, hs⟩ := ix_at h
  exact List.any_eq_true.2 ⟨r, List.mem_of_getElem? hr, by simpa using sEq_eq hs⟩
theorem ev_pitErr (p : Pt) (bef : List Pt) (hn : bef.length ≤ 1000000) (hc : p.cls.length ≤ 1000000) :
 Ev Tryz.prog 25 [ptD p, .sl 6 (bef.map ptD)] (iD (if nameB p.name = false then 4 else if metB Pt.name bef p.name = true then 5 else ptErr p)) := by
 have hlen : (p.cls.map iD).length = p.cls.length := List.length_map _
 have hN := ev_IsName p.name
 have hF := ev_Find9 bef p.name hn
 have hm := @met_ix _ Pt.name bef p.name
 have hA := ev_Within p.area 1 1000000000
 have hB := ev_Within p.base (-20000) 20000
 have hT := ev_Within p.top (-20000) 20000
 have hP := ev_Within p.price 0 10000
 generalize ixI (fun x => sEq x.name p.name) bef = ix at *
 generalize metB Pt.name bef p.name = mt at *
 cases hb : nameB p.name with
 | false =>
  rw [hb] at hN
  rw [if_pos rfl]
  refine ev_of_awp tysOk mixed (fn := Tryz.f25) Tryz.func25 rfl rfl rfl ?_
  conv => whnf
  repeat' (first|((with_reducible refine Split.of_false ?_);conv=>whnf)|(with_reducible refine Split.neg ?_)|((with_reducible refine AltK.l ?_);(conv=>whnf);(first|(refine CallK.mk _ (hN) ?_));conv=>whnf)|fail)
  rfl
 | true =>
 rw [hb] at hN
 rw [if_neg (by decide)]
 cases mt with
 | true =>
  have hi := hm.1 rfl
  rw [if_pos rfl]
  refine ev_of_awp tysOk mixed (fn := Tryz.f25) Tryz.func25 rfl rfl rfl ?_
  conv => whnf
  repeat' (first|((with_reducible refine Split.of_true ?_);conv=>whnf)|(with_reducible refine Split.neg ?_)|((with_reducible refine Split.dec (fun _=>?_) (fun _=>?_))<;>conv=>whnf)|((with_reducible refine AltK.l ?_);(conv=>whnf);(first|(refine CallK.mk _ (hN) ?_)|(refine CallK.mk _ (hF) ?_));conv=>whnf)|(exfalso;first|omega|contradiction)|fail)
  all_goals first
   | rfl
   |(exfalso; omega)
 | false =>
 have hi : ix < 0 := by
  rcases Int.lt_or_le ix 0 with h | h
  ·exact h
  ·exact absurd (hm.2 (by omega)) (by decide)
 clear hm
 rw [if_neg (by decide)]
 unfold ptErr
 generalize outsideB p.area 1 1000000000 = a1 at *
 generalize outsideB p.base (-20000) 20000 = a2 at *
 generalize outsideB p.top (-20000) 20000 = a3 at *
 generalize outsideB p.price 0 10000 = a4 at *
 by_cases h1 : (a1 || a2 || a3) = true
 ·rw [if_pos h1]
  refine ev_of_awp tysOk mixed (fn := Tryz.f25) Tryz.func25 rfl rfl rfl ?_
  conv => whnf
  repeat' (first|((with_reducible refine Split.of_true ?_);conv=>whnf)|(with_reducible refine Split.neg ?_)|((with_reducible refine Split.dec (fun _=>?_) (fun _=>?_))<;>conv=>whnf)|((with_reducible refine Split.mk (fun _=>?_) (fun _=>?_))<;>conv=>whnf)|((with_reducible refine AltK.l ?_);(conv=>whnf);(first|(refine CallK.mk _ (hN) ?_)|(refine CallK.mk _ (hF) ?_)|(refine CallK.mk _ (hA) ?_)|(refine CallK.mk _ (hB) ?_)|(refine CallK.mk _ (hT) ?_)|(refine CallK.mk _ (hP) ?_));conv=>whnf)|(exfalso;first|omega|contradiction)|fail)
  all_goals first
   | rfl
   |(exfalso; omega)
   |(exfalso; simp_all; done)
 rw [if_neg h1]
 have h1 : a1 = false ∧ a2 = false ∧ a3 = false := by simpa [and_assoc] using h1
 obtain ⟨rfl, rfl, rfl⟩ := h1
 by_cases h2 : p.top ≤ p.base
 ·rw [if_pos h2]
  refine ev_of_awp tysOk mixed (fn := Tryz.f25) Tryz.func25 rfl rfl rfl ?_
  conv => whnf
  repeat' (first|((with_reducible first|refine Split.of_true ?_|refine Split.of_false ?_);conv=>whnf)|(with_reducible refine Split.neg ?_)|((with_reducible refine Split.dec (fun _=>?_) (fun _=>?_))<;>conv=>whnf)|((with_reducible refine Split.mk (fun _=>?_) (fun _=>?_))<;>conv=>whnf)|((with_reducible refine AltK.l ?_);(conv=>whnf);(first|(refine CallK.mk _ (hN) ?_)|(refine CallK.mk _ (hF) ?_)|(refine CallK.mk _ (hA) ?_)|(refine CallK.mk _ (hB) ?_)|(refine CallK.mk _ (hT) ?_)|(refine CallK.mk _ (hP) ?_));conv=>whnf)|(exfalso;first|omega|contradiction)|fail)
  all_goals first
   | rfl
   |(exfalso; omega)
 rw [if_neg h2]
 cases a4 with
 | true =>
  rw [if_pos rfl]
  refine ev_of_awp tysOk mixed (fn := Tryz.f25) Tryz.func25 rfl rfl rfl ?_
  conv => whnf
  repeat' (first|((with_reducible first|refine Split.of_true ?_|refine Split.of_false ?_);conv=>whnf)|(with_reducible refine Split.neg ?_)|((with_reducible refine Split.dec (fun _=>?_) (fun _=>?_))<;>conv=>whnf)|((with_reducible refine AltK.l ?_);(conv=>whnf);(first|(refine CallK.mk _ (hN) ?_)|(refine CallK.mk _ (hF) ?_)|(refine CallK.mk _ (hA) ?_)|(refine CallK.mk _ (hB) ?_)|(refine CallK.mk _ (hT) ?_)|(refine CallK.mk _ (hP) ?_));conv=>whnf)|(exfalso;first|omega|contradiction)|fail)
  all_goals first
   | rfl
   |(exfalso; omega)
 | false =>
 rw [if_neg (by decide)]
 have e0 : clsGo none p.cls = clsGo (prevI p.cls 0) (p.cls.drop 0) := rfl
 refine ev_of_awp tysOk mixed (fn := Tryz.f25) Tryz.func25 rfl rfl rfl ?_
 conv => whnf
 repeat' (first|((with_reducible first|refine Split.of_true ?_|refine Split.of_false ?_);conv=>whnf)|(with_reducible refine Split.neg ?_)|((with_reducible refine Split.dec (fun _=>?_) (fun _=>?_))<;>conv=>whnf)|((with_reducible refine AltK.l ?_);(conv=>whnf);(first|(refine CallK.mk _ (hN) ?_)|(refine CallK.mk _ (hF) ?_)|(refine CallK.mk _ (hA) ?_)|(refine CallK.mk _ (hB) ?_)|(refine CallK.mk _ (hT) ?_)|(refine CallK.mk _ (hP) ?_));conv=>whnf)|(exfalso;first|omega|contradiction)|fail)
 refine LoopK.o2 (fun i : Nat => i ≤ p.cls.length ∧ clsGo none p.cls = clsGo (prevI p.cls i) (p.cls.drop i)) (fun i => [(5, .d (.int .i64 i))]) (fun _ => []) (fun i => p.cls.length - i) 0 ⟨by omega, e0⟩ (by refine ⟨?_, ?_, rfl⟩<;>(repeat' (first|exact True.intro|exact rfl|(refine ⟨?_,?_⟩)|(intro h;cases h;done)|fail));done) ?_
 rintro i ⟨hi', hp⟩
 by_cases hil : i < p.cls.length
 ·obtain ⟨c, hc⟩ := some_of_lt hil
  have hC := ev_Within c 0 9
  rw [cls_at hc] at hp
  cases ho : outsideB c 0 9 with
  | true =>
   rw [ho, if_pos rfl] at hp
   rw [ho] at hC
   conv => whnf
   repeat' (first|((refine PickE.map i hc (by omega) ?_);conv=>whnf)|((with_reducible refine Split.of_true ?_);conv=>whnf)|(with_reducible refine Split.neg ?_)|((with_reducible refine Split.dec (fun _=>?_) (fun _=>?_))<;>conv=>whnf)|((with_reducible refine Need.mk ?_ ?_);(first|omega|rfl|decide|(refine ⟨?_,?_⟩<;>simp<;>omega)|(simp;omega));conv=>whnf)|((with_reducible refine AltK.l ?_);(conv=>whnf);(first|(refine CallK.mk _ (hC) ?_));conv=>whnf)|(exfalso;first|omega|contradiction)|fail)
   rw [hp]; rfl
  | false =>
   rw [ho, if_neg (by decide)] at hp
   rw [ho] at hC
   by_cases hz : i = 0
   ·subst hz
    rw [if_neg (by simp [prevI])] at hp
    conv => whnf
    repeat' (first|((refine PickE.map 0 hc (by omega) ?_);conv=>whnf)|((with_reducible refine Split.of_false ?_);conv=>whnf)|(with_reducible refine Split.neg ?_)|((with_reducible refine Split.is_false ?_ ?_);decide;conv=>whnf)|((with_reducible refine Split.dec (fun _=>?_) (fun _=>?_))<;>conv=>whnf)|((with_reducible refine Need.mk ?_ ?_);(first|omega|rfl|decide|(refine ⟨?_,?_⟩<;>simp<;>omega)|(simp;omega));conv=>whnf)|((with_reducible refine Wr.inr ?_ ?_);(first|omega|(simp;omega));conv=>whnf)|((with_reducible refine AltK.l ?_);(conv=>whnf);(first|(refine CallK.mk _ (hC) ?_));conv=>whnf)|(exfalso;first|omega|contradiction)|fail)
    all_goals first
     | exact Again.au (0 + 1) ⟨by omega, hp⟩ (by omega) (by refine ⟨?_, ?_, rfl⟩<;>(repeat' (first|exact True.intro|exact rfl|(refine ⟨?_,?_⟩)|(intro h;cases h;done)|fail));done)
     |(exfalso; omega)
   ·obtain ⟨q, hq⟩ := some_of_lt (show i - 1 < p.cls.length by omega)
    have hpv : prevI p.cls i = some q := by
     cases i with
     | zero => exact absurd rfl hz
     | succ j => simpa [prevI] using hq
    rw [hpv] at hp
    by_cases hle : c ≤ q
    ·rw [if_pos (by simp [hle])] at hp
     conv => whnf
     repeat' (first|((refine PickE.map (i - 1) hq (by omega) ?_);conv=>whnf)|((refine PickE.map i hc (by omega) ?_);conv=>whnf)|((with_reducible refine Split.of_false ?_);conv=>whnf)|(with_reducible refine Split.neg ?_)|((with_reducible refine Split.dec (fun _=>?_) (fun _=>?_))<;>conv=>whnf)|((with_reducible refine Need.mk ?_ ?_);(first|omega|rfl|decide|(refine ⟨?_,?_⟩<;>simp<;>omega)|(simp;omega));conv=>whnf)|((with_reducible refine Wr.inr ?_ ?_);(first|omega|(simp;omega));conv=>whnf)|((with_reducible refine AltK.l ?_);(conv=>whnf);(first|(refine CallK.mk _ (hC) ?_));conv=>whnf)|(exfalso;first|omega|contradiction)|fail)
     all_goals first
      |(rw [hp]; rfl)
      |(exfalso; omega)
    ·rw [if_neg (by simp; omega)] at hp
     conv => whnf
     repeat' (first|((refine PickE.map (i - 1) hq (by omega) ?_);conv=>whnf)|((refine PickE.map i hc (by omega) ?_);conv=>whnf)|((with_reducible refine Split.of_false ?_);conv=>whnf)|(with_reducible refine Split.neg ?_)|((with_reducible refine Split.dec (fun _=>?_) (fun _=>?_))<;>conv=>whnf)|((with_reducible refine Need.mk ?_ ?_);(first|omega|rfl|decide|(refine ⟨?_,?_⟩<;>simp<;>omega)|(simp;omega));conv=>whnf)|((with_reducible refine Wr.inr ?_ ?_);(first|omega|(simp;omega));conv=>whnf)|((with_reducible refine AltK.l ?_);(conv=>whnf);(first|(refine CallK.mk _ (hC) ?_));conv=>whnf)|(exfalso;first|omega|contradiction)|fail)
     all_goals first
      | exact Again.au (i + 1) ⟨by omega, hp⟩ (by omega) (by refine ⟨?_, ?_, rfl⟩<;>(repeat' (first|exact True.intro|exact rfl|(refine ⟨?_,?_⟩)|(intro h;cases h;done)|fail));done)
      |(exfalso; omega)
 ·rw [List.drop_eq_nil_of_le (show p.cls.length ≤ i by omega)] at hp
  rw [hp]
  conv => whnf
  repeat' (first|((with_reducible refine Split.dec (fun _=>?_) (fun _=>?_))<;>conv=>whnf)|((with_reducible refine Need.mk ?_ ?_);(first|omega|rfl|decide|(refine ⟨?_,?_⟩<;>simp<;>omega)|(simp;omega));conv=>whnf)|(exfalso;first|omega|contradiction)|fail)
  cases prevI p.cls i <;> rfl
theorem ev_Deposited (l : List Dp) (n : Int) (hn : l.length ≤ 1000000) : Ev Tryz.prog 28 [.sl 3 (l.map dpD), iD n] (.bool (l.any fun x => x.batch == n)) := by
 have hlen : (l.map dpD).length = l.length := List.length_map _
 refine ev_of_awp tysOk mixed (fn := Tryz.f28) Tryz.func28 rfl rfl rfl ?_
 conv => whnf
 skip
 refine LoopK.o2 (fun i : Nat => i ≤ l.length ∧ (l.take i).any (fun x => x.batch == n) = false) (fun i => [(5, .d (.int .i64 i))]) (fun _ => []) (fun i => l.length - i) 0 ⟨by omega, rfl⟩ (by refine ⟨?_, ?_, rfl⟩<;>(repeat' (first|exact True.intro|exact rfl|(refine ⟨?_,?_⟩)|fail));done) ?_
 rintro i ⟨hi, hp⟩
 by_cases hil : i < l.length
 ·obtain ⟨d, hd⟩ := some_of_lt hil
  have hy := @any_yes _ (fun x : Dp => x.batch == n) l i d hd
  have hno := @any_no _ (fun x : Dp => x.batch == n) l i d hd hp
  conv => whnf
  repeat' (first|((refine PickE.map i hd (by omega) ?_);conv=>whnf)|((with_reducible refine Split.eqz (fun _=>?_) (fun _=>?_))<;>conv=>whnf)|((with_reducible refine Split.dec (fun _=>?_) (fun _=>?_))<;>conv=>whnf)|((with_reducible refine Need.mk ?_ ?_);(first|omega|rfl|decide|(refine ⟨?_,?_⟩<;>simp<;>omega)|(simp;omega));conv=>whnf)|((with_reducible refine Wr.inr ?_ ?_);(first|omega|(simp;omega));conv=>whnf)|(exfalso;first|omega|contradiction)|fail)
  ·rw [hy (by simpa using (by assumption : d.batch = n))]; rfl
  ·exact Again.au (i + 1) ⟨by omega, hno (by simpa using (by assumption : d.batch ≠ n))⟩ (by omega) (by refine ⟨?_, ?_, rfl⟩<;>(repeat' (first|exact True.intro|exact rfl|(refine ⟨?_,?_⟩)|fail));done)
 ·rw [List.take_of_length_le (by omega)] at hp
  rw [hp]
  conv => whnf
  repeat' (first|((with_reducible refine Split.dec (fun _=>?_) (fun _=>?_))<;>conv=>whnf)|((with_reducible refine Need.mk ?_ ?_);(first|omega|rfl|decide|(refine ⟨?_,?_⟩<;>simp<;>omega)|(simp;omega));conv=>whnf)|(exfalso;first|omega|contradiction)|fail)
  rfl
theorem ev_Capacity9 {p : Pt} (h : PtOk p) : Ev Tryz.prog 31 [ptD p] (iD (capS p)) := by
 have hc := cap_bd h
 have h2 := h.base
 have h3 := h.top
 unfold capS at *
 refine ev_of_awp tysOk mixed (fn := Tryz.f31) Tryz.func31 rfl rfl rfl ?_
 conv => whnf
 repeat' (first|((with_reducible refine Wr.inr ?_ ?_);(first|omega|(simp;omega));conv=>whnf)|fail)
 rfl
theorem ev_Taken9 (y : Yd) {k : Nat} {p : Pt} (hk : y.pits[k]? = some p) (hv : volOk y.deps) (hn : y.deps.length ≤ 300) : Ev Tryz.prog 30 [ydD y, iD k] (iD (takS p.name y.deps)) := by
 have hlen : (y.deps.map dpD).length = y.deps.length := List.length_map _
 refine ev_of_awp tysOk mixed (fn := Tryz.f30) Tryz.func30 rfl rfl rfl ?_
 conv => whnf
 skip
 refine LoopK.o2 (fun i : Nat => i ≤ y.deps.length) (fun i => [(5, .d (iD (takS p.name (y.deps.take i)))), (6, .d (.int .i64 i))]) (fun _ => []) (fun i => y.deps.length - i) 0 (by simp) (by refine ⟨?_, ?_, rfl⟩<;>(repeat' (first|exact True.intro|exact rfl|(refine ⟨?_,?_⟩)|(intro h;cases h;done)|fail));done) ?_
 rintro i hi
 have hb := takS_bd p.name (y.deps.take i) (fun x hx => hv x (List.mem_of_mem_take hx))
 have hl : (y.deps.take i).length ≤ 300 := by rw [List.length_take]; omega
 by_cases hil : i < y.deps.length
 ·obtain ⟨d, hd⟩ := some_of_lt hil
  have hs := takS_snoc (s := p.name) hd
  have hdv := hv d (List.mem_of_getElem? hd)
  by_cases he : d.pit = p.name
  ·rw [he, sEq_self, if_pos rfl] at hs
   conv => whnf
   repeat' (first|((refine PickE.map k hk (by omega) ?_);conv=>whnf)|((refine PickE.map i hd (by omega) ?_);conv=>whnf)|((with_reducible refine Split.streq (fun _=>?_) (fun _=>?_))<;>conv=>whnf)|((with_reducible refine Split.dec (fun _=>?_) (fun _=>?_))<;>conv=>whnf)|((with_reducible refine Need.mk ?_ ?_);(first|omega|rfl|decide|(refine ⟨?_,?_⟩<;>simp<;>omega)|(simp;omega));conv=>whnf)|((with_reducible refine Wr.inr ?_ ?_);(first|omega|(simp;omega));conv=>whnf)|(exfalso;first|omega|contradiction)|fail)
   ·refine Again.au (i + 1) (by omega) (by omega) ?_
    rw [hs]
    exact (by refine ⟨?_, ?_, rfl⟩<;>(repeat' (first|exact True.intro|exact rfl|(refine ⟨?_,?_⟩)|(intro h;cases h;done)|fail));done)
   all_goals (exfalso; contradiction)
  ·rw [sEq_ne he, if_neg (by decide)] at hs
   conv => whnf
   repeat' (first|((refine PickE.map k hk (by omega) ?_);conv=>whnf)|((refine PickE.map i hd (by omega) ?_);conv=>whnf)|((with_reducible refine Split.streq (fun _=>?_) (fun _=>?_))<;>conv=>whnf)|((with_reducible refine Split.dec (fun _=>?_) (fun _=>?_))<;>conv=>whnf)|((with_reducible refine Need.mk ?_ ?_);(first|omega|rfl|decide|(refine ⟨?_,?_⟩<;>simp<;>omega)|(simp;omega));conv=>whnf)|((with_reducible refine Wr.inr ?_ ?_);(first|omega|(simp;omega));conv=>whnf)|(exfalso;first|omega|contradiction)|fail)
   all_goals first
    |(exfalso; contradiction)
    |(refine Again.au (i + 1) (by omega) (by omega) ?_
      rw [hs, Int.add_zero]
      exact (by refine ⟨?_, ?_, rfl⟩<;>(repeat' (first|exact True.intro|exact rfl|(refine ⟨?_,?_⟩)|(intro h;cases h;done)|fail));done))
 ·have e : y.deps.take i = y.deps := List.take_of_length_le (by omega)
  conv => whnf
  repeat' (first|((with_reducible refine Split.dec (fun _=>?_) (fun _=>?_))<;>conv=>whnf)|((with_reducible refine Need.mk ?_ ?_);(first|omega|rfl|decide|(refine ⟨?_,?_⟩<;>simp<;>omega)|(simp;omega));conv=>whnf)|(exfalso;first|omega|contradiction)|fail)
  rw [e]; rfl
theorem ev_bulkingErr (y : Yd) : Ev Tryz.prog 26 [ydD y] (iD (if 20 < y.bulk.length then 8 else if nmGo Bk.soil bkErr [] y.bulk ≠ 0 then nmGo Bk.soil bkErr [] y.bulk else if y.carry.length ≠ y.bulk.length then 10 else carGo y.bulk y.carry)) := by
 have hlb : (y.bulk.map bkD).length = y.bulk.length := List.length_map _
 have hlc : (y.carry.map iD).length = y.carry.length := List.length_map _
 by_cases h3 : 20 < y.bulk.length
 ·rw [if_pos h3]
  refine ev_of_awp tysOk mixed (fn := Tryz.f26) Tryz.func26 rfl rfl rfl ?_
  conv => whnf
  repeat' (first|((with_reducible refine Split.dec (fun _=>?_) (fun _=>?_))<;>conv=>whnf)|(exfalso;first|omega|contradiction)|fail)
  all_goals first
   | rfl
   |(exfalso; omega)
 rw [if_neg h3]
 have z2 := @nmGo_zero _ Bk.soil bkErr y.bulk []
 have e0 : nmGo Bk.soil bkErr [] y.bulk = nmGo Bk.soil bkErr (y.bulk.take 0) (y.bulk.drop 0) := rfl
 generalize hE : nmGo Bk.soil bkErr [] y.bulk = e2 at *
 refine ev_of_awp tysOk mixed (fn := Tryz.f26) Tryz.func26 rfl rfl rfl ?_
 conv => whnf
 repeat' (first|((with_reducible refine Split.dec (fun _=>?_) (fun _=>?_))<;>conv=>whnf)|(exfalso;first|omega|contradiction)|fail)
 refine LoopK.o2 (fun i : Nat => i ≤ y.bulk.length ∧ e2 = nmGo Bk.soil bkErr (y.bulk.take i) (y.bulk.drop i)) (fun i => [(3, .d (.int .i64 i))]) (fun _ => []) (fun i => y.bulk.length - i) 0 ⟨by omega, e0⟩ (by refine ⟨?_, ?_, rfl⟩<;>(repeat' (first|exact True.intro|exact rfl|(refine ⟨?_,?_⟩)|(intro h;cases h;done)|fail));done) ?_
 rintro i ⟨hi, hp⟩
 by_cases hil : i < y.bulk.length
 ·obtain ⟨b, hb⟩ := some_of_lt hil
  rw [nmGo_at hb] at hp
  have hN := ev_IsName b.soil
  have hF := ev_Factor9 (y.bulk.take i) b.soil (by rw [List.length_take]; omega)
  have hm := @met_ix _ Bk.soil (y.bulk.take i) b.soil
  have hlt := @ix_lt _ (fun x : Bk => sEq x.soil b.soil) (y.bulk.take i)
  have w1 := ev_Within b.den 1 1000
  have w2 := ev_Within b.num 1 (10 * b.den)
  have hd : ((y.bulk.map bkD).take ((i : Int)).toNat).drop (Int.toNat 0) = (y.bulk.take i).map bkD := by rw [Int.toNat_natCast, Int.toNat_zero, List.drop_zero, List.map_take]
  rw [← hd] at hF
  generalize ixI (fun x => sEq x.soil b.soil) (y.bulk.take i) = ix at *
  generalize metB Bk.soil (y.bulk.take i) b.soil = mt at *
  cases hnb : nameB b.soil with
  | false =>
   rw [hnb, if_pos rfl] at hp
   rw [hnb] at hN
   rw [hp]
   conv => whnf
   repeat' (first|((refine PickE.map i hb (by omega) ?_);conv=>whnf)|((with_reducible refine Split.of_false ?_);conv=>whnf)|(with_reducible refine Split.neg ?_)|((with_reducible refine Split.nez (fun _=>?_) (fun _=>?_))<;>conv=>whnf)|((with_reducible refine Split.dec (fun _=>?_) (fun _=>?_))<;>conv=>whnf)|((with_reducible refine Need.mk ?_ ?_);(first|omega|rfl|decide|(refine ⟨?_,?_⟩<;>simp<;>omega)|(simp;omega));conv=>whnf)|((with_reducible refine AltK.l ?_);(conv=>whnf);(first|(refine CallK.mk _ (hN) ?_));conv=>whnf)|(exfalso;first|omega|contradiction)|fail)
   rfl
  | true =>
  rw [hnb, if_neg (by decide)] at hp
  rw [hnb] at hN
  cases mt with
  | true =>
   have hi' := hm.1 rfl
   rw [if_pos rfl] at hp
   rw [hp]
   conv => whnf
   repeat' (first|((refine PickE.map i hb (by omega) ?_);conv=>whnf)|((with_reducible refine Split.of_true ?_);conv=>whnf)|(with_reducible refine Split.neg ?_)|((with_reducible refine Split.nez (fun _=>?_) (fun _=>?_))<;>conv=>whnf)|((with_reducible refine Split.dec (fun _=>?_) (fun _=>?_))<;>conv=>whnf)|((with_reducible refine Need.mk ?_ ?_);(first|omega|rfl|decide|(refine ⟨?_,?_⟩<;>simp<;>omega)|(simp;omega));conv=>whnf)|((with_reducible refine AltK.l ?_);(conv=>whnf);(first|(refine CallK.mk _ (hN) ?_)|(refine CallK.mk _ (hF) ?_));conv=>whnf)|(exfalso;first|omega|contradiction)|fail)
   all_goals first
    | rfl
    |(exfalso; omega)
  | false =>
  have hi' : ix < 0 := by
   rcases Int.lt_or_le ix 0 with h | h
   ·exact h
   ·exact absurd (hm.2 (by omega)) (by decide)
  clear hm
  rw [if_neg (by decide)] at hp
  have eb : bkErr b = if (outsideB b.den 1 1000 || outsideB b.num 1 (10 * b.den)) = true then 2 else 0 := rfl
  rw [eb] at hp
  cases ho : outsideB b.den 1 1000 with
  | true =>
   rw [ho] at w1 hp
   rw [Bool.true_or, if_pos rfl, if_pos (by decide)] at hp
   rw [hp]
   conv => whnf
   repeat' (first|((refine PickE.map i hb (by omega) ?_);conv=>whnf)|((with_reducible refine Split.of_true ?_);conv=>whnf)|(with_reducible refine Split.neg ?_)|((with_reducible refine Split.nez (fun _=>?_) (fun _=>?_))<;>conv=>whnf)|((with_reducible refine Split.dec (fun _=>?_) (fun _=>?_))<;>conv=>whnf)|((with_reducible refine Need.mk ?_ ?_);(first|omega|rfl|decide|(refine ⟨?_,?_⟩<;>simp<;>omega)|(simp;omega));conv=>whnf)|((with_reducible refine AltK.l ?_);(conv=>whnf);(first|(refine CallK.mk _ (hN) ?_)|(refine CallK.mk _ (hF) ?_)|(refine CallK.mk _ (w1) ?_)|(refine CallK.mk _ (w2) ?_));conv=>whnf)|(exfalso;first|omega|contradiction)|fail)
   all_goals first
    | rfl
    |(exfalso; omega)
  | false =>
   have hdb : 1 ≤ b.den ∧ b.den ≤ 1000 := by simp [outsideB] at ho; omega
   rw [ho] at w1 hp
   rw [Bool.false_or] at hp
   cases ho2 : outsideB b.num 1 (10 * b.den) with
   | true =>
    rw [ho2] at w2 hp
    rw [if_pos rfl, if_pos (by decide)] at hp
    rw [hp]
    conv => whnf
    repeat' (first|((refine PickE.map i hb (by omega) ?_);conv=>whnf)|((with_reducible first|refine Split.of_true ?_|refine Split.of_false ?_);conv=>whnf)|(with_reducible refine Split.neg ?_)|((with_reducible refine Split.nez (fun _=>?_) (fun _=>?_))<;>conv=>whnf)|((with_reducible refine Split.dec (fun _=>?_) (fun _=>?_))<;>conv=>whnf)|((with_reducible refine Need.mk ?_ ?_);(first|omega|rfl|decide|(refine ⟨?_,?_⟩<;>simp<;>omega)|(simp;omega));conv=>whnf)|((with_reducible refine Wr.inr ?_ ?_);(first|omega|(simp;omega));conv=>whnf)|((with_reducible refine AltK.l ?_);(conv=>whnf);(first|(refine CallK.mk _ (hN) ?_)|(refine CallK.mk _ (hF) ?_)|(refine CallK.mk _ (w1) ?_)|(refine CallK.mk _ (w2) ?_));conv=>whnf)|(exfalso;first|omega|contradiction)|fail)
    all_goals first
     | rfl
     |(exfalso; omega)
   | false =>
    rw [ho2] at w2 hp
    simp only [Bool.false_eq_true, if_false, ne_eq, not_true_eq_false] at hp
    conv => whnf
    repeat' (first|((refine PickE.map i hb (by omega) ?_);conv=>whnf)|((with_reducible first|refine Split.of_true ?_|refine Split.of_false ?_);conv=>whnf)|(with_reducible refine Split.neg ?_)|((with_reducible refine Split.nez (fun _=>?_) (fun _=>?_))<;>conv=>whnf)|((with_reducible refine Split.dec (fun _=>?_) (fun _=>?_))<;>conv=>whnf)|((with_reducible refine Need.mk ?_ ?_);(first|omega|rfl|decide|(refine ⟨?_,?_⟩<;>simp<;>omega)|(simp;omega));conv=>whnf)|((with_reducible refine Wr.inr ?_ ?_);(first|omega|(simp;omega));conv=>whnf)|((with_reducible refine AltK.l ?_);(conv=>whnf);(first|(refine CallK.mk _ (hN) ?_)|(refine CallK.mk _ (hF) ?_)|(refine CallK.mk _ (w1) ?_)|(refine CallK.mk _ (w2) ?_));conv=>whnf)|(exfalso;first|omega|contradiction)|fail)
    all_goals first
     | exact Again.au (i + 1) ⟨by omega, hp⟩ (by omega) (by refine ⟨?_, ?_, rfl⟩<;>(repeat' (first|exact True.intro|exact rfl|(refine ⟨?_,?_⟩)|(intro h;cases h;done)|fail));done)
     |(exfalso; omega)
 rw [List.drop_eq_nil_of_le (show y.bulk.length ≤ i by omega)] at hp
 have hp : e2 = 0 := hp
 subst hp
 rw [if_neg (by decide)]
 have hbk : ∀ b ∈ y.bulk, 1 ≤ b.den ∧ b.den ≤ 1000 := fun b hb => by
  have := (z2 rfl b hb).1
  unfold bkErr at this
  split at this
  ·cases this
  ·rename_i h; simp [outsideB] at h; omega
 by_cases h5 : y.carry.length = y.bulk.length
 case neg =>
  rw [if_pos h5]
  conv => whnf
  repeat' (first|((with_reducible refine Split.nez (fun _=>?_) (fun _=>?_))<;>conv=>whnf)|((with_reducible refine Split.dec (fun _=>?_) (fun _=>?_))<;>conv=>whnf)|((with_reducible refine Need.mk ?_ ?_);(first|omega|rfl|decide|(refine ⟨?_,?_⟩<;>simp<;>omega)|(simp;omega));conv=>whnf)|(exfalso;first|omega|contradiction)|fail)
  all_goals first
   | rfl
   |(exfalso; omega)
 rw [if_neg (by simpa using h5)]
 have e0 : carGo y.bulk y.carry = carGo (y.bulk.drop 0) (y.carry.drop 0) := rfl
 conv => whnf
 repeat' (first|((with_reducible refine Split.nez (fun _=>?_) (fun _=>?_))<;>conv=>whnf)|((with_reducible refine Split.dec (fun _=>?_) (fun _=>?_))<;>conv=>whnf)|((with_reducible refine Need.mk ?_ ?_);(first|omega|rfl|decide|(refine ⟨?_,?_⟩<;>simp<;>omega)|(simp;omega));conv=>whnf)|(exfalso;first|omega|contradiction)|fail)
 refine LoopK.o2 (fun i : Nat => i ≤ y.carry.length ∧ carGo y.bulk y.carry = carGo (y.bulk.drop i) (y.carry.drop i)) (fun i => [(5, .d (.int .i64 i))]) (fun _ => []) (fun i => y.carry.length - i) 0 ⟨by omega, e0⟩ (by refine ⟨?_, ?_, rfl⟩<;>(repeat' (first|exact True.intro|exact rfl|(refine ⟨?_,?_⟩)|(intro h;cases h;done)|fail));done) ?_
 rintro i ⟨hi, hp⟩
 by_cases hil : i < y.carry.length
 ·obtain ⟨c, hc⟩ := some_of_lt hil
  obtain ⟨b, hb⟩ := some_of_lt (show i < y.bulk.length by omega)
  rw [car_at hb hc] at hp
  have hbb := hbk b (List.mem_of_getElem? hb)
  have w := ev_Within c 0 (b.den - 1)
  cases ho : outsideB c 0 (b.den - 1) with
  | true =>
   rw [ho, if_pos rfl] at hp
   rw [ho] at w
   rw [hp]
   conv => whnf
   repeat' (first|((refine PickE.map i hb (by omega) ?_);conv=>whnf)|((refine PickE.map i hc (by omega) ?_);conv=>whnf)|((with_reducible refine Split.of_true ?_);conv=>whnf)|(with_reducible refine Split.neg ?_)|((with_reducible refine Split.dec (fun _=>?_) (fun _=>?_))<;>conv=>whnf)|((with_reducible refine Need.mk ?_ ?_);(first|omega|rfl|decide|(refine ⟨?_,?_⟩<;>simp<;>omega)|(simp;omega));conv=>whnf)|((with_reducible refine Wr.inr ?_ ?_);(first|omega|(simp;omega));conv=>whnf)|((with_reducible refine AltK.l ?_);(conv=>whnf);(first|(refine CallK.mk _ (w) ?_));conv=>whnf)|(exfalso;first|omega|contradiction)|fail)
   rfl
  | false =>
   rw [ho, if_neg (by decide)] at hp
   rw [ho] at w
   conv => whnf
   repeat' (first|((refine PickE.map i hb (by omega) ?_);conv=>whnf)|((refine PickE.map i hc (by omega) ?_);conv=>whnf)|((with_reducible refine Split.of_false ?_);conv=>whnf)|(with_reducible refine Split.neg ?_)|((with_reducible refine Split.dec (fun _=>?_) (fun _=>?_))<;>conv=>whnf)|((with_reducible refine Need.mk ?_ ?_);(first|omega|rfl|decide|(refine ⟨?_,?_⟩<;>simp<;>omega)|(simp;omega));conv=>whnf)|((with_reducible refine Wr.inr ?_ ?_);(first|omega|(simp;omega));conv=>whnf)|((with_reducible refine AltK.l ?_);(conv=>whnf);(first|(refine CallK.mk _ (w) ?_));conv=>whnf)|(exfalso;first|omega|contradiction)|fail)
   exact Again.au (i + 1) ⟨by omega, hp⟩ (by omega) (by refine ⟨?_, ?_, rfl⟩<;>(repeat' (first|exact True.intro|exact rfl|(refine ⟨?_,?_⟩)|(intro h;cases h;done)|fail));done)
 ·rw [List.drop_eq_nil_of_le (show y.carry.length ≤ i by omega), carGo] at hp
  rw [hp]
  conv => whnf
  repeat' (first|((with_reducible refine Split.dec (fun _=>?_) (fun _=>?_))<;>conv=>whnf)|((with_reducible refine Need.mk ?_ ?_);(first|omega|rfl|decide|(refine ⟨?_,?_⟩<;>simp<;>omega)|(simp;omega));conv=>whnf)|(exfalso;first|omega|contradiction)|fail)
  rfl
end Go.Proofs.Tryz
end

section
namespace Go.Proofs.Tryz
open Go Go.Vm
set_option maxRecDepth 20000
set_option maxHeartbeats 4000000
def bErr (y : Yd) : Int := if 20 < y.bulk.length then 8 else if nmGo Bk.soil bkErr [] y.bulk ≠ 0 then nmGo Bk.soil bkErr [] y.bulk else if y.carry.length ≠ y.bulk.length then 10 else carGo y.bulk y.carry
theorem yd_split (y : Yd) : ydErr y = if 8 < y.pits.length then 8 else if nmGo Pt.name ptErr [] y.pits ≠ 0 then nmGo Pt.name ptErr [] y.pits else if bErr y ≠ 0 then bErr y else dpsErr y := by
 unfold ydErr bErr
 by_cases h1 : 8 < y.pits.length
 ·rw [if_pos h1, if_pos h1]
 rw [if_neg h1, if_neg h1]
 by_cases h2 : nmGo Pt.name ptErr [] y.pits ≠ 0
 ·rw [if_pos h2, if_pos h2]
 rw [if_neg h2, if_neg h2]
 by_cases h3 : 20 < y.bulk.length
 ·simp [h3]
 simp only [h3, if_false]
 by_cases h4 : nmGo Bk.soil bkErr [] y.bulk ≠ 0
 ·simp [h4]
 simp only [h4, if_false]
 by_cases h5 : y.carry.length ≠ y.bulk.length
 ·simp [h5]
 simp only [h5, if_false]
theorem ev_DCheckR (y : Yd) (hs : smallP y) : Ev Tryz.prog 8 [ydD y] (iD (ydErr y)) := by
 have hlp : (y.pits.map ptD).length = y.pits.length := List.length_map _
 have hld : (y.deps.map dpD).length = y.deps.length := List.length_map _
 rw [yd_split]
 have hB : Ev Tryz.prog 26 [ydD y] (iD (bErr y)) := ev_bulkingErr y
 by_cases h1 : 8 < y.pits.length
 ·rw [if_pos h1]
  refine ev_of_awp tysOk mixed (fn := Tryz.f8) Tryz.func8 rfl rfl rfl ?_
  conv => whnf
  repeat' (first|((with_reducible refine Split.dec (fun _=>?_) (fun _=>?_))<;>conv=>whnf)|(exfalso;first|omega|contradiction)|fail)
  all_goals first
   | rfl
   |(exfalso; omega)
 rw [if_neg h1]
 have z1 := @nmGo_zero _ Pt.name ptErr y.pits []
 have e0 : nmGo Pt.name ptErr [] y.pits = nmGo Pt.name ptErr (y.pits.take 0) (y.pits.drop 0) := rfl
 generalize hE : nmGo Pt.name ptErr [] y.pits = e1 at *
 refine ev_of_awp tysOk mixed (fn := Tryz.f8) Tryz.func8 rfl rfl rfl ?_
 conv => whnf
 repeat' (first|((with_reducible refine Split.dec (fun _=>?_) (fun _=>?_))<;>conv=>whnf)|(exfalso;first|omega|contradiction)|fail)
 refine LoopK.o2 (fun i : Nat => i ≤ y.pits.length ∧ e1 = nmGo Pt.name ptErr (y.pits.take i) (y.pits.drop i)) (fun i => [(3, .d (.int .i64 i))]) (fun _ => []) (fun i => y.pits.length - i) 0 ⟨by omega, e0⟩ (by refine ⟨?_, ?_, rfl⟩<;>(repeat' (first|exact True.intro|exact rfl|(refine ⟨?_,?_⟩)|(intro h;cases h;done)|fail));done) ?_
 rintro i ⟨hi, hp⟩
 by_cases hil : i < y.pits.length
 ·obtain ⟨p, hpi⟩ := some_of_lt hil
  rw [nmGo_at hpi] at hp
  have hQ := ev_pitErr p (y.pits.take i) (by rw [List.length_take]; omega) (hs p (List.mem_of_getElem? hpi))
  have hd : ((y.pits.map ptD).take ((i : Int)).toNat).drop (Int.toNat 0) = (y.pits.take i).map ptD := by rw [Int.toNat_natCast, Int.toNat_zero, List.drop_zero, List.map_take]
  rw [← hd] at hQ
  by_cases hz : (if nameB p.name = false then 4 else if metB Pt.name (y.pits.take i) p.name = true then 5 else ptErr p) = 0
  ·rw [hz] at hQ
   have hp : e1 = nmGo Pt.name ptErr (y.pits.take (i + 1)) (y.pits.drop (i + 1)) := by
    rw [hp]
    split at hz
    ·cases hz
    rename_i g1
    rw [if_neg g1]
    split at hz
    ·cases hz
    rename_i g2
    rw [if_neg g2, if_neg (by simpa using hz)]
   conv => whnf
   repeat' (first|((refine PickE.map i hpi (by omega) ?_);conv=>whnf)|((with_reducible refine Split.is_false ?_ ?_);decide;conv=>whnf)|((with_reducible refine Split.dec (fun _=>?_) (fun _=>?_))<;>conv=>whnf)|((with_reducible refine Need.mk ?_ ?_);(first|omega|rfl|decide|(refine ⟨?_,?_⟩<;>simp<;>omega)|(simp;omega));conv=>whnf)|((with_reducible refine Wr.inr ?_ ?_);(first|omega|(simp;omega));conv=>whnf)|((with_reducible refine AltK.l ?_);(conv=>whnf);(first|(refine CallK.mk _ (hQ) ?_));conv=>whnf)|(exfalso;first|omega|contradiction)|fail)
   exact Again.au (i + 1) ⟨by omega, hp⟩ (by omega) (by refine ⟨?_, ?_, rfl⟩<;>(repeat' (first|exact True.intro|exact rfl|(refine ⟨?_,?_⟩)|(intro h;cases h;done)|fail));done)
  ·have hp : e1 = (if nameB p.name = false then 4 else if metB Pt.name (y.pits.take i) p.name = true then 5 else ptErr p) := by
    rw [hp]
    by_cases g1 : nameB p.name = false
    ·rw [if_pos g1, if_pos g1]
    rw [if_neg g1, if_neg g1]
    by_cases g2 : metB Pt.name (y.pits.take i) p.name = true
    ·rw [if_pos g2, if_pos g2]
    rw [if_neg g2, if_neg g2] at *
    rw [if_neg g1] at hz
    rw [if_pos hz]
   rw [← hp] at hQ hz
   rw [if_pos hz]
   conv => whnf
   repeat' (first|((refine PickE.map i hpi (by omega) ?_);conv=>whnf)|((with_reducible refine Split.nez (fun _=>?_) (fun _=>?_))<;>conv=>whnf)|((with_reducible refine Split.dec (fun _=>?_) (fun _=>?_))<;>conv=>whnf)|((with_reducible refine Need.mk ?_ ?_);(first|omega|rfl|decide|(refine ⟨?_,?_⟩<;>simp<;>omega)|(simp;omega));conv=>whnf)|((with_reducible refine Wr.inr ?_ ?_);(first|omega|(simp;omega));conv=>whnf)|((with_reducible refine AltK.l ?_);(conv=>whnf);(first|(refine CallK.mk _ (hQ) ?_));conv=>whnf)|(exfalso;first|omega|contradiction)|fail)
   rfl
 rw [List.drop_eq_nil_of_le (show y.pits.length ≤ i by omega)] at hp
 have hp : e1 = 0 := hp
 subst hp
 rw [if_neg (by decide)]
 have hP : ∀ p ∈ y.pits, PtOk p := fun p hp => pt_ok (z1 rfl p hp).1
 generalize bErr y = eb at *
 by_cases hz : eb = 0
 case neg =>
  rw [if_pos hz]
  conv => whnf
  repeat' (first|((with_reducible refine Split.nez (fun _=>?_) (fun _=>?_))<;>conv=>whnf)|((with_reducible refine Split.dec (fun _=>?_) (fun _=>?_))<;>conv=>whnf)|((with_reducible refine Need.mk ?_ ?_);(first|omega|rfl|decide|(refine ⟨?_,?_⟩<;>simp<;>omega)|(simp;omega));conv=>whnf)|((with_reducible refine AltK.l ?_);(conv=>whnf);(first|(refine CallK.mk _ (hB) ?_));conv=>whnf)|(exfalso;first|omega|contradiction)|fail)
  rfl
 subst hz
 rw [if_neg (by decide)]
 unfold dpsErr
 by_cases h0 : 200 < y.deps.length
 ·rw [if_pos h0]
  conv => whnf
  repeat' (first|((with_reducible refine Split.is_false ?_ ?_);decide;conv=>whnf)|((with_reducible refine Split.dec (fun _=>?_) (fun _=>?_))<;>conv=>whnf)|((with_reducible refine Need.mk ?_ ?_);(first|omega|rfl|decide|(refine ⟨?_,?_⟩<;>simp<;>omega)|(simp;omega));conv=>whnf)|((with_reducible refine AltK.l ?_);(conv=>whnf);(first|(refine CallK.mk _ (hB) ?_));conv=>whnf)|(exfalso;first|omega|contradiction)|fail)
  all_goals first
   | rfl
   |(exfalso; omega)
 rw [if_neg h0]
 have e0 : dpGo y [] y.deps = dpGo y (y.deps.take 0) (y.deps.drop 0) := rfl
 conv => whnf
 repeat' (first|((with_reducible refine Split.is_false ?_ ?_);decide;conv=>whnf)|((with_reducible refine Split.dec (fun _=>?_) (fun _=>?_))<;>conv=>whnf)|((with_reducible refine Need.mk ?_ ?_);(first|omega|rfl|decide|(refine ⟨?_,?_⟩<;>simp<;>omega)|(simp;omega));conv=>whnf)|((with_reducible refine AltK.l ?_);(conv=>whnf);(first|(refine CallK.mk _ (hB) ?_));conv=>whnf)|(exfalso;first|omega|contradiction)|fail)
 refine LoopK.o2 (fun i : Nat => i ≤ y.deps.length ∧ dpGo y [] y.deps = dpGo y (y.deps.take i) (y.deps.drop i)) (fun i => [(6, .d (.int .i64 i))]) (fun _ => []) (fun i => y.deps.length - i) 0 ⟨by omega, e0⟩ (by refine ⟨?_, ?_, rfl⟩<;>(repeat' (first|exact True.intro|exact rfl|(refine ⟨?_,?_⟩)|(intro h;cases h;done)|fail));done) ?_
 rintro i ⟨hi, hp⟩
 by_cases hil : i < y.deps.length
 ·obtain ⟨d, hd⟩ := some_of_lt hil
  rw [dpGo_at hd] at hp
  have w1 := ev_Within d.batch 1 1000000
  have w2 := ev_Within d.vol 0 100000000000000
  have w3 : Ev Tryz.prog 29 [.sl 6 (y.pits.map ptD), .str d.pit] (iD (pitI y d.pit)) := ev_Find9 y.pits d.pit (by omega)
  have w4 := ev_Deposited (y.deps.take i) d.batch (by rw [List.length_take]; omega)
  have hdd : ((y.deps.map dpD).take ((i : Int)).toNat).drop (Int.toNat 0) = (y.deps.take i).map dpD := by rw [Int.toNat_natCast, Int.toNat_zero, List.drop_zero, List.map_take]
  rw [← hdd] at w4
  generalize (y.deps.take i).any (fun x => x.batch == d.batch) = sn at *
  generalize outsideB d.batch 1 1000000 = b1 at *
  generalize outsideB d.vol 0 100000000000000 = b2 at *
  cases b1 with
  | true =>
   rw [if_pos rfl] at hp
   conv => whnf
   repeat' (first|((refine PickE.map i hd (by omega) ?_);conv=>whnf)|((with_reducible refine Split.of_true ?_);conv=>whnf)|(with_reducible refine Split.neg ?_)|((with_reducible refine Split.dec (fun _=>?_) (fun _=>?_))<;>conv=>whnf)|((with_reducible refine Need.mk ?_ ?_);(first|omega|rfl|decide|(refine ⟨?_,?_⟩<;>simp<;>omega)|(simp;omega));conv=>whnf)|((with_reducible refine AltK.l ?_);(conv=>whnf);(first|(refine CallK.mk _ (w1) ?_)|(refine CallK.mk _ (w2) ?_)|(refine CallK.mk _ (w3) ?_)|(refine CallK.mk _ (w4) ?_));conv=>whnf)|(exfalso;first|omega|contradiction)|fail)
   rw [hp]; rfl
  | false =>
  rw [if_neg (by decide)] at hp
  cases sn with
  | true =>
   rw [if_pos rfl] at hp
   conv => whnf
   repeat' (first|((refine PickE.map i hd (by omega) ?_);conv=>whnf)|((with_reducible first|refine Split.of_true ?_|refine Split.of_false ?_);conv=>whnf)|(with_reducible refine Split.neg ?_)|((with_reducible refine Split.dec (fun _=>?_) (fun _=>?_))<;>conv=>whnf)|((with_reducible refine Need.mk ?_ ?_);(first|omega|rfl|decide|(refine ⟨?_,?_⟩<;>simp<;>omega)|(simp;omega));conv=>whnf)|((with_reducible refine AltK.l ?_);(conv=>whnf);(first|(refine CallK.mk _ (w1) ?_)|(refine CallK.mk _ (w2) ?_)|(refine CallK.mk _ (w3) ?_)|(refine CallK.mk _ (w4) ?_));conv=>whnf)|(exfalso;first|omega|contradiction)|fail)
   rw [hp]; rfl
  | false =>
  rw [if_neg (by decide)] at hp
  by_cases hpt : pitI y d.pit < 0
  ·rw [if_pos hpt] at hp
   conv => whnf
   repeat' (first|((refine PickE.map i hd (by omega) ?_);conv=>whnf)|((with_reducible refine Split.of_false ?_);conv=>whnf)|(with_reducible refine Split.neg ?_)|((with_reducible refine Split.dec (fun _=>?_) (fun _=>?_))<;>conv=>whnf)|((with_reducible refine Split.mk (fun _=>?_) (fun _=>?_))<;>conv=>whnf)|((with_reducible refine Need.mk ?_ ?_);(first|omega|rfl|decide|(refine ⟨?_,?_⟩<;>simp<;>omega)|(simp;omega));conv=>whnf)|((with_reducible refine Wr.inr ?_ ?_);(first|omega|(simp;omega));conv=>whnf)|((with_reducible refine AltK.l ?_);(conv=>whnf);(first|(refine CallK.mk _ (w1) ?_)|(refine CallK.mk _ (w2) ?_)|(refine CallK.mk _ (w3) ?_)|(refine CallK.mk _ (w4) ?_));conv=>whnf)|(exfalso;first|omega|contradiction)|fail)
   all_goals first
    |(rw [hp]; rfl)
    |(exfalso; omega)
  ·rw [if_neg hpt] at hp
   cases b2 with
   | true =>
    rw [if_pos rfl] at hp
    conv => whnf
    repeat' (first|((refine PickE.map i hd (by omega) ?_);conv=>whnf)|((with_reducible first|refine Split.of_true ?_|refine Split.of_false ?_);conv=>whnf)|(with_reducible refine Split.neg ?_)|((with_reducible refine Split.dec (fun _=>?_) (fun _=>?_))<;>conv=>whnf)|((with_reducible refine Need.mk ?_ ?_);(first|omega|rfl|decide|(refine ⟨?_,?_⟩<;>simp<;>omega)|(simp;omega));conv=>whnf)|((with_reducible refine AltK.l ?_);(conv=>whnf);(first|(refine CallK.mk _ (w1) ?_)|(refine CallK.mk _ (w2) ?_)|(refine CallK.mk _ (w3) ?_)|(refine CallK.mk _ (w4) ?_));conv=>whnf)|(exfalso;first|omega|contradiction)|fail)
    all_goals first
     |(rw [hp]; rfl)
     |(exfalso; omega)
   | false =>
    rw [if_neg (by decide)] at hp
    conv => whnf
    repeat' (first|((refine PickE.map i hd (by omega) ?_);conv=>whnf)|((with_reducible refine Split.of_false ?_);conv=>whnf)|(with_reducible refine Split.neg ?_)|((with_reducible refine Split.dec (fun _=>?_) (fun _=>?_))<;>conv=>whnf)|((with_reducible refine Need.mk ?_ ?_);(first|omega|rfl|decide|(refine ⟨?_,?_⟩<;>simp<;>omega)|(simp;omega));conv=>whnf)|((with_reducible refine Wr.inr ?_ ?_);(first|omega|(simp;omega));conv=>whnf)|((with_reducible refine AltK.l ?_);(conv=>whnf);(first|(refine CallK.mk _ (w1) ?_)|(refine CallK.mk _ (w2) ?_)|(refine CallK.mk _ (w3) ?_)|(refine CallK.mk _ (w4) ?_));conv=>whnf)|(exfalso;first|omega|contradiction)|fail)
    all_goals first
     | exact Again.au (i + 1) ⟨by omega, hp⟩ (by omega) (by refine ⟨?_, ?_, rfl⟩<;>(repeat' (first|exact True.intro|exact rfl|(refine ⟨?_,?_⟩)|(intro h;cases h;done)|fail));done)
     |(exfalso; omega)
 ·rw [List.drop_eq_nil_of_le (show y.deps.length ≤ i by omega)] at hp
  have hp : dpGo y [] y.deps = 0 := hp
  have hv := dpGo_vol hp
  rw [hp, if_neg (by decide)]
  conv => whnf
  repeat' (first|((with_reducible refine Split.dec (fun _=>?_) (fun _=>?_))<;>conv=>whnf)|((with_reducible refine Need.mk ?_ ?_);(first|omega|rfl|decide|(refine ⟨?_,?_⟩<;>simp<;>omega)|(simp;omega));conv=>whnf)|(exfalso;first|omega|contradiction)|fail)
  refine LoopK.o2 (fun k : Nat => k ≤ y.pits.length ∧ (y.pits.take k).any (fun p => decide (roomS y p < 0)) = false) (fun k => [(8, .d (.int .i64 k))]) (fun _ => []) (fun k => y.pits.length - k) 0 ⟨by omega, rfl⟩ (by refine ⟨?_, ?_, rfl⟩<;>(repeat' (first|exact True.intro|exact rfl|(refine ⟨?_,?_⟩)|(intro h;cases h;done)|fail));done) ?_
  rintro k ⟨hk, hq⟩
  by_cases hkl : k < y.pits.length
  ·obtain ⟨p, hpk⟩ := some_of_lt hkl
   have hR := ev_Taken9 y hpk hv (by omega)
   have hC := ev_Capacity9 (hP p (List.mem_of_getElem? hpk))
   have hy := @any_yes _ (fun p => decide (roomS y p < 0)) y.pits k p hpk
   have hno := @any_no _ (fun p => decide (roomS y p < 0)) y.pits k p hpk hq
   have er : roomS y p = capS p - takS p.name y.deps := rfl
   rw [er] at hy hno
   generalize takS p.name y.deps = tk at *
   generalize capS p = cp at *
   conv => whnf
   repeat' (first|((refine PickE.map k hpk (by omega) ?_);conv=>whnf)|((with_reducible refine Split.dec (fun _=>?_) (fun _=>?_))<;>conv=>whnf)|((with_reducible refine Need.mk ?_ ?_);(first|omega|rfl|decide|(refine ⟨?_,?_⟩<;>simp<;>omega)|(simp;omega));conv=>whnf)|((with_reducible refine Wr.inr ?_ ?_);(first|omega|(simp;omega));conv=>whnf)|((with_reducible refine AltK.l ?_);(conv=>whnf);(first|(refine CallK.mk _ (hR) ?_)|(refine CallK.mk _ (hC) ?_));conv=>whnf)|(exfalso;first|omega|contradiction)|fail)
   ·rw [hy (by simp; omega), if_pos rfl]; rfl
   ·exact Again.au (k + 1) ⟨by omega, hno (by simp;omega)⟩ (by omega) (by refine ⟨?_, ?_, rfl⟩<;>(repeat' (first|exact True.intro|exact rfl|(refine ⟨?_,?_⟩)|(intro h;cases h;done)|fail));done)
  ·rw [List.take_of_length_le (by omega)] at hq
   rw [hq]
   conv => whnf
   repeat' (first|((with_reducible refine Split.dec (fun _=>?_) (fun _=>?_))<;>conv=>whnf)|(exfalso;first|omega|contradiction)|fail)
   rfl
end Go.Proofs.Tryz
end

section
namespace Go.Proofs.Tryz
open Go Go.Vm
set_option maxRecDepth 20000
set_option maxHeartbeats 8000000
theorem ev_CopyInts9 (l : List Int) (hn : l.length ≤ 1000000) : Ev Tryz.prog 24 [.sl 1 (l.map iD)] (.sl 1 (l.map iD)) := by
 have hl : (l.map iD).length = l.length := List.length_map _
 refine ev_of_awp tysOk mixed (fn := Tryz.f24) Tryz.func24 rfl rfl rfl ?_
 conv => whnf
 repeat' (first|((with_reducible refine Need.mk ?_ ?_);(first|omega|rfl|decide|(refine ⟨?_,?_⟩<;>simp<;>omega)|(simp;omega));conv=>whnf)|fail)
 rfl
theorem ev_Copied (y : Yd) (h1 : y.pits.length ≤ 1000) (h2 : y.bulk.length ≤ 1000) (h3 : y.deps.length ≤ 1000) (h4 : y.carry.length ≤ 1000) (hcl : ∀ p ∈ y.pits, p.cls.length ≤ 100000) : Ev Tryz.prog 7 [ydD y] (ydD y) := by
 have hlp : (y.pits.map ptD).length = y.pits.length := List.length_map _
 have hlb : (y.bulk.map bkD).length = y.bulk.length := List.length_map _
 have hld : (y.deps.map dpD).length = y.deps.length := List.length_map _
 have hlc : (y.carry.map iD).length = y.carry.length := List.length_map _
 have hC := ev_CopyInts9 y.carry (by omega)
 refine ev_of_awp tysOk mixed (fn := Tryz.f7) Tryz.func7 rfl rfl rfl ?_
 conv => whnf
 repeat' (first|((with_reducible refine Need.mk ?_ ?_);(first|omega|rfl|decide|(refine ⟨?_,?_⟩<;>simp<;>omega)|(simp;omega));conv=>whnf)|fail)
 refine LoopK.o2 (fun i : Nat => i ≤ y.pits.length) (fun i => [(4, .d (.int .i64 i))]) (fun i => [(1, .var [.own 200 6 ((y.pits.take i).map ptD).length, .d (.sl 3 (y.bulk.map bkD)), .d (.sl 3 (y.deps.map dpD)), .d (.sl 1 (y.carry.map iD))] false), (200, .row 58 6 ((y.pits.take i).map ptD) false)]) (fun i => y.pits.length - i) 0 (by omega) (by refine ⟨?_, ?_, rfl⟩<;>(repeat' (first|exact True.intro|exact rfl|(refine ⟨?_,?_⟩)|(intro h;cases h;done)|fail));done) ?_
 rintro i hi
 have htl : ((y.pits.take i).map ptD).length = i := by simp; omega
 by_cases hil : i < y.pits.length
 ·obtain ⟨p, hp⟩ := some_of_lt hil
  have hc := ev_CopyInts9 p.cls (Nat.le_trans (hcl p (List.mem_of_getElem? hp)) (by decide))
  have hmp1 : (y.pits.take i).map ptD ++ ptD p :: List.replicate 0 (ptD p) = (y.pits.take (i + 1)).map ptD := by rw [take_snoc hp]; simp
  have hmp2 : (y.pits.take i).map ptD ++ [ptD p] = (y.pits.take (i + 1)).map ptD := by rw [take_snoc hp]; simp
  conv => whnf
  repeat' (first|((refine PickE.map i hp (by omega) ?_);conv=>whnf)|((with_reducible refine Split.dec (fun _=>?_) (fun _=>?_))<;>conv=>whnf)|((with_reducible refine Need.mk ?_ ?_);(first|omega|rfl|decide|(refine ⟨?_,?_⟩<;>simp<;>omega)|(simp;omega));conv=>whnf)|((with_reducible refine Wr.inr ?_ ?_);(first|omega|(simp;omega));conv=>whnf)|((with_reducible refine AltK.l ?_);(conv=>whnf);(first|(refine CallK.mk _ (hc) ?_));conv=>whnf)|(exfalso;first|omega|contradiction)|fail)
  exact Again.au (i + 1) (by omega) (by omega) (by refine ⟨?_, ?_, rfl⟩<;>(repeat' (first|exact True.intro|exact rfl|(refine ⟨?_,?_⟩)|(intro h;cases h;done)|exact hmp1|((first|refine own_congr ?_|refine int_congr ?_);simp [List.length_map];omega)|fail));done)
 ·have e : y.pits.take i = y.pits := List.take_of_length_le (by omega)
  rw [e] at htl ⊢
  conv => whnf
  repeat' (first|((with_reducible refine Split.dec (fun _=>?_) (fun _=>?_))<;>conv=>whnf)|((with_reducible refine Need.mk ?_ ?_);(first|omega|rfl|decide|(refine ⟨?_,?_⟩<;>simp<;>omega)|(simp;omega));conv=>whnf)|((with_reducible refine AltK.l ?_);(conv=>whnf);(first|(refine CallK.mk _ (hC) ?_));conv=>whnf)|(exfalso;first|omega|contradiction)|fail)
  rfl
def smallA (y : Yd) : Bool := !((decide (y.pits.length > 4) && decide (y.pits.length ≤ 8)) || decide (y.pits.length > 12) || (decide (y.bulk.length > 4) && decide (y.bulk.length ≤ 20)) || decide (y.bulk.length > 25) || decide (y.carry.length > 30) || (decide (y.deps.length > 8) && decide (y.deps.length ≤ 200)) || decide (y.deps.length > 205))
def smallB (y : Yd) : Bool := smallA y && y.pits.all (fun p => decide (p.name.size ≤ 40) && decide (p.cls.length ≤ 12)) && y.bulk.all (fun b => decide (b.soil.size ≤ 40)) && y.deps.all (fun d => decide (d.pit.size ≤ 40))
structure SmOk (y : Yd) : Prop where
 p : y.pits.length ≤ 4 ∨ (8 < y.pits.length ∧ y.pits.length ≤ 12)
 b : y.bulk.length ≤ 4 ∨ (20 < y.bulk.length ∧ y.bulk.length ≤ 25)
 c : y.carry.length ≤ 30
 d : y.deps.length ≤ 8 ∨ (200 < y.deps.length ∧ y.deps.length ≤ 205)
theorem sm_ok {y : Yd} (h : smallA y = true) : SmOk y := by
 simp only [smallA, Bool.not_eq_true', Bool.or_eq_false_iff, Bool.and_eq_false_iff, decide_eq_false_iff_not] at h
 exact ⟨by omega, by omega, by omega, by omega⟩
theorem sm_no {y : Yd} (h : smallA y = false) : ¬ SmOk y := by
 intro ⟨h1, h2, h3, h4⟩
 have : smallA y = true := by
  simp only [smallA, Bool.not_eq_true', Bool.or_eq_false_iff, Bool.and_eq_false_iff, decide_eq_false_iff_not]
  omega
 rw [h] at this; cases this
theorem all_snoc9 {α : Type} {l : List α} {p : α → Bool} {i : Nat} {m : α} (hm : l[i]? = some m) (h : (l.take i).all p = true) (hp : p m = true) : (l.take (i + 1)).all p = true := by
 rw [take_snoc hm, List.all_append, h]; simp [hp]
theorem all_not9 {α : Type} {l : List α} {p : α → Bool} {i : Nat} {m : α} (hm : l[i]? = some m) (hp : p m = false) : l.all p = false := by
 rw [List.all_eq_false]; exact ⟨m, List.mem_of_getElem? hm, by simp [hp]⟩
theorem ev_Small (y : Yd) : Ev Tryz.prog 5 [ydD y] (.bool (smallB y)) := by
 have hlp : (y.pits.map ptD).length = y.pits.length := List.length_map _
 have hlb : (y.bulk.map bkD).length = y.bulk.length := List.length_map _
 have hld : (y.deps.map dpD).length = y.deps.length := List.length_map _
 have hlc : (y.carry.map iD).length = y.carry.length := List.length_map _
 cases hA : smallA y with
 | false =>
  have hno := sm_no hA
  have e : smallB y = false := by rw [smallB, hA]; rfl
  have hx : ¬ ((y.pits.length ≤ 4 ∨ (8 < y.pits.length ∧ y.pits.length ≤ 12)) ∧ (y.bulk.length ≤ 4 ∨ (20 < y.bulk.length ∧ y.bulk.length ≤ 25)) ∧ y.carry.length ≤ 30 ∧ (y.deps.length ≤ 8 ∨ (200 < y.deps.length ∧ y.deps.length ≤ 205))) := fun h => hno ⟨h.1, h.2.1, h.2.2.1, h.2.2.2⟩
  rw [e]
  refine ev_of_awp tysOk mixed (fn := Tryz.f5) Tryz.func5 rfl rfl rfl ?_
  conv => whnf
  repeat' (first|((with_reducible first|refine Split.of_true ?_|refine Split.of_false ?_);conv=>whnf)|((with_reducible refine Split.dec (fun _=>?_) (fun _=>?_))<;>conv=>whnf)|(exfalso;first|omega|contradiction)|fail)
  all_goals first
   | rfl
   |(exfalso; omega)
 | true =>
 obtain ⟨q1, q2, q3, q4⟩ := sm_ok hA
 have e : smallB y = (y.pits.all (fun p => decide (p.name.size ≤ 40) && decide (p.cls.length ≤ 12)) && y.bulk.all (fun b => decide (b.soil.size ≤ 40)) && y.deps.all (fun d => decide (d.pit.size ≤ 40))) := by rw [smallB, hA, Bool.true_and]
 rw [e]
 clear e hA
 refine ev_of_awp tysOk mixed (fn := Tryz.f5) Tryz.func5 rfl rfl rfl ?_
 conv => whnf
 repeat' (first|((with_reducible first|refine Split.of_true ?_|refine Split.of_false ?_);conv=>whnf)|((with_reducible refine Split.dec (fun _=>?_) (fun _=>?_))<;>conv=>whnf)|(exfalso;first|omega|contradiction)|fail)
 all_goals first
  |(exfalso; omega)
  | skip
 all_goals
  refine LoopK.o2 (fun i : Nat => i ≤ y.pits.length ∧ (y.pits.take i).all (fun p => decide (p.name.size ≤ 40) && decide (p.cls.length ≤ 12)) = true) (fun i => [(3, .d (.int .i64 i))]) (fun _ => []) (fun i => y.pits.length - i) 0 ⟨by omega, rfl⟩ (by refine ⟨?_, ?_, rfl⟩<;>(repeat' (first|exact True.intro|exact rfl|(refine ⟨?_,?_⟩)|(intro h;cases h;done)|fail));done) ?_
  rintro i ⟨hi, hp⟩
  by_cases hil : i < y.pits.length
  ·obtain ⟨p, hpi⟩ := some_of_lt hil
   have hcl : (p.cls.map iD).length = p.cls.length := List.length_map _
   have hn := @all_not9 _ y.pits (fun p => decide (p.name.size ≤ 40) && decide (p.cls.length ≤ 12)) i p hpi
   have hy := @all_snoc9 _ y.pits (fun p => decide (p.name.size ≤ 40) && decide (p.cls.length ≤ 12)) i p hpi hp
   clear hp
   conv => whnf
   repeat' (first|((refine PickE.map i hpi (by omega) ?_);conv=>whnf)|((with_reducible refine Split.of_true ?_);conv=>whnf)|((with_reducible refine Split.dec (fun _=>?_) (fun _=>?_))<;>conv=>whnf)|((with_reducible refine Need.mk ?_ ?_);(first|omega|rfl|decide|(refine ⟨?_,?_⟩<;>simp<;>omega)|(simp;omega));conv=>whnf)|((with_reducible refine Wr.inr ?_ ?_);(first|omega|(simp;omega));conv=>whnf)|(exfalso;first|omega|contradiction)|fail)
   all_goals first
    | exact Again.au (i + 1) ⟨by omega, hy (by simp;omega)⟩ (by omega) (by refine ⟨?_, ?_, rfl⟩<;>(repeat' (first|exact True.intro|exact rfl|(refine ⟨?_,?_⟩)|(intro h;cases h;done)|fail));done)
    |(rw [hn (by simp; omega)]; rfl)
  rw [List.take_of_length_le (by omega)] at hp
  rw [hp, Bool.true_and]
  clear hp
  conv => whnf
  repeat' (first|((with_reducible refine Split.dec (fun _=>?_) (fun _=>?_))<;>conv=>whnf)|((with_reducible refine Need.mk ?_ ?_);(first|omega|rfl|decide|(refine ⟨?_,?_⟩<;>simp<;>omega)|(simp;omega));conv=>whnf)|(exfalso;first|omega|contradiction)|fail)
  refine LoopK.o2 (fun i : Nat => i ≤ y.bulk.length ∧ (y.bulk.take i).all (fun b => decide (b.soil.size ≤ 40)) = true) (fun i => [(4, .d (.int .i64 i))]) (fun _ => []) (fun i => y.bulk.length - i) 0 ⟨by omega, rfl⟩ (by refine ⟨?_, ?_, rfl⟩<;>(repeat' (first|exact True.intro|exact rfl|(refine ⟨?_,?_⟩)|(intro h;cases h;done)|fail));done) ?_
  rintro i ⟨hi, hp⟩
  by_cases hil : i < y.bulk.length
  ·obtain ⟨p, hpi⟩ := some_of_lt hil
   have hn := @all_not9 _ y.bulk (fun b => decide (b.soil.size ≤ 40)) i p hpi
   have hy := @all_snoc9 _ y.bulk (fun b => decide (b.soil.size ≤ 40)) i p hpi hp
   clear hp
   conv => whnf
   repeat' (first|((refine PickE.map i hpi (by omega) ?_);conv=>whnf)|((with_reducible refine Split.dec (fun _=>?_) (fun _=>?_))<;>conv=>whnf)|((with_reducible refine Need.mk ?_ ?_);(first|omega|rfl|decide|(refine ⟨?_,?_⟩<;>simp<;>omega)|(simp;omega));conv=>whnf)|((with_reducible refine Wr.inr ?_ ?_);(first|omega|(simp;omega));conv=>whnf)|(exfalso;first|omega|contradiction)|fail)
   all_goals first
    | exact Again.au (i + 1) ⟨by omega, hy (by simp;omega)⟩ (by omega) (by refine ⟨?_, ?_, rfl⟩<;>(repeat' (first|exact True.intro|exact rfl|(refine ⟨?_,?_⟩)|(intro h;cases h;done)|fail));done)
    |(rw [hn (by simp; omega)]; rfl)
  rw [List.take_of_length_le (by omega)] at hp
  rw [hp, Bool.true_and]
  clear hp
  conv => whnf
  repeat' (first|((with_reducible refine Split.dec (fun _=>?_) (fun _=>?_))<;>conv=>whnf)|((with_reducible refine Need.mk ?_ ?_);(first|omega|rfl|decide|(refine ⟨?_,?_⟩<;>simp<;>omega)|(simp;omega));conv=>whnf)|(exfalso;first|omega|contradiction)|fail)
  refine LoopK.o2 (fun i : Nat => i ≤ y.deps.length ∧ (y.deps.take i).all (fun b => decide (b.pit.size ≤ 40)) = true) (fun i => [(5, .d (.int .i64 i))]) (fun _ => []) (fun i => y.deps.length - i) 0 ⟨by omega, rfl⟩ (by refine ⟨?_, ?_, rfl⟩<;>(repeat' (first|exact True.intro|exact rfl|(refine ⟨?_,?_⟩)|(intro h;cases h;done)|fail));done) ?_
  rintro i ⟨hi, hp⟩
  by_cases hil : i < y.deps.length
  ·obtain ⟨p, hpi⟩ := some_of_lt hil
   have hn := @all_not9 _ y.deps (fun b => decide (b.pit.size ≤ 40)) i p hpi
   have hy := @all_snoc9 _ y.deps (fun b => decide (b.pit.size ≤ 40)) i p hpi hp
   clear hp
   conv => whnf
   repeat' (first|((refine PickE.map i hpi (by omega) ?_);conv=>whnf)|((with_reducible refine Split.dec (fun _=>?_) (fun _=>?_))<;>conv=>whnf)|((with_reducible refine Need.mk ?_ ?_);(first|omega|rfl|decide|(refine ⟨?_,?_⟩<;>simp<;>omega)|(simp;omega));conv=>whnf)|((with_reducible refine Wr.inr ?_ ?_);(first|omega|(simp;omega));conv=>whnf)|(exfalso;first|omega|contradiction)|fail)
   all_goals first
    | exact Again.au (i + 1) ⟨by omega, hy (by simp;omega)⟩ (by omega) (by refine ⟨?_, ?_, rfl⟩<;>(repeat' (first|exact True.intro|exact rfl|(refine ⟨?_,?_⟩)|(intro h;cases h;done)|fail));done)
    |(rw [hn (by simp; omega)]; rfl)
  rw [List.take_of_length_le (by omega)] at hp
  rw [hp]
  conv => whnf
  repeat' (first|((with_reducible refine Split.dec (fun _=>?_) (fun _=>?_))<;>conv=>whnf)|((with_reducible refine Need.mk ?_ ?_);(first|omega|rfl|decide|(refine ⟨?_,?_⟩<;>simp<;>omega)|(simp;omega));conv=>whnf)|(exfalso;first|omega|contradiction)|fail)
  rfl
end Go.Proofs.Tryz
end

section
namespace Go.Proofs.Tryz
open Go Go.Vm Go.Plain
set_option maxRecDepth 20000
set_option maxHeartbeats 4000000
theorem atoiD_ok {w : List UInt8} {v : Int} (h : Lib.atoiAll w = .ok v) : atoiD (ofL w) = .tup [.int .i64 v, .ifc false] := by
 unfold atoiD
 rw [ofL_list, h]
theorem atoiD_no {w : List UInt8} (h : ∀ v, Lib.atoiAll w ≠ .ok v) : ∃ k, atoiD (ofL w) = .tup [.int .i64 k, .ifc true] := by
 unfold atoiD
 rw [ofL_list]
 split
 ·rename_i v hv; exact absurd hv (h v)
 ·exact ⟨_, rfl⟩
 ·exact ⟨_, rfl⟩
theorem trim_len (v : Int) : (trimB (itoaB v) ⟨#[45]⟩).size = (Lib.decDigits v.natAbs).length := by
 show (Lib.trimPrefix (Lib.itoa v) [45]).toArray.size = _
 rw [List.size_toArray, itoa_sign]
 unfold Lib.trimPrefix
 by_cases h : v < 0
 ·simp [h, Lib.hasPrefix]
 ·rw [if_neg h, List.nil_append, if_neg]
  cases hd : Lib.decDigits v.natAbs with
  | nil => exact absurd hd (dig_ne _)
  | cons b r =>
   have hb := dig_mem v.natAbs b (by rw [hd]; exact List.mem_cons_self)
   intro hp
   have hp : ([45] : List UInt8).isPrefixOf (b :: r) = true := hp
   simp only [List.isPrefixOf, Bool.and_true, beq_iff_eq] at hp
   rw [← hp] at hb
   revert hb; decide
def numsD (o : Option (List Int)) : D := match o with
 | some l => .tup [.sl 1 (l.map iD), .bool true]
 | none => .tup [.sl 1 [], .bool false]
theorem numsOf_app (l : List Int) {ws : List (List UInt8)} {w : List UInt8} {n : Int} (h : numOf w = some n) : (numsOf (w :: ws)).map (l ++ ·) = (numsOf ws).map ((l ++ [n]) ++ ·) := by
 rw [numsOf, h]
 cases numsOf ws <;> simp
theorem numsOf_no (ws : List (List UInt8)) {w : List UInt8} (h : numOf w = none) : numsOf (w :: ws) = none := by rw [numsOf, h]
theorem numOf_no {w : List UInt8} (h : ∀ v, Lib.atoiAll w ≠ .ok v) : numOf w = none := by
 unfold numOf
 split
 ·rename_i v hv; exact absurd hv (h v)
 ·rfl
theorem numOf_ok {w : List UInt8} {v : Int} (h : Lib.atoiAll w = .ok v) : numOf w = if Lib.itoa v = w ∧ (Lib.decDigits v.natAbs).length ≤ 15 then some v else none := by
 unfold numOf; rw [h]
theorem ev_numbers (ws : List (List UInt8)) (hn : ws.length ≤ 100000) (hw : ∀ w ∈ ws, w.length ≤ 100000) : Ev Tryz.prog 97 [.sl 1 (ws.map wD)] (numsD (numsOf ws)) := by
 have hl : (ws.map wD).length = ws.length := List.length_map _
 refine ev_of_awp tysOk mixed (fn := Tryz.f97) Tryz.func97 rfl rfl rfl ?_
 conv => whnf
 skip
 refine LoopK.o2 (fun q : Nat × List Int => q.1 ≤ ws.length ∧ numsOf ws = (numsOf (ws.drop q.1)).map (q.2 ++ ·) ∧ q.2.length ≤ q.1) (fun q => [(11, .d (.int .i64 q.1)), (4, .own 200 1 q.2.length)]) (fun q => [(200, .row 3 1 (q.2.map iD) false)]) (fun q => ws.length - q.1)
  (0, []) ⟨Nat.zero_le _, by show numsOf ws = (numsOf ws).map ([] ++ ·);simp, Nat.le_refl _⟩ (by refine ⟨?_, ?_, rfl⟩<;>(repeat' (first|exact True.intro|exact rfl|(refine ⟨?_,?_⟩)|fail));done) ?_
 rintro ⟨i, l⟩ ⟨hi, hI, hll⟩
 have hi : i ≤ ws.length := hi
 have hll : l.length ≤ i := hll
 have hlm : (l.map iD).length = l.length := List.length_map _
 by_cases hil : i < ws.length
 ·obtain ⟨w, hx⟩ := some_of_lt (l := ws) (i := i) hil
  have hxw := hw w (List.mem_of_getElem? hx)
  have hxs : (ofL w).size ≤ 100000 := by rw [ofL_size]; exact hxw
  have hA := ev_Atoi (ofL w) (by omega)
  have hI : numsOf ws = (numsOf (ws.drop i)).map (l ++ ·) := hI
  rw [drop_of hx] at hI
  by_cases hok : ∃ v, Lib.atoiAll w = .ok v
  ·obtain ⟨v, hv⟩ := hok
   rw [atoiD_ok hv] at hA
   have hvb := Lib.atoiAll_bounds hv
   have hIt := ev_Itoa v hvb
   have hT := ev_Trim (ofL w) ⟨#[45]⟩
   have hnv := numOf_ok hv
   by_cases he : Lib.itoa v = w
   ·subst he
    have htl := trim_len v
    have htl2 : (trimB (ofL (Lib.itoa v)) ⟨#[45]⟩).size = (Lib.decDigits v.natAbs).length := htl
    conv => whnf
    repeat' (first|((refine PickE.map i hx (by omega) ?_);conv=>whnf)|((with_reducible first|refine Split.of_true ?_|refine Split.of_false ?_);conv=>whnf)|(with_reducible refine Split.neg ?_)|((with_reducible refine Split.streq (fun _=>?_) (fun _=>?_))<;>conv=>whnf)|((with_reducible refine Split.dec (fun _=>?_) (fun _=>?_))<;>conv=>whnf)|((with_reducible refine Need.mk ?_ ?_);(first|omega|rfl|decide|(refine ⟨?_,?_⟩<;>simp<;>omega)|(simp;omega));conv=>whnf)|((with_reducible refine Wr.inr ?_ ?_);(first|omega|(simp;omega));conv=>whnf)|((with_reducible refine AltK.l ?_);(conv=>whnf);(first|(refine CallK.mk _ (hA) ?_)|(refine CallK.mk _ (hIt) ?_)|(refine CallK.mk _ (hT) ?_));conv=>whnf)|(exfalso;first|omega|contradiction)|fail)
    ·rw [hI, numsOf_no _ (by rw [hnv, if_neg]; intro h; have := h.2; omega)]; rfl
    ·have hnv : numOf (Lib.itoa v) = some v := by rw [hnv, if_pos ⟨rfl, by omega⟩]
     have hI2 := numsOf_app l (ws := ws.drop (i + 1)) hnv
     rw [← hI] at hI2
     have hmp1 : l.map iD ++ [iD v] = (l ++ [v]).map iD := by rw [List.map_append]; rfl
     exact Again.au (i + 1, l ++ [v]) ⟨by show i + 1 ≤ _;omega, hI2, by show (l ++ [v]).length ≤ i + 1;rw [List.length_append];simp;omega⟩ (by show ws.length - (i + 1) < ws.length - i;omega) (by refine ⟨?_, ?_, rfl⟩<;>(repeat' (first|exact True.intro|exact rfl|(refine ⟨?_,?_⟩)|(intro h;cases h;done)|exact map_snoc|(refine own_congr ?_;simp;done)|fail));done)
   ·have hne : itoaB v ≠ ofL w := fun e => he (ofL_inj e)
    conv => whnf
    repeat' (first|((refine PickE.map i hx (by omega) ?_);conv=>whnf)|((with_reducible first|refine Split.of_true ?_|refine Split.of_false ?_);conv=>whnf)|(with_reducible refine Split.neg ?_)|((with_reducible refine Split.streq (fun _=>?_) (fun _=>?_))<;>conv=>whnf)|((with_reducible refine Split.dec (fun _=>?_) (fun _=>?_))<;>conv=>whnf)|((with_reducible refine Need.mk ?_ ?_);(first|omega|rfl|decide|(refine ⟨?_,?_⟩<;>simp<;>omega)|(simp;omega));conv=>whnf)|((with_reducible refine Wr.inr ?_ ?_);(first|omega|(simp;omega));conv=>whnf)|((with_reducible refine AltK.l ?_);(conv=>whnf);(first|(refine CallK.mk _ (hA) ?_)|(refine CallK.mk _ (hIt) ?_)|(refine CallK.mk _ (hT) ?_));conv=>whnf)|(exfalso;first|omega|contradiction)|fail)
    all_goals first
     |(exfalso; exact hne (by assumption))
     |(rw [hI, numsOf_no _ (by rw [hnv, if_neg (fun h => he h.1)])]; rfl)
  ·obtain ⟨k, hk⟩ := atoiD_no (fun v hv => hok ⟨v, hv⟩)
   rw [hk] at hA
   conv => whnf
   repeat' (first|((refine PickE.map i hx (by omega) ?_);conv=>whnf)|((with_reducible refine Split.of_true ?_);conv=>whnf)|((with_reducible refine Split.dec (fun _=>?_) (fun _=>?_))<;>conv=>whnf)|((with_reducible refine Need.mk ?_ ?_);(first|omega|rfl|decide|(refine ⟨?_,?_⟩<;>simp<;>omega)|(simp;omega));conv=>whnf)|((with_reducible refine AltK.l ?_);(conv=>whnf);(first|(refine CallK.mk _ (hA) ?_));conv=>whnf)|(exfalso;first|omega|contradiction)|fail)
   rw [hI, numsOf_no _ (numOf_no fun v hv => hok ⟨v, hv⟩)]
   rfl
 ·conv => whnf
  repeat' (first|((with_reducible refine Split.dec (fun _=>?_) (fun _=>?_))<;>conv=>whnf)|((with_reducible refine Need.mk ?_ ?_);(first|omega|rfl|decide|(refine ⟨?_,?_⟩<;>simp<;>omega)|(simp;omega));conv=>whnf)|(exfalso;first|omega|contradiction)|fail)
  have hI : numsOf ws = (numsOf (ws.drop i)).map (l ++ ·) := hI
  rw [hI, List.drop_eq_nil_of_le (by omega)]
  simp [numsOf, numsD, retOf]
end Go.Proofs.Tryz
end

section
namespace Go.Proofs.Tryz
open Go Go.Vm Go.Plain
set_option maxRecDepth 20000
set_option maxHeartbeats 4000000
theorem itoa_len (n : Int) (h : -9223372036854775808 ≤ n ∧ n ≤ 9223372036854775807) : (Lib.itoa n).length ≤ 21 := by
 have := itoaB_size n h
 rwa [ba_size, itoaB_list] at this
theorem lk_gone : ∀ {hs : List (Nat × Bx)} {b : Nat} {x : Bx}, lk (hs.map fun p => (p.1, Bx.gone)) b = some x → x = .gone
 | [], _, _, h => by cases h
 |(k, y) :: r, b, x, h => by
  rw [List.map_cons, lk_cons] at h
  split at h
  ·cases h; rfl
  ·exact lk_gone h
theorem EvX.goneA {P : Program} {f : FuncId} {xs : List AV} {hs : List (Nat × Bx)} {d : D} (h : EvX P f xs hs (.d d) []) : EvX P f xs hs (.d d) (hs.map fun p => (p.1, Bx.gone)) := by
 refine ⟨h.fn, fun B0 w A L vals h1 h2 h3 h4 h5 h6 h7 => (h.run B0 w A L vals h1 h2 h3 h4 h5 h6 h7).mono ?_⟩
 rintro e w' ⟨u, A', L', rfl, hv, q1, q2, q3, q4, q5, q6, q7, q8, q9, -, -, -, -⟩
 cases hv with
 | d hv =>
 refine ⟨u, A', L, rfl, .d hv, q1, q2, q3, q4, q5, q6, q7, q8, q9, ⟨fun b x hx => ?_, fun b x g hx ho => ?_, fun b b' x x' g hx hx' ho ho' => ?_, fun b x b' hx hm => ?_⟩, fun g hg => ?_, fun b _ _ => .rfl', fun b hb => by cases hb⟩
 ·rw [lk_gone hx]; trivial
 ·rw [lk_gone hx] at ho; exact ho.elim
 ·rw [lk_gone hx] at ho; exact ho.elim
 ·rw [lk_gone hx] at hm; cases hm
 ·obtain ⟨b, x, hx, ho⟩ := hg
  rw [lk_gone hx] at ho; exact ho.elim
theorem xv_dline (ws : List (List UInt8)) (l : List Int) (hn : ws.length ≤ 10) (hl : l.length ≤ 10000) (hw : ∀ w ∈ ws, w.length ≤ 1000) (hb : ∀ n ∈ l, -9223372036854775808 ≤ n ∧ n ≤ 9223372036854775807) :
 EvX Tryz.prog 21 [.own 1000 1 ws.length, .own 1001 1 l.length] [(1001, .row 3 1 (l.map iD) false), (1000, .row 9 1 (ws.map wD) false)] (.d (.str (ofL (joinW (ws ++ l.map Lib.itoa) ++ [10])))) [(1001, .gone), (1000, .gone)] := by
 refine EvX.goneA ?_
 have hll : (l.map iD).length = l.length := List.length_map _
 refine evx_of_awp tysOk mixed (fn := Tryz.f21) Tryz.func21 rfl rfl rfl ?_
 conv => whnf
 skip
 refine LoopK.o2 (fun q : Nat => q ≤ l.length) (fun q => [(9, .d (.int .i64 q)), (0, .own 200 1 (ws.length + q))]) (fun q => [(200, .row 9 1 ((ws ++ (l.take q).map Lib.itoa).map wD) false)]) (fun q => l.length - q) 0 (Nat.zero_le _) (by refine ⟨?_, ?_, rfl⟩<;>(repeat' (first|exact True.intro|exact rfl|(refine ⟨?_,?_⟩)|(intro h;cases h;done)|(simp;done)|fail));done) ?_
 rintro q hq
 have hq : q ≤ l.length := hq
 have hlt : (l.take q).length = q := by rw [List.length_take]; omega
 have hlm : ((ws ++ (l.take q).map Lib.itoa).map wD).length = ws.length + q := by simp; omega
 by_cases hql : q < l.length
 ·obtain ⟨n, hx⟩ := some_of_lt hql
  have hI := ev_Itoa n (hb n (List.mem_of_getElem? hx))
  have hmp1 : (ws ++ (l.take q).map Lib.itoa).map wD ++ [D.str (itoaB n)] = (ws ++ (l.take (q + 1)).map Lib.itoa).map wD := by
   rw [take_one hx, List.map_append (f := Lib.itoa), ← List.append_assoc]; simp only [List.map_append]; rfl
  conv => whnf
  repeat' (first|((refine PickE.map q hx (by omega) ?_);conv=>whnf)|((with_reducible refine Split.dec (fun _=>?_) (fun _=>?_))<;>conv=>whnf)|((with_reducible refine Need.mk ?_ ?_);(first|omega|rfl|decide|(refine ⟨?_,?_⟩<;>simp<;>omega)|(simp;omega));conv=>whnf)|((with_reducible refine Wr.inr ?_ ?_);(first|omega|(simp;omega));conv=>whnf)|((with_reducible refine AltK.l ?_);(conv=>whnf);(first|(refine CallK.mk _ (hI) ?_));conv=>whnf)|(exfalso;first|omega|contradiction)|fail)
  all_goals first
   |(exfalso; dsimp only at *; omega)
   | exact Again.au (q + 1) (show q + 1 ≤ _ by omega) (by show l.length - (q + 1) < l.length - q;omega) (by refine ⟨?_, ?_, rfl⟩<;>(repeat' (first|exact True.intro|exact rfl|(refine ⟨?_,?_⟩)|(intro h;cases h;done)|exact hmp1|((first|refine own_congr ?_|refine int_congr ?_);simp [List.length_take];omega)|fail));done)
 ·have hJ := ev_Join (ws ++ l.map Lib.itoa) (by simp; omega) (fun w hm => by
   rcases List.mem_append.1 hm with hm | hm
   ·have := hw w hm; omega
   ·obtain ⟨n, hn, rfl⟩ := List.mem_map.1 hm
    have := itoa_len n (hb n hn); omega)
  have hJl := joinW_len (ws ++ l.map Lib.itoa) 1000 (fun w hm => by
   rcases List.mem_append.1 hm with hm | hm
   ·exact hw w hm
   ·obtain ⟨n, hn, rfl⟩ := List.mem_map.1 hm
    have := itoa_len n (hb n hn); omega)
  have hJs : (ofL (joinW (ws ++ l.map Lib.itoa))).size ≤ 20000000 := by
   rw [ofL_size]
   simp only [List.length_append, List.length_map] at hJl
   omega
  have z1 : (⟨#[10]⟩ : ByteArray).size = 1 := rfl
  have e1 : ofL (joinW (ws ++ l.map Lib.itoa)) ++ (⟨#[10]⟩ : ByteArray) = ofL (joinW (ws ++ l.map Lib.itoa) ++ [10]) := ofL_app _ _
  rw [List.take_of_length_le (by omega)]
  conv => whnf
  repeat' (first|((with_reducible refine Split.dec (fun _=>?_) (fun _=>?_))<;>conv=>whnf)|((with_reducible refine Need.mk ?_ ?_);(first|omega|rfl|decide|(refine ⟨?_,?_⟩<;>simp<;>omega)|(simp;omega));conv=>whnf)|((with_reducible refine AltK.l ?_);(conv=>whnf);(first|(refine CallK.mk _ (hJ) ?_));conv=>whnf)|(exfalso;first|omega|contradiction)|fail)
  have hmp1 := congrArg (fun x => AV.d (D.str x)) e1
  exact ⟨⟨[], (by refine ⟨?_, ?_, rfl⟩<;>(repeat' (first|exact True.intro|exact rfl|(refine ⟨?_,?_⟩)|fail));done)⟩, rfl⟩
end Go.Proofs.Tryz
end

section
open Go Go.Shelf
namespace Go.Proofs
def ly_LyCu_ren : Shelf.Ren := ⟨fun | 145 => 32 | 220 => 65 | 219 => 95 | 217 => 113 | 225 => 114 | 224 => 115 | 267 => 116 | 266 => 130 | 314 => 131 | n => n, fun | 9 => 9 | 4 => 4 | 59 => 87 | 3 => 3 | 5 => 5 | 46 => 169 | 146 => 180 | 51 => 177 | n => n, fun | 1 => 0 | n => n⟩
theorem ly_LyCu : Go.Proofs.Lays.n145 Tryz.prog ly_LyCu_ren where
 mixed := by kernel_rfl
 f145 := Tryz.func32.trans (congrArg some (by kernel_rfl))
 f217 := Tryz.func113.trans (congrArg some (by kernel_rfl))
 f219 := Tryz.func95.trans (congrArg some (by kernel_rfl))
 f220 := Tryz.func65.trans (congrArg some (by kernel_rfl))
 f224 := Tryz.func115.trans (congrArg some (by kernel_rfl))
 f225 := Tryz.func114.trans (congrArg some (by kernel_rfl))
 f266 := Tryz.func130.trans (congrArg some (by kernel_rfl))
 f267 := Tryz.func116.trans (congrArg some (by kernel_rfl))
 f314 := Tryz.func131.trans (congrArg some (by kernel_rfl))
 t3 := Tryz.underlying3
 a3 := Tryz.isAgg3
 z3 := Tryz.sizeOf3
 v3 := Tryz.zeroValue3
 t4 := Tryz.underlying4
 a4 := Tryz.isAgg4
 z4 := Tryz.sizeOf4
 v4 := Tryz.zeroValue4
 t5 := Tryz.underlying5
 a5 := Tryz.isAgg5
 z5 := Tryz.sizeOf5
 v5 := Tryz.zeroValue5
 t9 := Tryz.underlying9
 a9 := Tryz.isAgg9
 z9 := Tryz.sizeOf9
 v9 := Tryz.zeroValue9
 t46 := Tryz.underlying169
 a46 := Tryz.isAgg169
 z46 := Tryz.sizeOf169
 v46 := Tryz.zeroValue169
 t51 := Tryz.underlying177
 a51 := Tryz.isAgg177
 z51 := Tryz.sizeOf177
 v51 := Tryz.zeroValue177
 t59 := Tryz.underlying87
 a59 := Tryz.isAgg87
 z59 := Tryz.sizeOf87
 v59 := Tryz.zeroValue87
 t146 := Tryz.underlying180
 a146 := Tryz.isAgg180
 z146 := Tryz.sizeOf180
 v146 := Tryz.zeroValue180
 g1 := by kernel_rfl
end Go.Proofs
end

section
namespace Go.Proofs.Tryz
open Go Go.Vm Go.Plain
set_option maxRecDepth 20000
set_option maxHeartbeats 4000000
theorem ev_CutNl (l : List UInt8) (h : l.length ≤ 1000000) : Ev Tryz.prog 32 [wD l, .str ⟨#[10]⟩] (.tup [wD (cutL 10 l).1, wD (cutL 10 l).2.1, .bool (cutL 10 l).2.2]) := by
 have := Ev.cut ly_LyCu (List.mem_cons_of_mem _ List.mem_cons_self) (ofL l) ⟨#[10]⟩ (by rw [ofL_size]; omega)
 have e : cutD (ofL l) ⟨#[10]⟩ = .tup [wD (cutL 10 l).1, wD (cutL 10 l).2.1, .bool (cutL 10 l).2.2] := by
  unfold cutD
  have : Lib.cut (ofL l).data.toList (⟨#[10]⟩ : ByteArray).data.toList = cutL 10 l := cut_one 10 l
  rw [this]
  rfl
 rw [← e]
 exact this
theorem ev_SplitSp (l : List UInt8) (h : l.length ≤ 1000000) : Ev Tryz.prog 66 [wD l, .str ⟨#[32]⟩] (.sl 1 ((spl 32 l).map wD)) := by
 have := ev_Split (ofL l) ⟨#[32]⟩ (by rw [ofL_size]; omega) (by decide)
 rw [splitD_eq, ofL_list, List.map_map] at this
 exact this
end Go.Proofs.Tryz
end

section
namespace Go.Proofs.Tryz
open Go Go.Vm Go.Plain
set_option maxRecDepth 20000
set_option maxHeartbeats 4000000
theorem catW_app : ∀ (a b : List (List UInt8)) (s : List UInt8), catW (catW s a) b = catW s (a ++ b)
 | [], _, _ => rfl
 | x :: a, b, s => by rw [catW, List.cons_append, catW, catW_app a b]
theorem ev_lineR (w0 : List UInt8) (ws : List (List UInt8)) (l : List Int) (hn : ws.length ≤ 10) (hl : l.length ≤ 10000) (h0 : w0.length ≤ 1000) (hw : ∀ w ∈ ws, w.length ≤ 1000) (hb : ∀ n ∈ l, -9223372036854775800 ≤ n ∧ n ≤ 9223372036854775800) :
 Ev Tryz.prog 34 [.sl 1 ((w0 :: ws).map wD), .sl 1 (l.map iD)] (wD (joinW (w0 :: ws ++ l.map Lib.itoa) ++ [10])) := by
 have hlw : ((w0 :: ws).map wD).length = ws.length + 1 := by simp
 have hll : (l.map iD).length = l.length := List.length_map _
 have hs0 : (ofL w0).size ≤ 1000 := by rw [ofL_size]; exact h0
 have z1 : (⟨#[32]⟩ : ByteArray).size = 1 := rfl
 have z2 : (⟨#[10]⟩ : ByteArray).size = 1 := rfl
 refine ev_of_awp tysOk mixed (fn := Tryz.f34) Tryz.func34 rfl rfl rfl ?_
 conv => whnf
 repeat' (first|((refine PickE.mk (wD w0) rfl ?_);conv=>whnf)|((with_reducible refine Need.mk ?_ ?_);(first|omega|rfl|decide|(refine ⟨?_,?_⟩<;>simp<;>omega)|(simp;omega));conv=>whnf)|fail)
 refine LoopK.o2 (fun q : Nat × List UInt8 => q.1 ≤ ws.length ∧ catW q.2 (ws.drop q.1) = joinW (w0 :: ws) ∧ q.2.length ≤ 1000 + 1001 * q.1) (fun q => [(6, .d (.int .i64 ((q.1 : Int) + 1))), (5, .d (wD q.2))]) (fun _ => []) (fun q => ws.length - q.1) (0, w0)
  ⟨Nat.zero_le _, catW_join ws w0, by show w0.length ≤ _;omega⟩ (by refine ⟨?_, ?_, rfl⟩<;>(repeat' (first|exact True.intro|exact rfl|(refine ⟨?_,?_⟩)|fail));done) ?_
 rintro ⟨j, s⟩ ⟨hj, hc, hsl⟩
 have hj : j ≤ ws.length := hj
 have hc : catW s (ws.drop j) = joinW (w0 :: ws) := hc
 have hsl : s.length ≤ 1000 + 1001 * j := hsl
 have hss : (ofL s).size ≤ 1000 + 1001 * j := by rw [ofL_size]; exact hsl
 by_cases hjl : j < ws.length
 ·obtain ⟨x, hx⟩ := some_of_lt (l := ws) (i := j) hjl
  have hxw := hw x (List.mem_of_getElem? hx)
  have hxs : (ofL x).size ≤ 1000 := by rw [ofL_size]; exact hxw
  have hp : ((w0 :: ws).map wD)[((j : Int) + 1).toNat]? = some (wD x) := by
   rw [show ((j : Int) + 1).toNat = j + 1 by omega, List.getElem?_map, List.getElem?_cons_succ, hx]; rfl
  rw [drop_of hx] at hc
  have e1 : ofL s ++ ((⟨#[32]⟩ : ByteArray) ++ ofL x) = ofL (s ++ 32 :: x) := ba_ext (by rw [ba_app, ba_app, ofL_list, ofL_list, ofL_list]; rfl)
  have hmp1 := congrArg D.str e1
  have hmp2 := congrArg AV.d hmp1
  conv => whnf
  repeat' (first|((refine PickE.mk (wD x) hp ?_);conv=>whnf)|((with_reducible refine Split.dec (fun _=>?_) (fun _=>?_))<;>conv=>whnf)|((with_reducible refine Need.mk ?_ ?_);(first|omega|rfl|decide|(refine ⟨?_,?_⟩<;>simp<;>omega)|(simp;omega));conv=>whnf)|((with_reducible refine Wr.inr ?_ ?_);(first|omega|(simp;omega));conv=>whnf)|(exfalso;first|omega|contradiction)|fail)
  all_goals first
   |(exfalso; dsimp only at *; omega)
   | exact Again.au (j + 1, s ++ 32 :: x) ⟨by show j + 1 ≤ _;omega, hc, by show (s ++ 32 :: x).length ≤ 1000 + 1001 * (j + 1);simp only [List.length_append, List.length_cons];omega⟩ (by show ws.length - (j + 1) < ws.length - j;omega) (by refine ⟨?_, ?_, rfl⟩<;>(repeat' (first|exact True.intro|exact rfl|(refine ⟨?_,?_⟩)|fail));done)
 ·have hse : s = joinW (w0 :: ws) := by
   rw [← hc, List.drop_eq_nil_of_le (by omega)]; rfl
  conv => whnf
  repeat' (first|((with_reducible refine Split.dec (fun _=>?_) (fun _=>?_))<;>conv=>whnf)|((with_reducible refine Need.mk ?_ ?_);(first|omega|rfl|decide|(refine ⟨?_,?_⟩<;>simp<;>omega)|(simp;omega));conv=>whnf)|(exfalso;first|omega|contradiction)|fail)
  have hnl : ∀ n ∈ l, (Lib.itoa n).length ≤ 21 := fun n hn => itoa_len n (by have := hb n hn; omega)
  have hslt : s.length ≤ 12000 := by omega
  clear hss hsl hc hjl
  refine LoopK.o2 (fun q : Nat × List UInt8 => q.1 ≤ l.length ∧ catW q.2 ((l.drop q.1).map Lib.itoa) = joinW (w0 :: ws ++ l.map Lib.itoa) ∧ q.2.length ≤ 12000 + 22 * q.1) (fun q => [(7, .d (.int .i64 q.1)), (5, .d (wD q.2))]) (fun _ => []) (fun q => l.length - q.1) (0, s)
   ⟨Nat.zero_le _, by show catW s (l.map Lib.itoa) = _;rw [hse, ← catW_join ws w0, catW_app, catW_join];rfl, by show s.length ≤ _;omega⟩ (by refine ⟨?_, ?_, rfl⟩<;>(repeat' (first|exact True.intro|exact rfl|(refine ⟨?_,?_⟩)|fail));done) ?_
  rintro ⟨k, t⟩ ⟨hk, hc, htl⟩
  have hk : k ≤ l.length := hk
  have hc : catW t ((l.drop k).map Lib.itoa) = joinW (w0 :: ws ++ l.map Lib.itoa) := hc
  have htl : t.length ≤ 12000 + 22 * k := htl
  have hts : (ofL t).size ≤ 12000 + 22 * k := by rw [ofL_size]; exact htl
  by_cases hkl : k < l.length
  ·obtain ⟨n, hx⟩ := some_of_lt (l := l) (i := k) hkl
   have hxw := hnl n (List.mem_of_getElem? hx)
   have hI := ev_Decimal n (hb n (List.mem_of_getElem? hx))
   have hxs : (itoaB n).size ≤ 21 := by rw [ba_size, itoaB_list]; exact hxw
   rw [drop_of hx] at hc
   have e1 : ofL t ++ ((⟨#[32]⟩ : ByteArray) ++ itoaB n) = ofL (t ++ 32 :: Lib.itoa n) := ba_ext (by rw [ba_app, ba_app, ofL_list, ofL_list, itoaB_list]; rfl)
   have hmp1 := congrArg D.str e1
   have hmp2 := congrArg AV.d hmp1
   conv => whnf
   repeat' (first|((refine PickE.map k hx (by omega) ?_);conv=>whnf)|((with_reducible refine Split.dec (fun _=>?_) (fun _=>?_))<;>conv=>whnf)|((with_reducible refine Need.mk ?_ ?_);(first|omega|rfl|decide|(refine ⟨?_,?_⟩<;>simp<;>omega)|(simp;omega));conv=>whnf)|((with_reducible refine Wr.inr ?_ ?_);(first|omega|(simp;omega));conv=>whnf)|((with_reducible refine AltK.l ?_);(conv=>whnf);(first|(refine CallK.mk _ (hI) ?_));conv=>whnf)|(exfalso;first|omega|contradiction)|fail)
   all_goals first
    |(exfalso; dsimp only at *; omega)
    | exact Again.au (k + 1, t ++ 32 :: Lib.itoa n) ⟨by show k + 1 ≤ _;omega, hc, by show (t ++ 32 :: Lib.itoa n).length ≤ 12000 + 22 * (k + 1);simp only [List.length_append, List.length_cons];omega⟩ (by show l.length - (k + 1) < l.length - k;omega) (by refine ⟨?_, ?_, rfl⟩<;>(repeat' (first|exact True.intro|exact rfl|(refine ⟨?_,?_⟩)|fail));done)
  ·have hte : t = joinW (w0 :: ws ++ l.map Lib.itoa) := by
    rw [← hc, List.drop_eq_nil_of_le (by omega)]; rfl
   have e1 : ofL t ++ (⟨#[10]⟩ : ByteArray) = ofL (t ++ [10]) := ofL_app _ _
   conv => whnf
   repeat' (first|((with_reducible refine Split.dec (fun _=>?_) (fun _=>?_))<;>conv=>whnf)|((with_reducible refine Need.mk ?_ ?_);(first|omega|rfl|decide|(refine ⟨?_,?_⟩<;>simp<;>omega)|(simp;omega));conv=>whnf)|(exfalso;first|omega|contradiction)|fail)
   all_goals first
    |(exfalso; dsimp only at *; omega)
    |(show D.str (ofL t ++ (⟨#[10]⟩ : ByteArray)) = _; rw [e1, hte]; rfl)
end Go.Proofs.Tryz
end

section
namespace Go.Proofs.Tryz
open Go Go.Vm Go.Plain
set_option maxRecDepth 20000
set_option maxHeartbeats 4000000
def sPit : List UInt8 := [112, 105, 116]
def sBulk : List UInt8 := [98, 117, 108, 107, 105, 110, 103]
def sDep : List UInt8 := [100, 101, 112, 111, 115, 105, 116]
def pitW (p : Pt) : List (List UInt8) := [sPit, p.name.data.toList] ++ ([p.area, p.base, p.top, p.price] ++ p.cls).map Lib.itoa
def bulkW (b : Bk) (c : Int) : List (List UInt8) := [sBulk, b.soil.data.toList] ++ [b.num, b.den, c].map Lib.itoa
def depW (d : Dp) : List (List UInt8) := [sDep, Lib.itoa d.batch, d.pit.data.toList, Lib.itoa d.vol]
def catL (s : List UInt8) : List (List (List UInt8)) → List UInt8
 | [] => s
 | ws :: r => catL (s ++ (joinW ws ++ [10])) r
def ydW (y : Yd) : List (List (List UInt8)) := y.pits.map pitW ++ (List.zipWith bulkW y.bulk y.carry ++ y.deps.map depW)
def ydT (y : Yd) : List UInt8 := catL [] (ydW y)
theorem catL_app : ∀ (a b : List (List (List UInt8))) (s : List UInt8), catL (catL s a) b = catL s (a ++ b)
 | [], _, _ => rfl
 | x :: a, b, s => by rw [catL, List.cons_append, catL, catL_app a b]
theorem catL_flat : ∀ (a : List (List (List UInt8))) (s : List UInt8), catL s a = s ++ ((a.map joinW).map (· ++ [10])).flatten
 | [], s => by simp [catL]
 | x :: a, s => by rw [catL, catL_flat a]; simp
end Go.Proofs.Tryz
end

section
namespace Go.Proofs.Tryz
open Go Go.Vm
set_option maxRecDepth 20000
set_option maxHeartbeats 8000000
theorem smB {y : Yd} (h : smallB y = true) : SmB y := by
 simp only [smallB, Bool.and_eq_true, List.all_eq_true, decide_eq_true_eq] at h
 obtain ⟨⟨⟨h1, h2⟩, -⟩, -⟩ := h
 obtain ⟨q1, q2, q3, q4⟩ := sm_ok h1
 exact ⟨by omega, by omega, by omega, by omega, fun x hx => (h2 x hx).2⟩
theorem SmB.copied {y : Yd} (h : SmB y) : Ev Tryz.prog 7 [ydD y] (ydD y) :=
 ev_Copied y (by have := h.p; omega) (by have := h.b; omega) (by have := h.d; omega) (by have := h.c; omega) (fun p hp => Nat.le_trans (h.cl p hp) (by decide))
theorem SmB.sp {y : Yd} (h : SmB y) : smallP y := fun p hp => Nat.le_trans (h.cl p hp) (by decide)
end Go.Proofs.Tryz
end

section
namespace Go.Proofs.Tryz
open Go Go.Vm Go.Plain
set_option maxRecDepth 20000
set_option maxHeartbeats 4000000
def zB (n : Int) : Prop := n.natAbs ≤ 100000000000000
theorem nm_le {s : ByteArray} (h : nameB s = true) : s.size ≤ 12 := by
 simp only [nameB, Bool.and_eq_true, decide_eq_true_eq] at h
 exact h.1.2
theorem nm_pos {s : ByteArray} (h : nameB s = true) : s ≠ ⟨#[]⟩ := fun e => by
 rw [e] at h; revert h; decide
structure PitOk (p : Pt) : Prop where
 nm : nameB p.name = true
 cl : p.cls.length ≤ 12
 z : ∀ n ∈ [p.area, p.base, p.top, p.price] ++ p.cls, zB n
structure BulkOk (b : Bk) (c : Int) : Prop where
 nm : nameB b.soil = true
 z : ∀ n ∈ [b.num, b.den, c], zB n
structure DepOk (d : Dp) : Prop where
 nm : nameB d.pit = true
 zb : zB d.batch
 zv : zB d.vol
structure PrOk (y : Yd) : Prop where
 pits : y.pits.length ≤ 8
 bulk : y.bulk.length ≤ 20
 carL : y.carry.length = y.bulk.length
 deps : y.deps.length ≤ 200
 pit : ∀ p ∈ y.pits, PitOk p
 bk : ∀ (i : Nat) b c, y.bulk[i]? = some b → y.carry[i]? = some c → BulkOk b c
 dp : ∀ d ∈ y.deps, DepOk d
theorem cls_zero : ∀ {l : List Int} {o : Option Int}, clsGo o l = 0 → ∀ c ∈ l, 0 ≤ c ∧ c ≤ 9
 | [], _, _, c, h => by cases h
 | x :: l, o, h, c, hc => by
  rw [clsGo] at h
  split at h
  ·cases h
  rename_i h1
  split at h
  ·cases h
  rcases List.mem_cons.1 hc with rfl | hc
  ·simp [outsideB] at h1; omega
  ·exact cls_zero h c hc
theorem ptErr_cls {p : Pt} (h : ptErr p = 0) : clsGo none p.cls = 0 := by
 unfold ptErr at h
 split at h
 ·cases h
 split at h
 ·cases h
 split at h
 ·cases h
 exact h
theorem dp_zero {y : Yd} : ∀ {r o : List Dp}, dpGo y o r = 0 → ∀ d ∈ r, (1 ≤ d.batch ∧ d.batch ≤ 1000000) ∧ 0 ≤ pitI y d.pit ∧ 0 ≤ d.vol ∧ d.vol ≤ 100000000000000
 | [], _, _, d, h => by cases h
 | x :: r, o, h, d, hd => by
  rw [dpGo] at h
  split at h
  ·cases h
  rename_i h1
  split at h
  ·cases h
  split at h
  ·cases h
  rename_i h2
  split at h
  ·cases h
  rename_i h3
  rcases List.mem_cons.1 hd with rfl | hd
  ·simp [outsideB] at h1 h3; omega
  ·exact dp_zero h d hd
theorem sEq_true {a b : ByteArray} (h : sEq a b = true) : a = b := by
 by_cases e : a = b
 ·exact e
 ·rw [sEq_ne e] at h; cases h
theorem pitI_name {y : Yd} {s : ByteArray} (h : 0 ≤ pitI y s) : ∃ p ∈ y.pits, p.name = s := by
 unfold pitI ixI at h
 split at h
 ·rename_i i hi
  obtain ⟨h1, h2, -⟩ := List.findIdx?_eq_some_iff_getElem.1 hi
  exact ⟨y.pits[i], List.getElem_mem h1, sEq_true h2⟩
 ·omega
theorem pr_ok {y : Yd} (h : ydErr y = 0) (hc : ∀ p ∈ y.pits, p.cls.length ≤ 12) : PrOk y := by
 have hy := yd_ok h
 unfold ydErr at h
 split at h
 ·cases h
 split at h
 ·contradiction
 rename_i h1
 split at h
 ·cases h
 split at h
 ·contradiction
 rename_i h2
 split at h
 ·cases h
 split at h
 ·contradiction
 unfold dpsErr at h
 split at h
 ·cases h
 split at h
 ·contradiction
 rename_i h5
 have z1 := nmGo_zero (show nmGo Pt.name ptErr [] y.pits = 0 by simpa using h1)
 have z2 := nmGo_zero (show nmGo Bk.soil bkErr [] y.bulk = 0 by simpa using h2)
 have z5 := dp_zero (show dpGo y [] y.deps = 0 by simpa using h5)
 refine ⟨hy.pits, hy.bulk, hy.carL, hy.deps, fun p hp => ⟨(z1 p hp).2, hc p hp, fun n hn => ?_⟩, fun i b c hb hcc => ?_, fun d hd => ?_⟩
 ·have hk := pt_ok (z1 p hp).1
  have h1 := hk.area
  have h2 := hk.base
  have h3 := hk.top
  have h4 := hk.price
  rcases List.mem_append.1 hn with hn | hn
  ·simp only [List.mem_cons, List.not_mem_nil, or_false] at hn
   unfold zB
   omega
  ·have := cls_zero (ptErr_cls (z1 p hp).1) n hn
   unfold zB; omega
 ·have hbm := List.mem_of_getElem? hb
  have hk := hy.bk b hbm
  have h1 := hk.den
  have h2 := hk.num
  have h3 := hy.car i b c hb hcc
  refine ⟨(z2 b hbm).2, fun n hn => ?_⟩
  simp only [List.mem_cons, List.not_mem_nil, or_false] at hn
  unfold zB
  omega
 ·obtain ⟨h1, h2, h3⟩ := z5 d hd
  obtain ⟨p, hp, e⟩ := pitI_name h2
  refine ⟨?_, by unfold zB; omega, by unfold zB; omega⟩
  rw [← e]; exact (z1 p hp).2
end Go.Proofs.Tryz
end

section
namespace Go.Proofs.Tryz
open Go Go.Vm Go.Plain
set_option maxRecDepth 20000
set_option maxHeartbeats 4000000
theorem zB_bd {n : Int} (h : zB n) : -9223372036854775800 ≤ n ∧ n ≤ 9223372036854775800 := by unfold zB at h; omega
theorem pit_lineR (p : Pt) (hN : p.name.size ≤ 12) (hc : p.cls.length ≤ 12) (hb : ∀ n ∈ [p.area, p.base, p.top, p.price] ++ p.cls, -9223372036854775800 ≤ n ∧ n ≤ 9223372036854775800) :
 Ev Tryz.prog 34 [.sl 1 [wD sPit, .str p.name], .sl 1 (([p.area, p.base, p.top, p.price] ++ p.cls).map iD)] (wD (joinW (pitW p) ++ [10])) := by
 have h := ev_lineR sPit [p.name.data.toList] ([p.area, p.base, p.top, p.price] ++ p.cls) (by simp) (by simp; omega) (by decide) (fun w hw => by
  rw [List.mem_singleton] at hw; rw [hw, ← ba_size]; omega) hb
 have e : wD p.name.data.toList = .str p.name := congrArg D.str (ofL_data p.name)
 simp only [List.map_cons, List.map_nil, e] at h ⊢
 exact h
theorem pit_len (p : Pt) (hN : p.name.size ≤ 12) (hc : p.cls.length ≤ 12) (hb : ∀ n ∈ [p.area, p.base, p.top, p.price] ++ p.cls, -9223372036854775800 ≤ n ∧ n ≤ 9223372036854775800) : (joinW (pitW p) ++ [10]).length ≤ 900 := by
 have h := joinW_len (pitW p) 21 (fun w hw => by
  unfold pitW at hw
  rcases List.mem_append.1 hw with hw | hw
  ·rcases List.mem_cons.1 hw with rfl | hw
   ·decide
   ·rw [List.mem_singleton] at hw
    rw [hw, ← ba_size]; omega
  ·obtain ⟨n, hn, rfl⟩ := List.mem_map.1 hw
   exact itoa_len n (by have := hb n hn; omega))
 have e : (pitW p).length = 6 + p.cls.length := by unfold pitW; simp; omega
 rw [e] at h
 rw [List.length_append, List.length_singleton]
 omega
theorem bulk_lineR (b : Bk) (c : Int) (hN : b.soil.size ≤ 12) (hb : ∀ n ∈ [b.num, b.den, c], -9223372036854775800 ≤ n ∧ n ≤ 9223372036854775800) :
 Ev Tryz.prog 34 [.sl 1 [wD sBulk, .str b.soil], .sl 1 ([b.num, b.den, c].map iD)] (wD (joinW (bulkW b c) ++ [10])) := by
 have h := ev_lineR sBulk [b.soil.data.toList] [b.num, b.den, c] (by simp) (by simp) (by decide) (fun w hw => by
  rw [List.mem_singleton] at hw; rw [hw, ← ba_size]; omega) hb
 have e : wD b.soil.data.toList = .str b.soil := congrArg D.str (ofL_data b.soil)
 simp only [List.map_cons, List.map_nil, e] at h ⊢
 exact h
theorem bulk_len (b : Bk) (c : Int) (hN : b.soil.size ≤ 12) (hb : ∀ n ∈ [b.num, b.den, c], -9223372036854775800 ≤ n ∧ n ≤ 9223372036854775800) : (joinW (bulkW b c) ++ [10]).length ≤ 900 := by
 have h := joinW_len (bulkW b c) 21 (fun w hw => by
  unfold bulkW at hw
  rcases List.mem_append.1 hw with hw | hw
  ·rcases List.mem_cons.1 hw with rfl | hw
   ·decide
   ·rw [List.mem_singleton] at hw
    rw [hw, ← ba_size]; omega
  ·obtain ⟨n, hn, rfl⟩ := List.mem_map.1 hw
   exact itoa_len n (by have := hb n hn; omega))
 have e : (bulkW b c).length = 5 := by unfold bulkW; simp
 rw [e] at h
 rw [List.length_append, List.length_singleton]
 omega
theorem dep_lineR (d : Dp) (hN : d.pit.size ≤ 12) (h1 : -9223372036854775800 ≤ d.batch ∧ d.batch ≤ 9223372036854775800) (h2 : -9223372036854775800 ≤ d.vol ∧ d.vol ≤ 9223372036854775800) :
 Ev Tryz.prog 34 [.sl 1 [wD sDep, .str (itoaB d.batch), .str d.pit], .sl 1 [iD d.vol]] (wD (joinW (depW d) ++ [10])) := by
 have h := ev_lineR sDep [Lib.itoa d.batch, d.pit.data.toList] [d.vol] (by simp) (by simp) (by decide) (fun w hw => by
  rcases List.mem_cons.1 hw with rfl | hw
  ·have := itoa_len d.batch (by omega); omega
  ·rw [List.mem_singleton] at hw; rw [hw, ← ba_size]; omega) (fun n hn => by rw [List.mem_singleton] at hn; rw [hn]; exact h2)
 have e : wD d.pit.data.toList = .str d.pit := congrArg D.str (ofL_data d.pit)
 simp only [List.map_cons, List.map_nil, e] at h
 exact h
theorem dep_len (d : Dp) (hN : d.pit.size ≤ 12) (h1 : -9223372036854775800 ≤ d.batch ∧ d.batch ≤ 9223372036854775800) (h2 : -9223372036854775800 ≤ d.vol ∧ d.vol ≤ 9223372036854775800) : (joinW (depW d) ++ [10]).length ≤ 900 := by
 have b1 := itoa_len d.batch (by omega)
 have b2 := itoa_len d.vol (by omega)
 rw [ba_size] at hN
 have h := joinW_len (depW d) 21 (fun w hw => by
  simp only [depW, List.mem_cons, List.not_mem_nil, or_false] at hw
  rcases hw with rfl | rfl | rfl | rfl
  ·decide
  ·exact b1
  ·omega
  ·exact b2)
 have e : (depW d).length = 4 := rfl
 rw [e] at h
 rw [List.length_append, List.length_singleton]
 omega
theorem ev_PrintR9 (y : Yd) (hy : PrOk y) : Ev Tryz.prog 10 [ydD y] (wD (ydT y)) := by
 have h1 := hy.pits
 have h2 := hy.bulk
 have h3 := hy.carL
 have h4 := hy.deps
 have hld : (y.deps.map dpD).length = y.deps.length := List.length_map _
 have hlp : (y.pits.map ptD).length = y.pits.length := List.length_map _
 have hlb : (y.bulk.map bkD).length = y.bulk.length := List.length_map _
 refine ev_of_awp tysOk mixed (fn := Tryz.f10) Tryz.func10 rfl rfl rfl ?_
 conv => whnf
 skip
 refine LoopK.o2 (fun q : Nat × List UInt8 => q.1 ≤ y.pits.length ∧ catL q.2 ((y.pits.drop q.1).map pitW) = catL [] (y.pits.map pitW) ∧ q.2.length ≤ 1000 * q.1) (fun q => [(4, .d (.int .i64 q.1)), (3, .d (wD q.2))]) (fun _ => [(1, .var [.d (.sl 6 (y.pits.map ptD)), .d (.sl 3 (y.bulk.map bkD)), .d (.sl 3 (y.deps.map dpD)), .d (.sl 1 (y.carry.map iD))] false)]) (fun q => y.pits.length - q.1) (0, [])
  ⟨Nat.zero_le _, rfl, Nat.zero_le _⟩ (by refine ⟨?_, ?_, rfl⟩<;>(repeat' (first|exact True.intro|exact rfl|(refine ⟨?_,?_⟩)|(intro h;cases h;done)|fail));done) ?_
 rintro ⟨i, t⟩ ⟨hi, hI, htl⟩
 have hi : i ≤ y.pits.length := hi
 have htl : t.length ≤ 1000 * i := htl
 have hts : (ofL t).size ≤ 1000 * i := by rw [ofL_size]; exact htl
 by_cases hil : i < y.pits.length
 ·obtain ⟨p, hx⟩ := some_of_lt (l := y.pits) (i := i) hil
  have gp := hy.pit p (List.mem_of_getElem? hx)
  have g2 := nm_le gp.nm
  have g3 := gp.cl
  have g4 : ∀ n ∈ [p.area, p.base, p.top, p.price] ++ p.cls, -9223372036854775800 ≤ n ∧ n ≤ 9223372036854775800 := fun n hn => zB_bd (gp.z n hn)
  have hL := pit_lineR p g2 g3 g4
  have hpl := pit_len p g2 g3 g4
  have hps : (ofL (joinW (pitW p) ++ [10])).size ≤ 900 := by rw [ofL_size]; exact hpl
  conv => whnf
  repeat' (first|((refine PickE.map i hx (by omega) ?_);conv=>whnf)|((with_reducible refine Split.dec (fun _=>?_) (fun _=>?_))<;>conv=>whnf)|((with_reducible refine Need.mk ?_ ?_);(first|omega|rfl|decide|(refine ⟨?_,?_⟩<;>simp<;>omega)|(simp;omega));conv=>whnf)|((with_reducible refine Wr.inr ?_ ?_);(first|omega|(simp;omega));conv=>whnf)|((with_reducible refine AltK.l ?_);(conv=>whnf);(first|(refine CallK.mk _ (hL) ?_));conv=>whnf)|(exfalso;first|omega|contradiction)|fail)
  have e1 : ofL t ++ ofL (joinW (pitW p) ++ [10]) = ofL (t ++ (joinW (pitW p) ++ [10])) := ofL_app _ _
  have hmp1 := congrArg D.str e1
  have hmp2 := congrArg AV.d hmp1
  have hI : catL t ((y.pits.drop i).map pitW) = catL [] (y.pits.map pitW) := hI
  rw [drop_of hx] at hI
  exact Again.au (i + 1, t ++ (joinW (pitW p) ++ [10])) ⟨by show i + 1 ≤ _;omega, hI, by show (t ++ (joinW (pitW p) ++ [10])).length ≤ 1000 * (i + 1);rw [List.length_append];omega⟩ (by show y.pits.length - (i + 1) < y.pits.length - i;omega) (by refine ⟨?_, ?_, rfl⟩<;>(repeat' (first|exact True.intro|exact rfl|(refine ⟨?_,?_⟩)|(intro h;cases h;done)|fail));done)
 ·conv => whnf
  repeat' (first|((with_reducible refine Split.dec (fun _=>?_) (fun _=>?_))<;>conv=>whnf)|((with_reducible refine Need.mk ?_ ?_);(first|omega|rfl|decide|(refine ⟨?_,?_⟩<;>simp<;>omega)|(simp;omega));conv=>whnf)|(exfalso;first|omega|contradiction)|fail)
  have hte : t = catL [] (y.pits.map pitW) := by
   rw [← hI]; show t = catL t ((y.pits.drop i).map pitW)
   rw [List.drop_eq_nil_of_le (by omega)]; rfl
  have htl : t.length ≤ 8000 := by omega
  clear hI hts
  refine LoopK.o2 (fun q : Nat × List UInt8 => q.1 ≤ y.bulk.length ∧ catL q.2 (List.zipWith bulkW (y.bulk.drop q.1) (y.carry.drop q.1)) = catL t (List.zipWith bulkW y.bulk y.carry) ∧ q.2.length ≤ 8000 + 1000 * q.1) (fun q => [(6, .d (.int .i64 q.1)), (3, .d (wD q.2))]) (fun _ => [(1, .var [.d (.sl 6 (y.pits.map ptD)), .d (.sl 3 (y.bulk.map bkD)), .d (.sl 3 (y.deps.map dpD)), .d (.sl 1 (y.carry.map iD))] false)]) (fun q => y.bulk.length - q.1) (0, t)
   ⟨Nat.zero_le _, rfl, by show t.length ≤ _;omega⟩ (by refine ⟨?_, ?_, rfl⟩<;>(repeat' (first|exact True.intro|exact rfl|(refine ⟨?_,?_⟩)|(intro h;cases h;done)|fail));done) ?_
  rintro ⟨j, s⟩ ⟨hj, hJ, hsl⟩
  have hj : j ≤ y.bulk.length := hj
  have hsl : s.length ≤ 8000 + 1000 * j := hsl
  have hss : (ofL s).size ≤ 8000 + 1000 * j := by rw [ofL_size]; exact hsl
  by_cases hjl : j < y.bulk.length
  ·obtain ⟨b, hx⟩ := some_of_lt (l := y.bulk) (i := j) hjl
   obtain ⟨c, hz⟩ := some_of_lt (l := y.carry) (i := j) (by omega)
   have gb := hy.bk j b c hx hz
   have g1 := nm_le gb.nm
   have g2 : ∀ n ∈ [b.num, b.den, c], -9223372036854775800 ≤ n ∧ n ≤ 9223372036854775800 := fun n hn => zB_bd (gb.z n hn)
   have hL := bulk_lineR b c g1 g2
   have hpl := bulk_len b c g1 g2
   have hps : (ofL (joinW (bulkW b c) ++ [10])).size ≤ 900 := by rw [ofL_size]; exact hpl
   have hlc : (y.carry.map iD).length = y.carry.length := List.length_map _
   conv => whnf
   repeat' (first|((refine PickE.map j hz (by omega) ?_);conv=>whnf)|((refine PickE.map j hx (by omega) ?_);conv=>whnf)|((with_reducible refine Split.dec (fun _=>?_) (fun _=>?_))<;>conv=>whnf)|((with_reducible refine Need.mk ?_ ?_);(first|omega|rfl|decide|(refine ⟨?_,?_⟩<;>simp<;>omega)|(simp;omega));conv=>whnf)|((with_reducible refine Wr.inr ?_ ?_);(first|omega|(simp;omega));conv=>whnf)|((with_reducible refine AltK.l ?_);(conv=>whnf);(first|(refine CallK.mk _ (hL) ?_));conv=>whnf)|(exfalso;first|omega|contradiction)|fail)
   have e1 : ofL s ++ ofL (joinW (bulkW b c) ++ [10]) = ofL (s ++ (joinW (bulkW b c) ++ [10])) := ofL_app _ _
   have hmp1 := congrArg D.str e1
   have hmp2 := congrArg AV.d hmp1
   have hJ : catL s (List.zipWith bulkW (y.bulk.drop j) (y.carry.drop j)) = catL t (List.zipWith bulkW y.bulk y.carry) := hJ
   rw [drop_of hx, drop_of hz] at hJ
   exact Again.au (j + 1, s ++ (joinW (bulkW b c) ++ [10])) ⟨by show j + 1 ≤ _;omega, hJ, by show (s ++ (joinW (bulkW b c) ++ [10])).length ≤ 8000 + 1000 * (j + 1);rw [List.length_append];omega⟩ (by show y.bulk.length - (j + 1) < y.bulk.length - j;omega) (by refine ⟨?_, ?_, rfl⟩<;>(repeat' (first|exact True.intro|exact rfl|(refine ⟨?_,?_⟩)|(intro h;cases h;done)|fail));done)
  ·conv => whnf
   repeat' (first|((with_reducible refine Split.dec (fun _=>?_) (fun _=>?_))<;>conv=>whnf)|((with_reducible refine Need.mk ?_ ?_);(first|omega|rfl|decide|(refine ⟨?_,?_⟩<;>simp<;>omega)|(simp;omega));conv=>whnf)|(exfalso;first|omega|contradiction)|fail)
   have hse : s = catL t (List.zipWith bulkW y.bulk y.carry) := by
    rw [← hJ]; show s = catL s (List.zipWith bulkW (y.bulk.drop j) (y.carry.drop j))
    rw [List.drop_eq_nil_of_le (by omega)]; rfl
   have hsl : s.length ≤ 28000 := by omega
   have hall : catL s (y.deps.map depW) = ydT y := by rw [hse, catL_app, hte, catL_app]; rfl
   clear hJ hss hse hte
   refine LoopK.o2 (fun q : Nat × List UInt8 => q.1 ≤ y.deps.length ∧ catL q.2 ((y.deps.drop q.1).map depW) = ydT y ∧ q.2.length ≤ 28000 + 1000 * q.1) (fun q => [(8, .d (.int .i64 q.1)), (3, .d (wD q.2))]) (fun _ => [(1, .var [.d (.sl 6 (y.pits.map ptD)), .d (.sl 3 (y.bulk.map bkD)), .d (.sl 3 (y.deps.map dpD)), .d (.sl 1 (y.carry.map iD))] false)]) (fun q => y.deps.length - q.1) (0, s)
    ⟨Nat.zero_le _, hall, by show s.length ≤ _;omega⟩ (by refine ⟨?_, ?_, rfl⟩<;>(repeat' (first|exact True.intro|exact rfl|(refine ⟨?_,?_⟩)|(intro h;cases h;done)|fail));done) ?_
   rintro ⟨k, u⟩ ⟨hk, hK, hul⟩
   have hk : k ≤ y.deps.length := hk
   have hul : u.length ≤ 28000 + 1000 * k := hul
   have hus : (ofL u).size ≤ 28000 + 1000 * k := by rw [ofL_size]; exact hul
   have hK : catL u ((y.deps.drop k).map depW) = ydT y := hK
   by_cases hkl : k < y.deps.length
   ·obtain ⟨d, hx⟩ := some_of_lt (l := y.deps) (i := k) hkl
    have gd := hy.dp d (List.mem_of_getElem? hx)
    have g1 := nm_le gd.nm
    have g2 := zB_bd gd.zb
    have g3 := zB_bd gd.zv
    have hL := dep_lineR d g1 g2 g3
    have hI := ev_Decimal d.batch g2
    have hpl := dep_len d g1 g2 g3
    have hps : (ofL (joinW (depW d) ++ [10])).size ≤ 900 := by rw [ofL_size]; exact hpl
    conv => whnf
    repeat' (first|((refine PickE.map k hx (by omega) ?_);conv=>whnf)|((with_reducible refine Split.dec (fun _=>?_) (fun _=>?_))<;>conv=>whnf)|((with_reducible refine Need.mk ?_ ?_);(first|omega|rfl|decide|(refine ⟨?_,?_⟩<;>simp<;>omega)|(simp;omega));conv=>whnf)|((with_reducible refine Wr.inr ?_ ?_);(first|omega|(simp;omega));conv=>whnf)|((with_reducible refine AltK.l ?_);(conv=>whnf);(first|(refine CallK.mk _ (hL) ?_)|(refine CallK.mk _ (hI) ?_));conv=>whnf)|(exfalso;first|omega|contradiction)|fail)
    have e1 : ofL u ++ ofL (joinW (depW d) ++ [10]) = ofL (u ++ (joinW (depW d) ++ [10])) := ofL_app _ _
    have hmp1 := congrArg D.str e1
    have hmp2 := congrArg AV.d hmp1
    rw [drop_of hx] at hK
    exact Again.au (k + 1, u ++ (joinW (depW d) ++ [10])) ⟨by show k + 1 ≤ _;omega, hK, by show (u ++ (joinW (depW d) ++ [10])).length ≤ 28000 + 1000 * (k + 1);rw [List.length_append];omega⟩ (by show y.deps.length - (k + 1) < y.deps.length - k;omega) (by refine ⟨?_, ?_, rfl⟩<;>(repeat' (first|exact True.intro|exact rfl|(refine ⟨?_,?_⟩)|(intro h;cases h;done)|fail));done)
   ·conv => whnf
    repeat' (first|((with_reducible refine Split.dec (fun _=>?_) (fun _=>?_))<;>conv=>whnf)|((with_reducible refine Need.mk ?_ ?_);(first|omega|rfl|decide|(refine ⟨?_,?_⟩<;>simp<;>omega)|(simp;omega));conv=>whnf)|(exfalso;first|omega|contradiction)|fail)
    have hue : u = ydT y := by
     rw [← hK, List.drop_eq_nil_of_le (by omega)]; rfl
    rw [← hue]; rfl
end Go.Proofs.Tryz
end
