/- Texts DpI DpK DpL DpM DqA TwZ DqZ DqJ, joined; what is not needed is left out. -/
import Derived.Test.YtahnaobdihhppaaMgI
import Derived.Test.YtahnaobdihhppaaMgH
import Derived.Test.YtahnaobdihhppaaProg
import Derived.Test.YtahnaobdihhppaaMgJ
import Derived.Test.YtahnaobdihhppaaMpa
section
namespace Go.Proofs.Try
open Go Go.Vm
set_option maxRecDepth 20000
set_option maxHeartbeats 4000000
/-- The same, as data. -/
theorem ev_copied (y : Yd) (h1 : y.pits.length ≤ 1000) (h2 : y.bulk.length ≤ 1000) (h3 : y.deps.length ≤ 1000) (h4 : y.carry.length ≤ 1000) (hcl : ∀ p ∈ y.pits, p.cls.length ≤ 100000) : Ev Try.prog 61 [ydD y] (ydD y) := by
  have hlp : (y.pits.map ptD).length = y.pits.length := List.length_map _
  have c1 := EvX.new1 (xs := [.sl 6 (y.pits.map ptD)]) (xv_clonedP y.pits (by omega)) 7
  have c2 := EvX.new1 (xs := [.sl 3 (y.bulk.map bkD)]) (xv_clonedB y.bulk (by omega)) 10
  have c3 := EvX.new1 (xs := [.sl 3 (y.deps.map dpD)]) (xv_clonedD y.deps (by omega)) 13
  have c4 := EvX.new1 (xs := [.sl 1 (y.carry.map iD)]) (xv_clonedI y.carry (by omega)) 16
  refine ev_of_awp tysOk mixed (fn := Try.f61) Try.func61 rfl rfl rfl ?_
  conv => whnf
  repeat' (first|((with_reducible refine Split.of_true ?_);conv=>whnf)|((with_reducible refine Split.of_false ?_);conv=>whnf)|((with_reducible refine Split.neg ?_))|((with_reducible refine Split.is_true ?_ ?_);decide;conv=>whnf)|((with_reducible refine Split.is_false ?_ ?_);decide;conv=>whnf)|((with_reducible refine Split.nez (fun _=>?_) (fun _=>?_))<;>conv=>whnf)|((with_reducible refine Split.eqz (fun _=>?_) (fun _=>?_))<;>conv=>whnf)|((with_reducible refine Split.dec (fun _=>?_) (fun _=>?_))<;>conv=>whnf)|((with_reducible refine Need.mk ?_ ?_);(first|omega|rfl|decide|(refine ⟨?_, ?_⟩<;>simp<;>omega)|(simp;omega));conv=>whnf)|((with_reducible refine Wr.inr ?_ ?_);(first|omega|(simp;omega));conv=>whnf)|((with_reducible refine AltK.r ?_);(conv=>whnf);(first|(refine CallX.mk _ _ (c1) rfl ?_)|(refine CallX.mk _ _ (c2) rfl ?_)|(refine CallX.mk _ _ (c3) rfl ?_)|(refine CallX.mk _ _ (c4) rfl ?_));conv=>whnf)|(exfalso;first|omega|contradiction))
  refine LoopK.o2 (fun i : Nat => i ≤ y.pits.length) (fun i => [(21, .d (.int .i64 i))]) (fun _ => []) (fun i => y.pits.length - i) 0 (by omega) (by refine ⟨?_, ?_, rfl⟩<;>(repeat' (first|exact True.intro|exact rfl|refine ⟨?_, ?_⟩|(intro h;cases h;done)|(intro h;exact h)|exact map_snoc|(refine own_congr ?_;simp;done)|(refine int_congr ?_;(first|omega|(simp;omega)))|(simp;done)));done) ?_
  rintro i hi
  by_cases hil : i < y.pits.length
  · obtain ⟨p, hp⟩ := some_of_lt hil
    have hc := ev_cloned p.cls (hcl p (List.mem_of_getElem? hp))
    have hmp1 := set_same hp ptD
    conv => whnf
    repeat' (first|((refine PickE.map i hp (by omega) ?_);conv=>whnf)|((with_reducible refine Split.of_true ?_);conv=>whnf)|((with_reducible refine Split.of_false ?_);conv=>whnf)|((with_reducible refine Split.neg ?_))|((with_reducible refine Split.is_true ?_ ?_);decide;conv=>whnf)|((with_reducible refine Split.is_false ?_ ?_);decide;conv=>whnf)|((with_reducible refine Split.nez (fun _=>?_) (fun _=>?_))<;>conv=>whnf)|((with_reducible refine Split.eqz (fun _=>?_) (fun _=>?_))<;>conv=>whnf)|((with_reducible refine Split.dec (fun _=>?_) (fun _=>?_))<;>conv=>whnf)|((with_reducible refine Need.mk ?_ ?_);(first|omega|rfl|decide|(refine ⟨?_, ?_⟩<;>simp<;>omega)|(simp;omega));conv=>whnf)|((with_reducible refine Wr.inr ?_ ?_);(first|omega|(simp;omega));conv=>whnf)|((with_reducible refine AltK.l ?_);(conv=>whnf);(first|(refine CallK.mk _ (hc) ?_));conv=>whnf)|(exfalso;first|omega|contradiction))
    exact Again.au (i + 1) (by omega) (by omega) (by refine ⟨?_, ?_, rfl⟩<;>(repeat' (first|exact True.intro|exact rfl|refine ⟨?_, ?_⟩|(intro h;cases h;done)|(intro h;exact h)|exact map_snoc|(refine own_congr ?_;simp;done)|(refine int_congr ?_;(first|omega|(simp;omega)))|(simp;done)|exact hmp1|((first|refine own_congr ?_|refine int_congr ?_|skip);simp [D.cells];done)|((first|refine own_congr ?_|refine int_congr ?_);simp [D.cells];omega)|(show @Eq (List Go.Vm.D) _ [];simp [D.cells];done)|(simp [D.cells, D.cells];done)));done)
  · conv => whnf
    repeat' (first|((with_reducible refine Split.of_true ?_);conv=>whnf)|((with_reducible refine Split.of_false ?_);conv=>whnf)|((with_reducible refine Split.neg ?_))|((with_reducible refine Split.is_true ?_ ?_);decide;conv=>whnf)|((with_reducible refine Split.is_false ?_ ?_);decide;conv=>whnf)|((with_reducible refine Split.nez (fun _=>?_) (fun _=>?_))<;>conv=>whnf)|((with_reducible refine Split.eqz (fun _=>?_) (fun _=>?_))<;>conv=>whnf)|((with_reducible refine Split.dec (fun _=>?_) (fun _=>?_))<;>conv=>whnf)|((with_reducible refine Need.mk ?_ ?_);(first|omega|rfl|decide|(refine ⟨?_, ?_⟩<;>simp<;>omega)|(simp;omega));conv=>whnf)|((with_reducible refine Wr.inr ?_ ?_);(first|omega|(simp;omega));conv=>whnf)|(exfalso;first|omega|contradiction))
    rfl
def newY (p : List Pt) (b : List Bk) : Yd := ⟨p, b, [], b.map fun _ => 0⟩
theorem ev_New (p : List Pt) (b : List Bk) (hcl : ∀ x ∈ p, x.cls.length ≤ 100000) (hb : b.length ≤ 100000) : Ev Try.prog 25 [.sl 6 (p.map ptD), .sl 3 (b.map bkD)] (.tup [ydD (if ydErr (newY p b) = 0 then newY p b else ⟨[], [], [], []⟩), iD (ydErr (newY p b))]) := by
  have hlb : (b.map bkD).length = b.length := List.length_map _
  have h1 := ev_DCheck (newY p b) (fun x hx => Nat.le_trans (hcl x hx) (by decide))
  have hz : List.replicate ((b.map bkD).length : Int).toNat (D.int .i64 0) = (newY p b).carry.map iD := by
    simp [newY, iD, List.map_const']
  have e : ydD (newY p b) = .agg [.sl 6 (p.map ptD), .sl 3 (b.map bkD), .sl 3 [], .sl 1 (List.replicate ((b.map bkD).length : Int).toNat (D.int .i64 0))] := by
    rw [hz]; rfl
  by_cases h0 : ydErr (newY p b) = 0
  · have hy := yd_ok h0
    have hcp := ev_copied (newY p b) (by have := hy.pits; omega) (by have := hy.bulk; omega) (by have := hy.deps; omega) (by have := hy.carL; have := hy.bulk; omega) hcl
    rw [if_pos h0]
    rw [h0] at h1 ⊢
    rw [e] at h1 hcp ⊢
    refine ev_of_awp tysOk mixed (fn := Try.f25) Try.func25 rfl rfl rfl ?_
    conv => whnf
    repeat' (first|((with_reducible refine Split.of_true ?_);conv=>whnf)|((with_reducible refine Split.of_false ?_);conv=>whnf)|((with_reducible refine Split.neg ?_))|((with_reducible refine Split.is_true ?_ ?_);decide;conv=>whnf)|((with_reducible refine Split.is_false ?_ ?_);decide;conv=>whnf)|((with_reducible refine Split.nez (fun _=>?_) (fun _=>?_))<;>conv=>whnf)|((with_reducible refine Split.eqz (fun _=>?_) (fun _=>?_))<;>conv=>whnf)|((with_reducible refine Split.dec (fun _=>?_) (fun _=>?_))<;>conv=>whnf)|((with_reducible refine Need.mk ?_ ?_);(first|omega|rfl|decide|(refine ⟨?_, ?_⟩<;>simp<;>omega)|(simp;omega));conv=>whnf)|((with_reducible refine Wr.inr ?_ ?_);(first|omega|(simp;omega));conv=>whnf)|((with_reducible refine AltK.l ?_);(conv=>whnf);(first|(refine CallK.mk _ (h1) ?_)|(refine CallK.mk _ (hcp) ?_));conv=>whnf)|(exfalso;first|omega|contradiction))
    rfl
  · rw [if_neg h0]
    rw [e] at h1
    refine ev_of_awp tysOk mixed (fn := Try.f25) Try.func25 rfl rfl rfl ?_
    conv => whnf
    repeat' (first|((with_reducible refine Split.of_true ?_);conv=>whnf)|((with_reducible refine Split.of_false ?_);conv=>whnf)|((with_reducible refine Split.neg ?_))|((with_reducible refine Split.is_true ?_ ?_);decide;conv=>whnf)|((with_reducible refine Split.is_false ?_ ?_);decide;conv=>whnf)|((with_reducible refine Split.nez (fun _=>?_) (fun _=>?_))<;>conv=>whnf)|((with_reducible refine Split.eqz (fun _=>?_) (fun _=>?_))<;>conv=>whnf)|((with_reducible refine Split.dec (fun _=>?_) (fun _=>?_))<;>conv=>whnf)|((with_reducible refine Need.mk ?_ ?_);(first|omega|rfl|decide|(refine ⟨?_, ?_⟩<;>simp<;>omega)|(simp;omega));conv=>whnf)|((with_reducible refine Wr.inr ?_ ?_);(first|omega|(simp;omega));conv=>whnf)|((with_reducible refine AltK.l ?_);(conv=>whnf);(first|(refine CallK.mk _ (h1) ?_));conv=>whnf)|(exfalso;first|omega|contradiction))
    rfl
end Go.Proofs.Try
end

section
namespace Go.Proofs.Try
open Go Go.Vm
set_option maxRecDepth 20000
set_option maxHeartbeats 8000000
theorem ev_CopyInts9 (l : List Int) (hn : l.length ≤ 1000000) : Ev Try.prog 56 [.sl 1 (l.map iD)] (.sl 1 (l.map iD)) := by
  have hl : (l.map iD).length = l.length := List.length_map _
  refine ev_of_awp tysOk mixed (fn := Try.f56) Try.func56 rfl rfl rfl ?_
  conv => whnf
  repeat' (first|((with_reducible refine Split.of_true ?_);conv=>whnf)|((with_reducible refine Split.of_false ?_);conv=>whnf)|((with_reducible refine Split.neg ?_))|((with_reducible refine Split.is_true ?_ ?_);decide;conv=>whnf)|((with_reducible refine Split.is_false ?_ ?_);decide;conv=>whnf)|((with_reducible refine Split.eqz (fun _=>?_) (fun _=>?_))<;>conv=>whnf)|((with_reducible refine Split.dec (fun _=>?_) (fun _=>?_))<;>conv=>whnf)|((with_reducible refine Need.mk ?_ ?_);(first|omega|rfl|decide|(refine ⟨?_, ?_⟩<;>simp<;>omega)|(simp;omega));conv=>whnf)|((with_reducible refine Wr.inr ?_ ?_);(first|omega|(simp;omega));conv=>whnf)|(exfalso;first|omega|contradiction))
  rfl
theorem ev_Copied (y : Yd) (h1 : y.pits.length ≤ 1000) (h2 : y.bulk.length ≤ 1000) (h3 : y.deps.length ≤ 1000) (h4 : y.carry.length ≤ 1000) (hcl : ∀ p ∈ y.pits, p.cls.length ≤ 100000) : Ev Try.prog 14 [ydD y] (ydD y) := by
  have hlp : (y.pits.map ptD).length = y.pits.length := List.length_map _
  have hlb : (y.bulk.map bkD).length = y.bulk.length := List.length_map _
  have hld : (y.deps.map dpD).length = y.deps.length := List.length_map _
  have hlc : (y.carry.map iD).length = y.carry.length := List.length_map _
  have hC := ev_CopyInts9 y.carry (by omega)
  refine ev_of_awp tysOk mixed (fn := Try.f14) Try.func14 rfl rfl rfl ?_
  conv => whnf
  repeat' (first|((with_reducible refine Split.of_true ?_);conv=>whnf)|((with_reducible refine Split.of_false ?_);conv=>whnf)|((with_reducible refine Split.neg ?_))|((with_reducible refine Split.is_true ?_ ?_);decide;conv=>whnf)|((with_reducible refine Split.is_false ?_ ?_);decide;conv=>whnf)|((with_reducible refine Split.eqz (fun _=>?_) (fun _=>?_))<;>conv=>whnf)|((with_reducible refine Split.dec (fun _=>?_) (fun _=>?_))<;>conv=>whnf)|((with_reducible refine Need.mk ?_ ?_);(first|omega|rfl|decide|(refine ⟨?_, ?_⟩<;>simp<;>omega)|(simp;omega));conv=>whnf)|((with_reducible refine Wr.inr ?_ ?_);(first|omega|(simp;omega));conv=>whnf)|(exfalso;first|omega|contradiction))
  refine LoopK.o2 (fun i : Nat => i ≤ y.pits.length) (fun i => [(4, .d (.int .i64 i))]) (fun i => [(1, .var [.own 200 6 ((y.pits.take i).map ptD).length, .d (.sl 3 (y.bulk.map bkD)), .d (.sl 3 (y.deps.map dpD)), .d (.sl 1 (y.carry.map iD))] false), (200, .row 60 6 ((y.pits.take i).map ptD) false)]) (fun i => y.pits.length - i) 0 (by omega) (by refine ⟨?_, ?_, rfl⟩<;>(repeat' (first|exact True.intro|exact rfl|refine ⟨?_, ?_⟩|(intro h;cases h;done)|(intro h;exact h)|exact map_snoc|(refine own_congr ?_;simp;done)|(refine int_congr ?_;(first|omega|(simp;omega)))|(simp;done)));done) ?_
  rintro i hi
  have htl : ((y.pits.take i).map ptD).length = i := by simp; omega
  by_cases hil : i < y.pits.length
  · obtain ⟨p, hp⟩ := some_of_lt hil
    have hc := ev_CopyInts9 p.cls (Nat.le_trans (hcl p (List.mem_of_getElem? hp)) (by decide))
    have hmp1 : (y.pits.take i).map ptD ++ ptD p :: List.replicate 0 (ptD p) = (y.pits.take (i + 1)).map ptD := by rw [take_snoc hp]; simp
    have hmp2 : (y.pits.take i).map ptD ++ [ptD p] = (y.pits.take (i + 1)).map ptD := by rw [take_snoc hp]; simp
    conv => whnf
    repeat' (first|((refine PickE.map i hp (by omega) ?_);conv=>whnf)|((with_reducible refine Split.of_true ?_);conv=>whnf)|((with_reducible refine Split.of_false ?_);conv=>whnf)|((with_reducible refine Split.neg ?_))|((with_reducible refine Split.is_true ?_ ?_);decide;conv=>whnf)|((with_reducible refine Split.is_false ?_ ?_);decide;conv=>whnf)|((with_reducible refine Split.eqz (fun _=>?_) (fun _=>?_))<;>conv=>whnf)|((with_reducible refine Split.dec (fun _=>?_) (fun _=>?_))<;>conv=>whnf)|((with_reducible refine Need.mk ?_ ?_);(first|omega|rfl|decide|(refine ⟨?_, ?_⟩<;>simp<;>omega)|(simp;omega));conv=>whnf)|((with_reducible refine Wr.inr ?_ ?_);(first|omega|(simp;omega));conv=>whnf)|((with_reducible refine AltK.l ?_);(conv=>whnf);(first|(refine CallK.mk _ (hc) ?_));conv=>whnf)|(exfalso;first|omega|contradiction))
    exact Again.au (i + 1) (by omega) (by omega) (by refine ⟨?_, ?_, rfl⟩<;>(repeat' (first|exact True.intro|exact rfl|refine ⟨?_, ?_⟩|(intro h;cases h;done)|(intro h;exact h)|exact map_snoc|(refine own_congr ?_;simp;done)|(refine int_congr ?_;(first|omega|(simp;omega)))|(simp;done)|exact hmp1|exact hmp2|((first|refine own_congr ?_|refine int_congr ?_|skip);simp [List.length_map];done)|((first|refine own_congr ?_|refine int_congr ?_);simp [List.length_map];omega)|(show @Eq (List Go.Vm.D) _ [];simp [List.length_map];done)|(simp [D.cells, List.length_map];done)));done)
  · have e : y.pits.take i = y.pits := List.take_of_length_le (by omega)
    rw [e] at htl ⊢
    conv => whnf
    repeat' (first|((with_reducible refine Split.of_true ?_);conv=>whnf)|((with_reducible refine Split.of_false ?_);conv=>whnf)|((with_reducible refine Split.neg ?_))|((with_reducible refine Split.is_true ?_ ?_);decide;conv=>whnf)|((with_reducible refine Split.is_false ?_ ?_);decide;conv=>whnf)|((with_reducible refine Split.eqz (fun _=>?_) (fun _=>?_))<;>conv=>whnf)|((with_reducible refine Split.dec (fun _=>?_) (fun _=>?_))<;>conv=>whnf)|((with_reducible refine Need.mk ?_ ?_);(first|omega|rfl|decide|(refine ⟨?_, ?_⟩<;>simp<;>omega)|(simp;omega));conv=>whnf)|((with_reducible refine Wr.inr ?_ ?_);(first|omega|(simp;omega));conv=>whnf)|((with_reducible refine AltK.l ?_);(conv=>whnf);(first|(refine CallK.mk _ (hC) ?_));conv=>whnf)|(exfalso;first|omega|contradiction))
    rfl
def smallA (y : Yd) : Bool := !((decide (y.pits.length > 4) && decide (y.pits.length ≤ 8)) || decide (y.pits.length > 12) || (decide (y.bulk.length > 4) && decide (y.bulk.length ≤ 20)) || decide (y.bulk.length > 25) || decide (y.carry.length > 30) || (decide (y.deps.length > 8) && decide (y.deps.length ≤ 200)) || decide (y.deps.length > 205))
def smallB (y : Yd) : Bool := smallA y && y.pits.all (fun p => decide (p.name.size ≤ 40) && decide (p.cls.length ≤ 12)) && y.bulk.all (fun b => decide (b.soil.size ≤ 40)) && y.deps.all (fun d => decide (d.pit.size ≤ 40))
structure SmOk (y : Yd) : Prop where
  p : y.pits.length ≤ 4 ∨ (8 < y.pits.length ∧ y.pits.length ≤ 12)
  b : y.bulk.length ≤ 4 ∨ (20 < y.bulk.length ∧ y.bulk.length ≤ 25)
  c : y.carry.length ≤ 30
  d : y.deps.length ≤ 8 ∨ (200 < y.deps.length ∧ y.deps.length ≤ 205)
theorem sm_ok {y : Yd} (h : smallA y = true) : SmOk y := by
  simp only [smallA, Bool.not_eq_true', Bool.or_eq_false_iff, Bool.and_eq_false_iff, decide_eq_false_iff_not] at h
  exact ⟨by omega, by omega, by omega, by omega⟩
theorem sm_no {y : Yd} (h : smallA y = false) : ¬ SmOk y := by
  intro ⟨h1, h2, h3, h4⟩
  have : smallA y = true := by
    simp only [smallA, Bool.not_eq_true', Bool.or_eq_false_iff, Bool.and_eq_false_iff, decide_eq_false_iff_not]
    omega
  rw [h] at this; cases this
theorem all_snoc9 {α : Type} {l : List α} {p : α → Bool} {i : Nat} {m : α} (hm : l[i]? = some m) (h : (l.take i).all p = true) (hp : p m = true) : (l.take (i + 1)).all p = true := by
  rw [take_snoc hm, List.all_append, h]; simp [hp]
theorem all_not9 {α : Type} {l : List α} {p : α → Bool} {i : Nat} {m : α} (hm : l[i]? = some m) (hp : p m = false) : l.all p = false := by
  rw [List.all_eq_false]; exact ⟨m, List.mem_of_getElem? hm, by simp [hp]⟩
theorem ev_Small (y : Yd) : Ev Try.prog 12 [ydD y] (.bool (smallB y)) := by
  have hlp : (y.pits.map ptD).length = y.pits.length := List.length_map _
  have hlb : (y.bulk.map bkD).length = y.bulk.length := List.length_map _
  have hld : (y.deps.map dpD).length = y.deps.length := List.length_map _
  have hlc : (y.carry.map iD).length = y.carry.length := List.length_map _
  cases hA : smallA y with
  | false =>
    have hno := sm_no hA
    have e : smallB y = false := by rw [smallB, hA]; rfl
    have hx : ¬ ((y.pits.length ≤ 4 ∨ (8 < y.pits.length ∧ y.pits.length ≤ 12)) ∧ (y.bulk.length ≤ 4 ∨ (20 < y.bulk.length ∧ y.bulk.length ≤ 25)) ∧ y.carry.length ≤ 30 ∧ (y.deps.length ≤ 8 ∨ (200 < y.deps.length ∧ y.deps.length ≤ 205))) := fun h => hno ⟨h.1, h.2.1, h.2.2.1, h.2.2.2⟩
    rw [e]
    refine ev_of_awp tysOk mixed (fn := Try.f12) Try.func12 rfl rfl rfl ?_
    conv => whnf
    repeat' (first|((with_reducible refine Split.of_true ?_);conv=>whnf)|((with_reducible refine Split.of_false ?_);conv=>whnf)|((with_reducible refine Split.neg ?_))|((with_reducible refine Split.is_true ?_ ?_);decide;conv=>whnf)|((with_reducible refine Split.is_false ?_ ?_);decide;conv=>whnf)|((with_reducible refine Split.eqz (fun _=>?_) (fun _=>?_))<;>conv=>whnf)|((with_reducible refine Split.dec (fun _=>?_) (fun _=>?_))<;>conv=>whnf)|((with_reducible refine Need.mk ?_ ?_);(first|omega|rfl|decide|(refine ⟨?_, ?_⟩<;>simp<;>omega)|(simp;omega));conv=>whnf)|((with_reducible refine Wr.inr ?_ ?_);(first|omega|(simp;omega));conv=>whnf)|(exfalso;first|omega|contradiction))
    all_goals first
      | rfl
      | (exfalso;omega)
  | true =>
  obtain ⟨q1, q2, q3, q4⟩ := sm_ok hA
  have e : smallB y = (y.pits.all (fun p => decide (p.name.size ≤ 40) && decide (p.cls.length ≤ 12)) && y.bulk.all (fun b => decide (b.soil.size ≤ 40)) && y.deps.all (fun d => decide (d.pit.size ≤ 40))) := by rw [smallB, hA, Bool.true_and]
  rw [e]
  clear e hA
  refine ev_of_awp tysOk mixed (fn := Try.f12) Try.func12 rfl rfl rfl ?_
  conv => whnf
  repeat' (first|((with_reducible refine Split.of_true ?_);conv=>whnf)|((with_reducible refine Split.of_false ?_);conv=>whnf)|((with_reducible refine Split.neg ?_))|((with_reducible refine Split.is_true ?_ ?_);decide;conv=>whnf)|((with_reducible refine Split.is_false ?_ ?_);decide;conv=>whnf)|((with_reducible refine Split.eqz (fun _=>?_) (fun _=>?_))<;>conv=>whnf)|((with_reducible refine Split.dec (fun _=>?_) (fun _=>?_))<;>conv=>whnf)|((with_reducible refine Need.mk ?_ ?_);(first|omega|rfl|decide|(refine ⟨?_, ?_⟩<;>simp<;>omega)|(simp;omega));conv=>whnf)|((with_reducible refine Wr.inr ?_ ?_);(first|omega|(simp;omega));conv=>whnf)|(exfalso;first|omega|contradiction))
  all_goals first
    | (exfalso;omega)
    | skip
  all_goals
    refine LoopK.o2 (fun i : Nat => i ≤ y.pits.length ∧ (y.pits.take i).all (fun p => decide (p.name.size ≤ 40) && decide (p.cls.length ≤ 12)) = true) (fun i => [(3, .d (.int .i64 i))]) (fun _ => []) (fun i => y.pits.length - i) 0 ⟨by omega, rfl⟩ (by refine ⟨?_, ?_, rfl⟩<;>(repeat' (first|exact True.intro|exact rfl|refine ⟨?_, ?_⟩|(intro h;cases h;done)|(intro h;exact h)|exact map_snoc|(refine own_congr ?_;simp;done)|(refine int_congr ?_;(first|omega|(simp;omega)))|(simp;done)));done) ?_
    rintro i ⟨hi, hp⟩
    by_cases hil : i < y.pits.length
    · obtain ⟨p, hpi⟩ := some_of_lt hil
      have hcl : (p.cls.map iD).length = p.cls.length := List.length_map _
      have hn := @all_not9 _ y.pits (fun p => decide (p.name.size ≤ 40) && decide (p.cls.length ≤ 12)) i p hpi
      have hy := @all_snoc9 _ y.pits (fun p => decide (p.name.size ≤ 40) && decide (p.cls.length ≤ 12)) i p hpi hp
      clear hp
      conv => whnf
      repeat' (first|((refine PickE.map i hpi (by omega) ?_);conv=>whnf)|((with_reducible refine Split.of_true ?_);conv=>whnf)|((with_reducible refine Split.of_false ?_);conv=>whnf)|((with_reducible refine Split.neg ?_))|((with_reducible refine Split.is_true ?_ ?_);decide;conv=>whnf)|((with_reducible refine Split.is_false ?_ ?_);decide;conv=>whnf)|((with_reducible refine Split.eqz (fun _=>?_) (fun _=>?_))<;>conv=>whnf)|((with_reducible refine Split.dec (fun _=>?_) (fun _=>?_))<;>conv=>whnf)|((with_reducible refine Need.mk ?_ ?_);(first|omega|rfl|decide|(refine ⟨?_, ?_⟩<;>simp<;>omega)|(simp;omega));conv=>whnf)|((with_reducible refine Wr.inr ?_ ?_);(first|omega|(simp;omega));conv=>whnf)|(exfalso;first|omega|contradiction))
      all_goals first
        | exact Again.au (i + 1) ⟨by omega, hy (by simp;omega)⟩ (by omega) (by refine ⟨?_, ?_, rfl⟩<;>(repeat' (first|exact True.intro|exact rfl|refine ⟨?_, ?_⟩|(intro h;cases h;done)|(intro h;exact h)|exact map_snoc|(refine own_congr ?_;simp;done)|(refine int_congr ?_;(first|omega|(simp;omega)))|(simp;done)));done)
        | (rw [hn (by simp;omega)];rfl)
    rw [List.take_of_length_le (by omega)] at hp
    rw [hp, Bool.true_and]
    clear hp
    conv => whnf
    repeat' (first|((with_reducible refine Split.of_true ?_);conv=>whnf)|((with_reducible refine Split.of_false ?_);conv=>whnf)|((with_reducible refine Split.neg ?_))|((with_reducible refine Split.is_true ?_ ?_);decide;conv=>whnf)|((with_reducible refine Split.is_false ?_ ?_);decide;conv=>whnf)|((with_reducible refine Split.eqz (fun _=>?_) (fun _=>?_))<;>conv=>whnf)|((with_reducible refine Split.dec (fun _=>?_) (fun _=>?_))<;>conv=>whnf)|((with_reducible refine Need.mk ?_ ?_);(first|omega|rfl|decide|(refine ⟨?_, ?_⟩<;>simp<;>omega)|(simp;omega));conv=>whnf)|((with_reducible refine Wr.inr ?_ ?_);(first|omega|(simp;omega));conv=>whnf)|(exfalso;first|omega|contradiction))
    refine LoopK.o2 (fun i : Nat => i ≤ y.bulk.length ∧ (y.bulk.take i).all (fun b => decide (b.soil.size ≤ 40)) = true) (fun i => [(4, .d (.int .i64 i))]) (fun _ => []) (fun i => y.bulk.length - i) 0 ⟨by omega, rfl⟩ (by refine ⟨?_, ?_, rfl⟩<;>(repeat' (first|exact True.intro|exact rfl|refine ⟨?_, ?_⟩|(intro h;cases h;done)|(intro h;exact h)|exact map_snoc|(refine own_congr ?_;simp;done)|(refine int_congr ?_;(first|omega|(simp;omega)))|(simp;done)));done) ?_
    rintro i ⟨hi, hp⟩
    by_cases hil : i < y.bulk.length
    · obtain ⟨p, hpi⟩ := some_of_lt hil
      have hn := @all_not9 _ y.bulk (fun b => decide (b.soil.size ≤ 40)) i p hpi
      have hy := @all_snoc9 _ y.bulk (fun b => decide (b.soil.size ≤ 40)) i p hpi hp
      clear hp
      conv => whnf
      repeat' (first|((refine PickE.map i hpi (by omega) ?_);conv=>whnf)|((with_reducible refine Split.of_true ?_);conv=>whnf)|((with_reducible refine Split.of_false ?_);conv=>whnf)|((with_reducible refine Split.neg ?_))|((with_reducible refine Split.is_true ?_ ?_);decide;conv=>whnf)|((with_reducible refine Split.is_false ?_ ?_);decide;conv=>whnf)|((with_reducible refine Split.eqz (fun _=>?_) (fun _=>?_))<;>conv=>whnf)|((with_reducible refine Split.dec (fun _=>?_) (fun _=>?_))<;>conv=>whnf)|((with_reducible refine Need.mk ?_ ?_);(first|omega|rfl|decide|(refine ⟨?_, ?_⟩<;>simp<;>omega)|(simp;omega));conv=>whnf)|((with_reducible refine Wr.inr ?_ ?_);(first|omega|(simp;omega));conv=>whnf)|(exfalso;first|omega|contradiction))
      all_goals first
        | exact Again.au (i + 1) ⟨by omega, hy (by simp;omega)⟩ (by omega) (by refine ⟨?_, ?_, rfl⟩<;>(repeat' (first|exact True.intro|exact rfl|refine ⟨?_, ?_⟩|(intro h;cases h;done)|(intro h;exact h)|exact map_snoc|(refine own_congr ?_;simp;done)|(refine int_congr ?_;(first|omega|(simp;omega)))|(simp;done)));done)
        | (rw [hn (by simp;omega)];rfl)
    rw [List.take_of_length_le (by omega)] at hp
    rw [hp, Bool.true_and]
    clear hp
    conv => whnf
    repeat' (first|((with_reducible refine Split.of_true ?_);conv=>whnf)|((with_reducible refine Split.of_false ?_);conv=>whnf)|((with_reducible refine Split.neg ?_))|((with_reducible refine Split.is_true ?_ ?_);decide;conv=>whnf)|((with_reducible refine Split.is_false ?_ ?_);decide;conv=>whnf)|((with_reducible refine Split.eqz (fun _=>?_) (fun _=>?_))<;>conv=>whnf)|((with_reducible refine Split.dec (fun _=>?_) (fun _=>?_))<;>conv=>whnf)|((with_reducible refine Need.mk ?_ ?_);(first|omega|rfl|decide|(refine ⟨?_, ?_⟩<;>simp<;>omega)|(simp;omega));conv=>whnf)|((with_reducible refine Wr.inr ?_ ?_);(first|omega|(simp;omega));conv=>whnf)|(exfalso;first|omega|contradiction))
    refine LoopK.o2 (fun i : Nat => i ≤ y.deps.length ∧ (y.deps.take i).all (fun b => decide (b.pit.size ≤ 40)) = true) (fun i => [(5, .d (.int .i64 i))]) (fun _ => []) (fun i => y.deps.length - i) 0 ⟨by omega, rfl⟩ (by refine ⟨?_, ?_, rfl⟩<;>(repeat' (first|exact True.intro|exact rfl|refine ⟨?_, ?_⟩|(intro h;cases h;done)|(intro h;exact h)|exact map_snoc|(refine own_congr ?_;simp;done)|(refine int_congr ?_;(first|omega|(simp;omega)))|(simp;done)));done) ?_
    rintro i ⟨hi, hp⟩
    by_cases hil : i < y.deps.length
    · obtain ⟨p, hpi⟩ := some_of_lt hil
      have hn := @all_not9 _ y.deps (fun b => decide (b.pit.size ≤ 40)) i p hpi
      have hy := @all_snoc9 _ y.deps (fun b => decide (b.pit.size ≤ 40)) i p hpi hp
      clear hp
      conv => whnf
      repeat' (first|((refine PickE.map i hpi (by omega) ?_);conv=>whnf)|((with_reducible refine Split.of_true ?_);conv=>whnf)|((with_reducible refine Split.of_false ?_);conv=>whnf)|((with_reducible refine Split.neg ?_))|((with_reducible refine Split.is_true ?_ ?_);decide;conv=>whnf)|((with_reducible refine Split.is_false ?_ ?_);decide;conv=>whnf)|((with_reducible refine Split.eqz (fun _=>?_) (fun _=>?_))<;>conv=>whnf)|((with_reducible refine Split.dec (fun _=>?_) (fun _=>?_))<;>conv=>whnf)|((with_reducible refine Need.mk ?_ ?_);(first|omega|rfl|decide|(refine ⟨?_, ?_⟩<;>simp<;>omega)|(simp;omega));conv=>whnf)|((with_reducible refine Wr.inr ?_ ?_);(first|omega|(simp;omega));conv=>whnf)|(exfalso;first|omega|contradiction))
      all_goals first
        | exact Again.au (i + 1) ⟨by omega, hy (by simp;omega)⟩ (by omega) (by refine ⟨?_, ?_, rfl⟩<;>(repeat' (first|exact True.intro|exact rfl|refine ⟨?_, ?_⟩|(intro h;cases h;done)|(intro h;exact h)|exact map_snoc|(refine own_congr ?_;simp;done)|(refine int_congr ?_;(first|omega|(simp;omega)))|(simp;done)));done)
        | (rw [hn (by simp;omega)];rfl)
    rw [List.take_of_length_le (by omega)] at hp
    rw [hp]
    conv => whnf
    repeat' (first|((with_reducible refine Split.of_true ?_);conv=>whnf)|((with_reducible refine Split.of_false ?_);conv=>whnf)|((with_reducible refine Split.neg ?_))|((with_reducible refine Split.is_true ?_ ?_);decide;conv=>whnf)|((with_reducible refine Split.is_false ?_ ?_);decide;conv=>whnf)|((with_reducible refine Split.eqz (fun _=>?_) (fun _=>?_))<;>conv=>whnf)|((with_reducible refine Split.dec (fun _=>?_) (fun _=>?_))<;>conv=>whnf)|((with_reducible refine Need.mk ?_ ?_);(first|omega|rfl|decide|(refine ⟨?_, ?_⟩<;>simp<;>omega)|(simp;omega));conv=>whnf)|((with_reducible refine Wr.inr ?_ ?_);(first|omega|(simp;omega));conv=>whnf)|(exfalso;first|omega|contradiction))
    rfl
end Go.Proofs.Try
end

section
namespace Go.Proofs.Try
open Go Go.Vm
set_option maxRecDepth 20000
set_option maxHeartbeats 8000000
theorem ev_deposits9 (a b : List Dp) (h : a.length ≤ 1000000) : Ev Try.prog 43 [.sl 3 (a.map dpD), .sl 3 (b.map dpD)] (.bool (eqB a b)) := by
  have hla : (a.map dpD).length = a.length := List.length_map _
  have hlb : (b.map dpD).length = b.length := List.length_map _
  refine ev_of_awp tysOk mixed (fn := Try.f43) Try.func43 rfl rfl rfl ?_
  conv => whnf
  repeat' (first|((with_reducible refine Split.of_true ?_);conv=>whnf)|((with_reducible refine Split.of_false ?_);conv=>whnf)|((with_reducible refine Split.neg ?_))|((with_reducible refine Split.is_true ?_ ?_);decide;conv=>whnf)|((with_reducible refine Split.is_false ?_ ?_);decide;conv=>whnf)|((with_reducible refine Split.nez (fun _=>?_) (fun _=>?_))<;>conv=>whnf)|((with_reducible refine Split.eqz (fun _=>?_) (fun _=>?_))<;>conv=>whnf)|((with_reducible refine Split.and ?_))|((with_reducible refine Split.streq (fun _=>?_) (fun _=>?_))<;>conv=>whnf)|((with_reducible refine Split.dec (fun _=>?_) (fun _=>?_))<;>conv=>whnf)|((with_reducible refine Need.mk ?_ ?_);(first|omega|rfl|decide|(refine ⟨?_, ?_⟩<;>simp<;>omega)|(simp;omega));conv=>whnf)|((with_reducible refine Wr.inr ?_ ?_);(first|omega|(simp;omega));conv=>whnf)|(exfalso;first|omega|contradiction))
  · exact congrArg D.bool (eqB_ne fun e => by subst e; omega).symm
  refine LoopK.o2 (fun i : Nat => i ≤ a.length ∧ a.take i = b.take i) (fun i => [(5, .d (.int .i64 i))]) (fun _ => []) (fun i => a.length - i) 0 (by simp) (by refine ⟨?_, ?_, rfl⟩<;>(repeat' (first|exact True.intro|exact rfl|refine ⟨?_, ?_⟩|(intro h;cases h;done)|(intro h;exact h)|exact map_snoc|(refine own_congr ?_;simp;done)|(refine int_congr ?_;(first|omega|(simp;omega)))|(simp;done)));done) ?_
  rintro i ⟨hi, ht⟩
  have hab : a.length = b.length := by omega
  by_cases hil : i < a.length
  · obtain ⟨x, hx⟩ := some_of_lt hil
    obtain ⟨y, hy⟩ := some_of_lt (show i < b.length by omega)
    have hne : x ≠ y → eqB a b = false := fun h => eqB_ne fun e => h (by subst e; exact Option.some.inj (hx.symm.trans hy))
    conv => whnf
    repeat' (first|((refine PickE.map i hy (by omega) ?_);conv=>whnf)|((refine PickE.map i hx (by omega) ?_);conv=>whnf)|((with_reducible refine Split.of_true ?_);conv=>whnf)|((with_reducible refine Split.of_false ?_);conv=>whnf)|((with_reducible refine Split.neg ?_))|((with_reducible refine Split.is_true ?_ ?_);decide;conv=>whnf)|((with_reducible refine Split.is_false ?_ ?_);decide;conv=>whnf)|((with_reducible refine Split.nez (fun _=>?_) (fun _=>?_))<;>conv=>whnf)|((with_reducible refine Split.eqz (fun _=>?_) (fun _=>?_))<;>conv=>whnf)|((with_reducible refine Split.and ?_))|((with_reducible refine Split.streq (fun _=>?_) (fun _=>?_))<;>conv=>whnf)|((with_reducible refine Split.dec (fun _=>?_) (fun _=>?_))<;>conv=>whnf)|((with_reducible refine Need.mk ?_ ?_);(first|omega|rfl|decide|(refine ⟨?_, ?_⟩<;>simp<;>omega)|(simp;omega));conv=>whnf)|((with_reducible refine Wr.inr ?_ ?_);(first|omega|(simp;omega));conv=>whnf)|(exfalso;first|omega|contradiction))
    all_goals first
      | (exact congrArg D.bool (hne fun e => by subst e;contradiction).symm)
      | (have e : x = y := by
           cases x
           cases y
           simp only [Dp.mk.injEq]
           exact ⟨by assumption, by assumption, by assumption⟩
         subst e
         exact Again.au (i + 1) ⟨by omega, take_succ_eq hx hy ht⟩ (by omega) (by refine ⟨?_, ?_, rfl⟩<;>(repeat' (first|exact True.intro|exact rfl|refine ⟨?_, ?_⟩|(intro h;cases h;done)|(intro h;exact h)|exact map_snoc|(refine own_congr ?_;simp;done)|(refine int_congr ?_;(first|omega|(simp;omega)))|(simp;done)));done))
  · conv => whnf
    repeat' (first|((with_reducible refine Split.of_true ?_);conv=>whnf)|((with_reducible refine Split.of_false ?_);conv=>whnf)|((with_reducible refine Split.neg ?_))|((with_reducible refine Split.is_true ?_ ?_);decide;conv=>whnf)|((with_reducible refine Split.is_false ?_ ?_);decide;conv=>whnf)|((with_reducible refine Split.nez (fun _=>?_) (fun _=>?_))<;>conv=>whnf)|((with_reducible refine Split.eqz (fun _=>?_) (fun _=>?_))<;>conv=>whnf)|((with_reducible refine Split.and ?_))|((with_reducible refine Split.streq (fun _=>?_) (fun _=>?_))<;>conv=>whnf)|((with_reducible refine Split.dec (fun _=>?_) (fun _=>?_))<;>conv=>whnf)|((with_reducible refine Need.mk ?_ ?_);(first|omega|rfl|decide|(refine ⟨?_, ?_⟩<;>simp<;>omega)|(simp;omega));conv=>whnf)|((with_reducible refine Wr.inr ?_ ?_);(first|omega|(simp;omega));conv=>whnf)|(exfalso;first|omega|contradiction))
    exact congrArg D.bool (eqB_of (eq_of_take ht (by omega) (by omega))).symm
theorem ev_Ints9 (a b : List Int) (ha : a.length ≤ 1000000) : Ev Try.prog 64 [.sl 1 (a.map iD), .sl 1 (b.map iD)] (.bool (eqB a b)) := by
  have hla : (a.map iD).length = a.length := List.length_map _
  have hlb : (b.map iD).length = b.length := List.length_map _
  refine ev_of_awp tysOk mixed (fn := Try.f64) Try.func64 rfl rfl rfl ?_
  conv => whnf
  repeat' (first|((with_reducible refine Split.of_true ?_);conv=>whnf)|((with_reducible refine Split.of_false ?_);conv=>whnf)|((with_reducible refine Split.neg ?_))|((with_reducible refine Split.is_true ?_ ?_);decide;conv=>whnf)|((with_reducible refine Split.is_false ?_ ?_);decide;conv=>whnf)|((with_reducible refine Split.nez (fun _=>?_) (fun _=>?_))<;>conv=>whnf)|((with_reducible refine Split.eqz (fun _=>?_) (fun _=>?_))<;>conv=>whnf)|((with_reducible refine Split.and ?_))|((with_reducible refine Split.streq (fun _=>?_) (fun _=>?_))<;>conv=>whnf)|((with_reducible refine Split.dec (fun _=>?_) (fun _=>?_))<;>conv=>whnf)|((with_reducible refine Need.mk ?_ ?_);(first|omega|rfl|decide|(refine ⟨?_, ?_⟩<;>simp<;>omega)|(simp;omega));conv=>whnf)|((with_reducible refine Wr.inr ?_ ?_);(first|omega|(simp;omega));conv=>whnf)|(exfalso;first|omega|contradiction))
  · exact congrArg D.bool (eqB_ne fun e => by subst e; omega).symm
  refine LoopK.o2 (fun i : Nat => i ≤ a.length ∧ a.take i = b.take i) (fun i => [(5, .d (.int .i64 i))]) (fun _ => []) (fun i => a.length - i) 0 (by simp) (by refine ⟨?_, ?_, rfl⟩<;>(repeat' (first|exact True.intro|exact rfl|refine ⟨?_, ?_⟩|(intro h;cases h;done)|(intro h;exact h)|exact map_snoc|(refine own_congr ?_;simp;done)|(refine int_congr ?_;(first|omega|(simp;omega)))|(simp;done)));done) ?_
  rintro i ⟨hi, ht⟩
  have hab : a.length = b.length := by omega
  by_cases hil : i < a.length
  · obtain ⟨x, hx⟩ := some_of_lt hil
    obtain ⟨y, hy⟩ := some_of_lt (show i < b.length by omega)
    have hne : x ≠ y → eqB a b = false := fun h => eqB_ne fun e => h (by subst e; exact Option.some.inj (hx.symm.trans hy))
    conv => whnf
    repeat' (first|((refine PickE.map i hy (by omega) ?_);conv=>whnf)|((refine PickE.map i hx (by omega) ?_);conv=>whnf)|((with_reducible refine Split.of_true ?_);conv=>whnf)|((with_reducible refine Split.of_false ?_);conv=>whnf)|((with_reducible refine Split.neg ?_))|((with_reducible refine Split.is_true ?_ ?_);decide;conv=>whnf)|((with_reducible refine Split.is_false ?_ ?_);decide;conv=>whnf)|((with_reducible refine Split.nez (fun _=>?_) (fun _=>?_))<;>conv=>whnf)|((with_reducible refine Split.eqz (fun _=>?_) (fun _=>?_))<;>conv=>whnf)|((with_reducible refine Split.and ?_))|((with_reducible refine Split.streq (fun _=>?_) (fun _=>?_))<;>conv=>whnf)|((with_reducible refine Split.dec (fun _=>?_) (fun _=>?_))<;>conv=>whnf)|((with_reducible refine Need.mk ?_ ?_);(first|omega|rfl|decide|(refine ⟨?_, ?_⟩<;>simp<;>omega)|(simp;omega));conv=>whnf)|((with_reducible refine Wr.inr ?_ ?_);(first|omega|(simp;omega));conv=>whnf)|(exfalso;first|omega|contradiction))
    all_goals first
      | (exact congrArg D.bool (hne (by assumption)).symm)
      | (have e : x = y := by assumption
         subst e
         exact Again.au (i + 1) ⟨by omega, take_succ_eq hx hy ht⟩ (by omega) (by refine ⟨?_, ?_, rfl⟩<;>(repeat' (first|exact True.intro|exact rfl|refine ⟨?_, ?_⟩|(intro h;cases h;done)|(intro h;exact h)|exact map_snoc|(refine own_congr ?_;simp;done)|(refine int_congr ?_;(first|omega|(simp;omega)))|(simp;done)));done))
  · conv => whnf
    repeat' (first|((with_reducible refine Split.of_true ?_);conv=>whnf)|((with_reducible refine Split.of_false ?_);conv=>whnf)|((with_reducible refine Split.neg ?_))|((with_reducible refine Split.is_true ?_ ?_);decide;conv=>whnf)|((with_reducible refine Split.is_false ?_ ?_);decide;conv=>whnf)|((with_reducible refine Split.nez (fun _=>?_) (fun _=>?_))<;>conv=>whnf)|((with_reducible refine Split.eqz (fun _=>?_) (fun _=>?_))<;>conv=>whnf)|((with_reducible refine Split.and ?_))|((with_reducible refine Split.streq (fun _=>?_) (fun _=>?_))<;>conv=>whnf)|((with_reducible refine Split.dec (fun _=>?_) (fun _=>?_))<;>conv=>whnf)|((with_reducible refine Need.mk ?_ ?_);(first|omega|rfl|decide|(refine ⟨?_, ?_⟩<;>simp<;>omega)|(simp;omega));conv=>whnf)|((with_reducible refine Wr.inr ?_ ?_);(first|omega|(simp;omega));conv=>whnf)|(exfalso;first|omega|contradiction))
    exact congrArg D.bool (eqB_of (eq_of_take ht (by omega) (by omega))).symm
end Go.Proofs.Try
end

section
namespace Go.Proofs.Try
open Go Go.Vm
set_option maxRecDepth 20000
set_option maxHeartbeats 8000000
structure SmB (y : Yd) : Prop where
  p : y.pits.length ≤ 12
  b : y.bulk.length ≤ 25
  c : y.carry.length ≤ 30
  d : y.deps.length ≤ 205
  cl : ∀ x ∈ y.pits, x.cls.length ≤ 12
theorem smB {y : Yd} (h : smallB y = true) : SmB y := by
  simp only [smallB, Bool.and_eq_true, List.all_eq_true, decide_eq_true_eq] at h
  obtain ⟨⟨⟨h1, h2⟩, -⟩, -⟩ := h
  obtain ⟨q1, q2, q3, q4⟩ := sm_ok h1
  exact ⟨by omega, by omega, by omega, by omega, fun x hx => (h2 x hx).2⟩
theorem SmB.copied {y : Yd} (h : SmB y) : Ev Try.prog 14 [ydD y] (ydD y) :=
  ev_Copied y (by have := h.p; omega) (by have := h.b; omega) (by have := h.d; omega) (by have := h.c; omega) (fun p hp => Nat.le_trans (h.cl p hp) (by decide))
theorem SmB.sp {y : Yd} (h : SmB y) : smallP y := fun p hp => Nat.le_trans (h.cl p hp) (by decide)
end Go.Proofs.Try
end

section
namespace Go.Proofs.Try
open Go Go.Vm
set_option maxRecDepth 20000
set_option maxHeartbeats 8000000
theorem eqB_self9 {α : Type} (a : α) : eqB a a = true := by simp [eqB]
theorem ev_SameSelf (y : Yd) (h1 : y.pits.length ≤ 1000000) (h2 : y.bulk.length ≤ 1000000) (h3 : y.deps.length ≤ 1000000) (h4 : y.carry.length ≤ 1000000) (hc : ∀ p ∈ y.pits, p.cls.length ≤ 1000000) : Ev Try.prog 22 [ydD y, ydD y] (.bool true) := by
  have hlp : (y.pits.map ptD).length = y.pits.length := List.length_map _
  have hlb : (y.bulk.map bkD).length = y.bulk.length := List.length_map _
  have w1 := ev_Ints9 y.carry y.carry h4
  have w2 := ev_deposits9 y.deps y.deps h3
  rw [eqB_self9] at w1 w2
  refine ev_of_awp tysOk mixed (fn := Try.f22) Try.func22 rfl rfl rfl ?_
  conv => whnf
  repeat' (first|((with_reducible refine Split.of_true ?_);conv=>whnf)|((with_reducible refine Split.of_false ?_);conv=>whnf)|((with_reducible refine Split.neg ?_))|((with_reducible refine Split.is_true ?_ ?_);decide;conv=>whnf)|((with_reducible refine Split.is_false ?_ ?_);decide;conv=>whnf)|((with_reducible refine Split.nez (fun _=>?_) (fun _=>?_))<;>conv=>whnf)|((with_reducible refine Split.eqz (fun _=>?_) (fun _=>?_))<;>conv=>whnf)|((with_reducible refine Split.and ?_))|((with_reducible refine Split.streq (fun _=>?_) (fun _=>?_))<;>conv=>whnf)|((with_reducible refine Split.dec (fun _=>?_) (fun _=>?_))<;>conv=>whnf)|((with_reducible refine Need.mk ?_ ?_);(first|omega|rfl|decide|(refine ⟨?_, ?_⟩<;>simp<;>omega)|(simp;omega));conv=>whnf)|((with_reducible refine Wr.inr ?_ ?_);(first|omega|(simp;omega));conv=>whnf)|((with_reducible refine AltK.l ?_);(conv=>whnf);(first|(refine CallK.mk _ (w1) ?_)|(refine CallK.mk _ (w2) ?_));conv=>whnf)|(exfalso;first|omega|contradiction))
  refine LoopK.o2 (fun i : Nat => i ≤ y.pits.length) (fun i => [(5, .d (.int .i64 i))]) (fun _ => []) (fun i => y.pits.length - i) 0 (by simp) (by refine ⟨?_, ?_, rfl⟩<;>(repeat' (first|exact True.intro|exact rfl|refine ⟨?_, ?_⟩|(intro h;cases h;done)|(intro h;exact h)|exact map_snoc|(refine own_congr ?_;simp;done)|(refine int_congr ?_;(first|omega|(simp;omega)))|(simp;done)));done) ?_
  rintro i hi
  by_cases hil : i < y.pits.length
  · obtain ⟨p, hp⟩ := some_of_lt hil
    have w3 := ev_Ints9 p.cls p.cls (hc p (List.mem_of_getElem? hp))
    rw [eqB_self9] at w3
    conv => whnf
    repeat' (first|((refine PickE.map i hp (by omega) ?_);conv=>whnf)|((with_reducible refine Split.of_true ?_);conv=>whnf)|((with_reducible refine Split.of_false ?_);conv=>whnf)|((with_reducible refine Split.neg ?_))|((with_reducible refine Split.is_true ?_ ?_);decide;conv=>whnf)|((with_reducible refine Split.is_false ?_ ?_);decide;conv=>whnf)|((with_reducible refine Split.nez (fun _=>?_) (fun _=>?_))<;>conv=>whnf)|((with_reducible refine Split.eqz (fun _=>?_) (fun _=>?_))<;>conv=>whnf)|((with_reducible refine Split.and ?_))|((with_reducible refine Split.streq (fun _=>?_) (fun _=>?_))<;>conv=>whnf)|((with_reducible refine Split.dec (fun _=>?_) (fun _=>?_))<;>conv=>whnf)|((with_reducible refine Need.mk ?_ ?_);(first|omega|rfl|decide|(refine ⟨?_, ?_⟩<;>simp<;>omega)|(simp;omega));conv=>whnf)|((with_reducible refine Wr.inr ?_ ?_);(first|omega|(simp;omega));conv=>whnf)|((with_reducible refine AltK.l ?_);(conv=>whnf);(first|(refine CallK.mk _ (w3) ?_));conv=>whnf)|(exfalso;first|omega|contradiction))
    all_goals first
      | exact Again.au (i + 1) (by omega) (by omega) (by refine ⟨?_, ?_, rfl⟩<;>(repeat' (first|exact True.intro|exact rfl|refine ⟨?_, ?_⟩|(intro h;cases h;done)|(intro h;exact h)|exact map_snoc|(refine own_congr ?_;simp;done)|(refine int_congr ?_;(first|omega|(simp;omega)))|(simp;done)));done)
      | (exfalso;first|omega|contradiction)
  · conv => whnf
    repeat' (first|((with_reducible refine Split.of_true ?_);conv=>whnf)|((with_reducible refine Split.of_false ?_);conv=>whnf)|((with_reducible refine Split.neg ?_))|((with_reducible refine Split.is_true ?_ ?_);decide;conv=>whnf)|((with_reducible refine Split.is_false ?_ ?_);decide;conv=>whnf)|((with_reducible refine Split.nez (fun _=>?_) (fun _=>?_))<;>conv=>whnf)|((with_reducible refine Split.eqz (fun _=>?_) (fun _=>?_))<;>conv=>whnf)|((with_reducible refine Split.and ?_))|((with_reducible refine Split.streq (fun _=>?_) (fun _=>?_))<;>conv=>whnf)|((with_reducible refine Split.dec (fun _=>?_) (fun _=>?_))<;>conv=>whnf)|((with_reducible refine Need.mk ?_ ?_);(first|omega|rfl|decide|(refine ⟨?_, ?_⟩<;>simp<;>omega)|(simp;omega));conv=>whnf)|((with_reducible refine Wr.inr ?_ ?_);(first|omega|(simp;omega));conv=>whnf)|(exfalso;first|omega|contradiction))
    refine LoopK.o2 (fun i : Nat => i ≤ y.bulk.length) (fun i => [(8, .d (.int .i64 i))]) (fun _ => []) (fun i => y.bulk.length - i) 0 (by simp) (by refine ⟨?_, ?_, rfl⟩<;>(repeat' (first|exact True.intro|exact rfl|refine ⟨?_, ?_⟩|(intro h;cases h;done)|(intro h;exact h)|exact map_snoc|(refine own_congr ?_;simp;done)|(refine int_congr ?_;(first|omega|(simp;omega)))|(simp;done)));done) ?_
    rintro k hk
    by_cases hkl : k < y.bulk.length
    · obtain ⟨b, hb⟩ := some_of_lt hkl
      conv => whnf
      repeat' (first|((refine PickE.map k hb (by omega) ?_);conv=>whnf)|((with_reducible refine Split.of_true ?_);conv=>whnf)|((with_reducible refine Split.of_false ?_);conv=>whnf)|((with_reducible refine Split.neg ?_))|((with_reducible refine Split.is_true ?_ ?_);decide;conv=>whnf)|((with_reducible refine Split.is_false ?_ ?_);decide;conv=>whnf)|((with_reducible refine Split.nez (fun _=>?_) (fun _=>?_))<;>conv=>whnf)|((with_reducible refine Split.eqz (fun _=>?_) (fun _=>?_))<;>conv=>whnf)|((with_reducible refine Split.and ?_))|((with_reducible refine Split.streq (fun _=>?_) (fun _=>?_))<;>conv=>whnf)|((with_reducible refine Split.dec (fun _=>?_) (fun _=>?_))<;>conv=>whnf)|((with_reducible refine Need.mk ?_ ?_);(first|omega|rfl|decide|(refine ⟨?_, ?_⟩<;>simp<;>omega)|(simp;omega));conv=>whnf)|((with_reducible refine Wr.inr ?_ ?_);(first|omega|(simp;omega));conv=>whnf)|(exfalso;first|omega|contradiction))
      all_goals first
        | exact Again.au (k + 1) (by omega) (by omega) (by refine ⟨?_, ?_, rfl⟩<;>(repeat' (first|exact True.intro|exact rfl|refine ⟨?_, ?_⟩|(intro h;cases h;done)|(intro h;exact h)|exact map_snoc|(refine own_congr ?_;simp;done)|(refine int_congr ?_;(first|omega|(simp;omega)))|(simp;done)));done)
        | (exfalso;first|omega|contradiction)
    · conv => whnf
      repeat' (first|((with_reducible refine Split.of_true ?_);conv=>whnf)|((with_reducible refine Split.of_false ?_);conv=>whnf)|((with_reducible refine Split.neg ?_))|((with_reducible refine Split.is_true ?_ ?_);decide;conv=>whnf)|((with_reducible refine Split.is_false ?_ ?_);decide;conv=>whnf)|((with_reducible refine Split.nez (fun _=>?_) (fun _=>?_))<;>conv=>whnf)|((with_reducible refine Split.eqz (fun _=>?_) (fun _=>?_))<;>conv=>whnf)|((with_reducible refine Split.and ?_))|((with_reducible refine Split.streq (fun _=>?_) (fun _=>?_))<;>conv=>whnf)|((with_reducible refine Split.dec (fun _=>?_) (fun _=>?_))<;>conv=>whnf)|((with_reducible refine Need.mk ?_ ?_);(first|omega|rfl|decide|(refine ⟨?_, ?_⟩<;>simp<;>omega)|(simp;omega));conv=>whnf)|((with_reducible refine Wr.inr ?_ ?_);(first|omega|(simp;omega));conv=>whnf)|(exfalso;first|omega|contradiction))
      rfl
theorem ev_zero9 : Ev Try.prog 21 [ydD y0] (.bool true) := by
  have h := ev_SameSelf y0 (by simp [y0]) (by simp [y0]) (by simp [y0]) (by simp [y0]) (by simp [y0])
  refine ev_of_awp tysOk mixed (fn := Try.f21) Try.func21 rfl rfl rfl ?_
  conv => whnf
  repeat' (first|((with_reducible refine Split.of_true ?_);conv=>whnf)|((with_reducible refine Split.of_false ?_);conv=>whnf)|((with_reducible refine Split.neg ?_))|((with_reducible refine Split.is_true ?_ ?_);decide;conv=>whnf)|((with_reducible refine Split.is_false ?_ ?_);decide;conv=>whnf)|((with_reducible refine Split.nez (fun _=>?_) (fun _=>?_))<;>conv=>whnf)|((with_reducible refine Split.eqz (fun _=>?_) (fun _=>?_))<;>conv=>whnf)|((with_reducible refine Split.and ?_))|((with_reducible refine Split.streq (fun _=>?_) (fun _=>?_))<;>conv=>whnf)|((with_reducible refine Split.dec (fun _=>?_) (fun _=>?_))<;>conv=>whnf)|((with_reducible refine Need.mk ?_ ?_);(first|omega|rfl|decide|(refine ⟨?_, ?_⟩<;>simp<;>omega)|(simp;omega));conv=>whnf)|((with_reducible refine Wr.inr ?_ ?_);(first|omega|(simp;omega));conv=>whnf)|((with_reducible refine AltK.l ?_);(conv=>whnf);(first|(refine CallK.mk _ (h) ?_));conv=>whnf)|(exfalso;first|omega|contradiction))
  rfl
theorem ev_DisposalChecks (hA : Ev Try.prog 11 [] (.bool true)) (y : Yd) : Ev Try.prog 5 [ydD y] (.bool true) := by
  have h1 := ev_Small y
  cases hs : smallB y with
  | false =>
    rw [hs] at h1
    refine ev_of_awp tysOk mixed (fn := Try.f5) Try.func5 rfl rfl rfl ?_
    conv => whnf
    repeat' (first|((with_reducible refine Split.of_true ?_);conv=>whnf)|((with_reducible refine Split.of_false ?_);conv=>whnf)|((with_reducible refine Split.neg ?_))|((with_reducible refine Split.is_true ?_ ?_);decide;conv=>whnf)|((with_reducible refine Split.is_false ?_ ?_);decide;conv=>whnf)|((with_reducible refine Split.nez (fun _=>?_) (fun _=>?_))<;>conv=>whnf)|((with_reducible refine Split.eqz (fun _=>?_) (fun _=>?_))<;>conv=>whnf)|((with_reducible refine Split.and ?_))|((with_reducible refine Split.streq (fun _=>?_) (fun _=>?_))<;>conv=>whnf)|((with_reducible refine Split.dec (fun _=>?_) (fun _=>?_))<;>conv=>whnf)|((with_reducible refine Need.mk ?_ ?_);(first|omega|rfl|decide|(refine ⟨?_, ?_⟩<;>simp<;>omega)|(simp;omega));conv=>whnf)|((with_reducible refine Wr.inr ?_ ?_);(first|omega|(simp;omega));conv=>whnf)|((with_reducible refine AltK.l ?_);(conv=>whnf);(first|(refine CallK.mk _ (hA) ?_)|(refine CallK.mk _ (h1) ?_));conv=>whnf)|(exfalso;first|omega|contradiction))
    rfl
  | true =>
  rw [hs] at h1
  have hB := smB hs
  have h2 := hB.copied
  have h3 := ev_New y.pits y.bulk (fun x hx => Nat.le_trans (hB.cl x hx) (by decide)) (by have := hB.b; omega)
  have h4 := ev_DCheck y hB.sp
  have h5 := ev_DCheckR y hB.sp
  have h6 := ev_DCheckR (newY y.pits y.bulk) hB.sp
  have h7 := ev_zero9
  have b1 := hB.b
  have b2 := hB.p
  have hlb : (y.bulk.map bkD).length = y.bulk.length := List.length_map _
  have hz : List.replicate ((y.bulk.map bkD).length : Int).toNat (D.int .i64 0) = (newY y.pits y.bulk).carry.map iD := by
    simp [newY, iD, List.map_const']
  have e : ydD (newY y.pits y.bulk) = .agg [.sl 6 (y.pits.map ptD), .sl 3 (y.bulk.map bkD), .sl 3 [], .sl 1 (List.replicate ((y.bulk.map bkD).length : Int).toNat (D.int .i64 0))] := by
    rw [hz]; rfl
  by_cases h0 : ydErr (newY y.pits y.bulk) = 0
  · have h8 := ev_SameSelf (newY y.pits y.bulk) (by show y.pits.length ≤ _; omega) (by show y.bulk.length ≤ _; omega) (by simp [newY]) (by simp [newY]; omega) (fun p hp => Nat.le_trans (hB.cl p hp) (by decide))
    rw [if_pos h0] at h3
    rw [h0] at h3 h6
    rw [e] at h3 h6 h8
    refine ev_of_awp tysOk mixed (fn := Try.f5) Try.func5 rfl rfl rfl ?_
    conv => whnf
    repeat' (first|((with_reducible refine Split.of_true ?_);conv=>whnf)|((with_reducible refine Split.of_false ?_);conv=>whnf)|((with_reducible refine Split.neg ?_))|((with_reducible refine Split.is_true ?_ ?_);decide;conv=>whnf)|((with_reducible refine Split.is_false ?_ ?_);decide;conv=>whnf)|((with_reducible refine Split.nez (fun _=>?_) (fun _=>?_))<;>conv=>whnf)|((with_reducible refine Split.eqz (fun _=>?_) (fun _=>?_))<;>conv=>whnf)|((with_reducible refine Split.and ?_))|((with_reducible refine Split.streq (fun _=>?_) (fun _=>?_))<;>conv=>whnf)|((with_reducible refine Split.dec (fun _=>?_) (fun _=>?_))<;>conv=>whnf)|((with_reducible refine Need.mk ?_ ?_);(first|omega|rfl|decide|(refine ⟨?_, ?_⟩<;>simp<;>omega)|(simp;omega));conv=>whnf)|((with_reducible refine Wr.inr ?_ ?_);(first|omega|(simp;omega));conv=>whnf)|((with_reducible refine AltK.l ?_);(conv=>whnf);(first|(refine CallK.mk _ (hA) ?_)|(refine CallK.mk _ (h1) ?_)|(refine CallK.mk _ (h2) ?_)|(refine CallK.mk _ (h3) ?_)|(refine CallK.mk _ (h4) ?_)|(refine CallK.mk _ (h5) ?_)|(refine CallK.mk _ (h6) ?_)|(refine CallK.mk _ (h8) ?_));conv=>whnf)|(exfalso;first|omega|contradiction))
    all_goals first
      | rfl
      | (exfalso;omega)
  · rw [if_neg h0] at h3
    rw [e] at h6
    generalize ydErr (newY y.pits y.bulk) = er at *
    refine ev_of_awp tysOk mixed (fn := Try.f5) Try.func5 rfl rfl rfl ?_
    conv => whnf
    repeat' (first|((with_reducible refine Split.of_true ?_);conv=>whnf)|((with_reducible refine Split.of_false ?_);conv=>whnf)|((with_reducible refine Split.neg ?_))|((with_reducible refine Split.is_true ?_ ?_);decide;conv=>whnf)|((with_reducible refine Split.is_false ?_ ?_);decide;conv=>whnf)|((with_reducible refine Split.nez (fun _=>?_) (fun _=>?_))<;>conv=>whnf)|((with_reducible refine Split.eqz (fun _=>?_) (fun _=>?_))<;>conv=>whnf)|((with_reducible refine Split.and ?_))|((with_reducible refine Split.streq (fun _=>?_) (fun _=>?_))<;>conv=>whnf)|((with_reducible refine Split.dec (fun _=>?_) (fun _=>?_))<;>conv=>whnf)|((with_reducible refine Need.mk ?_ ?_);(first|omega|rfl|decide|(refine ⟨?_, ?_⟩<;>simp<;>omega)|(simp;omega));conv=>whnf)|((with_reducible refine Wr.inr ?_ ?_);(first|omega|(simp;omega));conv=>whnf)|((with_reducible refine AltK.l ?_);(conv=>whnf);(first|(refine CallK.mk _ (hA) ?_)|(refine CallK.mk _ (h1) ?_)|(refine CallK.mk _ (h2) ?_)|(refine CallK.mk _ (h3) ?_)|(refine CallK.mk _ (h4) ?_)|(refine CallK.mk _ (h5) ?_)|(refine CallK.mk _ (h6) ?_)|(refine CallK.mk _ (h7) ?_));conv=>whnf)|(exfalso;first|omega|contradiction))
    all_goals first
      | rfl
      | (exfalso;omega)
end Go.Proofs.Try
end

section
namespace Go.Proofs.Try
open Go Go.Vm
theorem int_of {k : IntKind} {d : D} (h : Ty (.int k) d) : ∃ n, d = .int k n ∧ (Lit.int k n).wf = true := by cases h; exact ⟨_, rfl, by assumption⟩
theorem str_of {d : D} (h : Ty .str d) : ∃ s, d = .str s ∧ s.size ≤ 9223372036854775807 := by
  cases h with
  | str s h => exact ⟨_, rfl, h⟩
theorem sl_of {agg : Bool} {cs : List Cs} {d : D} (h : Ty (.sl agg cs) d) : ∃ es, d = .sl cs.length es ∧ (∀ e ∈ es, TyV (agg, cs) e) ∧ es.length ≤ 9223372036854775807 := by
  cases h with
  | sl hk hl h hn => exact ⟨_, rfl, fun e he => ⟨hk e he, hl e he, h e he⟩, hn⟩
theorem agg_of {cs : List Cs} {d : D} (h : TyV (true, cs) d) : ∃ ds, d = .agg ds ∧ ds.length = cs.length ∧ ∀ (j : Nat) c e, cs[j]? = some c → ds[j]? = some e → Ty c e := by
  obtain ⟨ds, rfl⟩ := h.1.1 rfl
  exact ⟨ds, rfl, h.2.1, h.2.2⟩
theorem one_of {c : Cs} {d : D} (h : TyV (false, [c]) d) : Ty c d := by
  have h1 := h.1.2 rfl
  have := h.2.2 0 c d rfl
  rw [(one_cells h1).1] at this
  exact this rfl
theorem map_of {α : Type} {f : α → D} {Q : D → Prop} (hf : ∀ d, Q d → ∃ a, d = f a) : ∀ {es : List D}, (∀ e ∈ es, Q e) → ∃ l : List α, es = l.map f
  | [], _ => ⟨[], rfl⟩
  | e :: es, h => by
    obtain ⟨a, rfl⟩ := hf e (h e (List.mem_cons_self ..))
    obtain ⟨l, rfl⟩ := map_of hf (fun e he => h e (List.mem_cons_of_mem _ he))
    exact ⟨a :: l, rfl⟩
end Go.Proofs.Try
end

section
namespace Go.Proofs.Try
open Go Go.Vm
def cPit : List Cs := [.str, .int .i64, .int .i64, .int .i64, .sl false [.int .i64], .int .i64]
def cBulk : List Cs := [.str, .int .i64, .int .i64]
def cDep : List Cs := [.int .i64, .str, .int .i64]
def cYard : List Cs := [.sl true cPit, .sl true cBulk, .sl true cDep, .sl false [.int .i64]]
theorem ints_of9 {d : D} (h : Ty (.sl false [.int .i64]) d) : ∃ l : List Int, d = .sl 1 (l.map iD) := by
  obtain ⟨es, rfl, he, -⟩ := sl_of h
  obtain ⟨l, rfl⟩ := map_of (f := iD) (fun d hd => by
    obtain ⟨n, rfl, -⟩ := int_of (one_of hd)
    exact ⟨n, rfl⟩) he
  exact ⟨l, rfl⟩
theorem pit_of {d : D} (h : TyV (true, cPit) d) : ∃ p, d = ptD p := by
  obtain ⟨ds, rfl, hl, hc⟩ := agg_of h
  match ds, hl with
  | [a, b, c, e, f, g], _ =>
    obtain ⟨s, rfl, -⟩ := str_of (hc 0 _ a rfl rfl)
    obtain ⟨x1, rfl, -⟩ := int_of (hc 1 _ b rfl rfl)
    obtain ⟨x2, rfl, -⟩ := int_of (hc 2 _ c rfl rfl)
    obtain ⟨x3, rfl, -⟩ := int_of (hc 3 _ e rfl rfl)
    obtain ⟨l, rfl⟩ := ints_of9 (hc 4 _ f rfl rfl)
    obtain ⟨x5, rfl, -⟩ := int_of (hc 5 _ g rfl rfl)
    exact ⟨⟨s, x1, x2, x3, l, x5⟩, rfl⟩
theorem bulk_of {d : D} (h : TyV (true, cBulk) d) : ∃ p, d = bkD p := by
  obtain ⟨ds, rfl, hl, hc⟩ := agg_of h
  match ds, hl with
  | [a, b, c], _ =>
    obtain ⟨s, rfl, -⟩ := str_of (hc 0 _ a rfl rfl)
    obtain ⟨x1, rfl, -⟩ := int_of (hc 1 _ b rfl rfl)
    obtain ⟨x2, rfl, -⟩ := int_of (hc 2 _ c rfl rfl)
    exact ⟨⟨s, x1, x2⟩, rfl⟩
theorem dep_of {d : D} (h : TyV (true, cDep) d) : ∃ p, d = dpD p := by
  obtain ⟨ds, rfl, hl, hc⟩ := agg_of h
  match ds, hl with
  | [a, b, c], _ =>
    obtain ⟨x1, rfl, -⟩ := int_of (hc 0 _ a rfl rfl)
    obtain ⟨s, rfl, -⟩ := str_of (hc 1 _ b rfl rfl)
    obtain ⟨x2, rfl, -⟩ := int_of (hc 2 _ c rfl rfl)
    exact ⟨⟨x1, s, x2⟩, rfl⟩
theorem yard_of {d : D} (h : TyV (true, cYard) d) : ∃ y, d = ydD y := by
  obtain ⟨ds, rfl, hl, hc⟩ := agg_of h
  match ds, hl with
  | [a, b, c, e], _ =>
    obtain ⟨es, rfl, he, -⟩ := sl_of (hc 0 _ a rfl rfl)
    obtain ⟨l0, rfl⟩ := map_of (fun d hd => pit_of hd) he
    obtain ⟨es, rfl, he, -⟩ := sl_of (hc 1 _ b rfl rfl)
    obtain ⟨l1, rfl⟩ := map_of (fun d hd => bulk_of hd) he
    obtain ⟨es, rfl, he, -⟩ := sl_of (hc 2 _ c rfl rfl)
    obtain ⟨l2, rfl⟩ := map_of (fun d hd => dep_of hd) he
    obtain ⟨l3, rfl⟩ := ints_of9 (hc 3 _ e rfl rfl)
    exact ⟨⟨l0, l1, l2, l3⟩, rfl⟩
end Go.Proofs.Try
end

section
namespace Go.Proofs.Try
open Go Go.Vm
theorem ev_DisposalChecks' (y : Yd) : Ev Try.prog 5 [ydD y] (.bool true) := ev_DisposalChecks ev_awake9 y
end Go.Proofs.Try
end
