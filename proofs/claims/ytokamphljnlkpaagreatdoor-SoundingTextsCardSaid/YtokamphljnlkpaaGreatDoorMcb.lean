/- Texts SdC SdD SdE SxG SxD SxH, joined; what is not needed is left out. -/
import Derived.Test.YtokamphljnlkpaaGreatDoorMgH
import Derived.Test.YtokamphljnlkpaaGreatDoorProg
import Derived.Test.YtokamphljnlkpaaGreatDoorMgI
import Derived.Lib.AtoiAllCases
import Derived.Shelf.Lays
import Derived.Lib.CutLaws
import Derived.Lib.MakeNoZero
import Derived.Laws.IdiomCopy
import Derived.Lib.ItoaLen
import Derived.Lib.AtoiTie
import Derived.Lib.SplitLaws
import Derived.Shelf.LaysM
import Derived.Shelf.LaysC
import Derived.Shelf.Strings.Builder1
import Derived.Test.YtokamphljnlkpaaGreatDoorMgJ
import Derived.Test.YtokamphljnlkpaaGreatDoorMca
section
namespace Go.Proofs.Tryz
open Go Go.Vm
set_option maxRecDepth 20000
set_option maxHeartbeats 2000000
theorem lv_bd {l : List Ga} {x t : Int} (hG : GoodAll l) (_hx : -1000000 ≤ x ∧ x ≤ 1000000) : -240000004000000000 ≤ (lvS l x t).1 ∧ (lvS l x t).1 ≤ 240000004000000000 ∧ -240000004000000000 ≤ (lvS l x t).2.1 ∧ (lvS l x t).2.1 ≤ 240000004000000000 := by
 have hp := posX_spec (x := x) hG.asc
 have z : -240000004000000000 ≤ (0 : Int) ∧ (0 : Int) ≤ 240000004000000000 := by omega
 unfold lvS
 generalize posX l x = p at *
 unfold lvF
 cases hb : l[p]? with
 | none =>
  cases p with
  | zero => simp
  | succ q =>
   cases ha : l[q]? with
   | none => simp only [ha]; omega
   | some a => simp only [ha]; have := at_bd (t := t) (ga_good hG ha); omega
 | some b =>
  have b2 := at_bd (t := t) (ga_good hG hb)
  by_cases hbx : b.x = x
  ·simp only [hbx, if_true]; omega
  ·cases p with
   | zero => simp only [hbx, if_false]; omega
   | succ q =>
    cases ha : l[q]? with
    | none => simp only [hbx, if_false, ha]; omega
    | some a =>
     simp only [hbx, if_false, ha]
     have b1 := at_bd (t := t) (ga_good hG ha)
     have hax := (hp q a ha).1 (by omega)
     have x1 := (ga_good hG ha).x
     have x2 := (ga_good hG hb).x
     have hbx2 := (hp (q + 1) b hb).2 (by omega)
     unfold mixS
     generalize atS a t = r at *
     generalize atS b t = s at *
     obtain ⟨lo, hi, ok⟩ := r
     obtain ⟨lo', hi', ok'⟩ := s
     dsimp only at b1 b2 ⊢
     have m1 := mul_bd (x := lo) (y := b.x - x) (X := 60000001000) (Y := 2000000) (by omega) (by omega)
     have m2 := mul_bd (x := lo') (y := x - a.x) (X := 60000001000) (Y := 2000000) (by omega) (by omega)
     have m3 := mul_bd (x := hi) (y := b.x - x) (X := 60000001000) (Y := 2000000) (by omega) (by omega)
     have m4 := mul_bd (x := hi') (y := x - a.x) (X := 60000001000) (Y := 2000000) (by omega) (by omega)
     split
     ·have q1 := ediv_bd (a := lo * (b.x - x) + lo' * (x - a.x)) (b := b.x - a.x) (M := 240000004000000000) (by omega) (by omega)
      have q2 := ediv_bd (a := -(hi * (b.x - x) + hi' * (x - a.x))) (b := b.x - a.x) (M := 240000004000000000) (by omega) (by omega)
      dsimp only [upZ]
      omega
     ·dsimp only; omega
structure RGood (r : Rw) : Prop where
 n : 1 ≤ r.n ∧ r.n ≤ 1000000
 mi : 0 ≤ r.mi ∧ r.mi ≤ 1000000
 x : -1000000 ≤ r.x ∧ r.x ≤ 1000000
 y : -1000000 ≤ r.y ∧ r.y ≤ 1000000
 d : 0 ≤ r.d ∧ r.d ≤ 20000
 dr : 0 ≤ r.dr ∧ r.dr ≤ 20000
 e : 0 ≤ r.e ∧ r.e ≤ 1000
theorem raw_good {r : Rw} : rawB r = true ↔ RGood r := by
 simp only [rawB, outsideB, Bool.and_eq_true, Bool.not_eq_true', Bool.or_eq_false_iff, decide_eq_false_iff_not]
 constructor
 ·rintro ⟨⟨⟨⟨h1, h2⟩, h3⟩, h4⟩, h5⟩
  constructor <;> omega
 ·rintro ⟨h1, h2, h3, h4, h5, h6, h7⟩
  omega
def redS (r : Rw) (lo hi : Int) : Sg := ⟨r.n, r.x, r.y, lo - (r.dr + r.d) - r.e, hi - (r.dr + r.d) + r.e⟩
def sg0 : Sg := ⟨0, 0, 0, 0, 0⟩
def sgE (x : Sg × Int) : D := .tup [sgD x.1, .int .i64 x.2]
def rdE (g : List Ga) (r : Rw) : Sg × Int := if rawB r = false then (sg0, 2) else if gsErr g ≠ 0 then (sg0, gsErr g) else
 if (lvS g r.x r.mi).2.2 then (redS r (lvS g r.x r.mi).1 (lvS g r.x r.mi).2.1, 0) else (sg0, 11)
theorem ev_reduced {r : Rw} (hr : RGood r) {lo hi : Int} (h : -240000004000000000 ≤ lo ∧ lo ≤ 240000004000000000 ∧ -240000004000000000 ≤ hi ∧ hi ≤ 240000004000000000) :
 Ev Tryz.prog 37 [rD r, ivD lo hi] (sgD (redS r lo hi)) := by
 have h1 := hr.d
 have h2 := hr.dr
 have h3 := hr.e
 refine ev_of_awp tysOk mixed (fn := Tryz.f37) Tryz.func37 rfl rfl rfl ?_
 conv => whnf
 repeat' (first|((with_reducible refine Need.mk ?_ ?_);(first|omega|rfl|decide|(refine ⟨?_,?_⟩<;>simp<;>omega)|(simp;omega));conv=>whnf)|((with_reducible refine Wr.inr ?_ ?_);(first|omega|(simp;omega));conv=>whnf)|fail)
 rfl
theorem ev_Reduce (g : List Ga) (r : Rw) : Ev Tryz.prog 16 [.sl 4 (g.map gD), rD r] (sgE (rdE g r)) := by
 have hv := ev_validRaw r
 cases hb : rawB r with
 | false =>
  rw [hb] at hv
  rw [rdE, if_pos hb]
  refine ev_of_awp tysOk mixed (fn := Tryz.f16) Tryz.func16 rfl rfl rfl ?_
  conv => whnf
  repeat' (first|((with_reducible refine Split.of_false ?_);conv=>whnf)|(with_reducible refine Split.neg ?_)|((with_reducible refine Need.mk ?_ ?_);(first|omega|rfl|decide|(refine ⟨?_,?_⟩<;>simp<;>omega)|(simp;omega));conv=>whnf)|((with_reducible refine AltK.l ?_);(conv=>whnf);(first|(refine CallK.mk _ (hv) ?_));conv=>whnf)|fail)
  rfl
 | true =>
  have hr := raw_good.1 hb
  rw [hb] at hv
  have hL := ev_Level g r.x r.mi
  rw [rdE, if_neg (by rw [hb]; decide)]
  have o1 : (outsideB r.x (-1000000) 1000000 || outsideB r.mi 0 1000000) = false := by
   have := hr.x
   have := hr.mi
   simp only [outsideB, Bool.or_eq_false_iff, decide_eq_false_iff_not]; omega
  rw [LvS, o1] at hL
  by_cases h0 : gsErr g = 0
  ·rw [if_neg (by simpa using h0), if_neg (by decide)] at hL
   rw [if_neg (by simpa using h0)]
   have hbd := lv_bd (t := r.mi) (goodAll h0) hr.x
   generalize lvS g r.x r.mi = q at *
   obtain ⟨lo, hi, ok⟩ := q
   have hR := ev_reduced hr (lo := lo) (hi := hi) hbd
   cases ok
   ·rw [if_neg Bool.false_ne_true] at hL ⊢
    refine ev_of_awp tysOk mixed (fn := Tryz.f16) Tryz.func16 rfl rfl rfl ?_
    conv => whnf
    repeat' (first|((with_reducible refine Split.of_true ?_);conv=>whnf)|(with_reducible refine Split.neg ?_)|((with_reducible refine Split.is_true ?_ ?_);decide;conv=>whnf)|((with_reducible refine Need.mk ?_ ?_);(first|omega|rfl|decide|(refine ⟨?_,?_⟩<;>simp<;>omega)|(simp;omega));conv=>whnf)|((with_reducible refine AltK.l ?_);(conv=>whnf);(first|(refine CallK.mk _ (hv) ?_)|(refine CallK.mk _ (hL) ?_));conv=>whnf)|fail)
    rfl
   ·rw [if_pos rfl] at hL ⊢
    refine ev_of_awp tysOk mixed (fn := Tryz.f16) Tryz.func16 rfl rfl rfl ?_
    conv => whnf
    repeat' (first|((with_reducible refine Split.of_true ?_);conv=>whnf)|(with_reducible refine Split.neg ?_)|((with_reducible refine Split.nez (fun _=>?_) (fun _=>?_))<;>conv=>whnf)|((with_reducible refine Need.mk ?_ ?_);(first|omega|rfl|decide|(refine ⟨?_,?_⟩<;>simp<;>omega)|(simp;omega));conv=>whnf)|((with_reducible refine AltK.l ?_);(conv=>whnf);(first|(refine CallK.mk _ (hv) ?_)|(refine CallK.mk _ (hL) ?_)|(refine CallK.mk _ (hR) ?_));conv=>whnf)|(exfalso;first|omega|contradiction)|fail)
    rfl
  ·rw [if_pos h0] at hL
   rw [if_pos h0]
   refine ev_of_awp tysOk mixed (fn := Tryz.f16) Tryz.func16 rfl rfl rfl ?_
   conv => whnf
   repeat' (first|((with_reducible refine Split.of_true ?_);conv=>whnf)|(with_reducible refine Split.neg ?_)|((with_reducible refine Split.nez (fun _=>?_) (fun _=>?_))<;>conv=>whnf)|((with_reducible refine Need.mk ?_ ?_);(first|omega|rfl|decide|(refine ⟨?_,?_⟩<;>simp<;>omega)|(simp;omega));conv=>whnf)|((with_reducible refine AltK.l ?_);(conv=>whnf);(first|(refine CallK.mk _ (hv) ?_)|(refine CallK.mk _ (hL) ?_));conv=>whnf)|(exfalso;first|omega|contradiction)|fail)
   rfl
end Go.Proofs.Tryz
end

section
namespace Go.Proofs.Tryz
open Go Go.Vm
set_option maxRecDepth 20000
set_option maxHeartbeats 2000000
theorem ev_Ints (a b : List Int) (ha : a.length ≤ 1000000) : Ev Tryz.prog 19 [.sl 1 (a.map iD), .sl 1 (b.map iD)] (.bool (decide (a = b))) := by
 have hla : (a.map iD).length = a.length := List.length_map _
 have hlb : (b.map iD).length = b.length := List.length_map _
 refine ev_of_awp tysOk mixed (fn := Tryz.f19) Tryz.func19 rfl rfl rfl ?_
 conv => whnf
 repeat' (first|((with_reducible refine Split.nez (fun _=>?_) (fun _=>?_))<;>conv=>whnf)|fail)
 ·have : a ≠ b := by rintro rfl; omega
  simp [retOf, this]
 refine LoopK.o2 (fun i : Nat => i ≤ a.length ∧ a.take i = b.take i) (fun i => [(5, .d (.int .i64 i))]) (fun _ => []) (fun i => a.length - i) 0 (by simp) (by refine ⟨?_, ?_, rfl⟩<;>(repeat' (first|exact True.intro|exact rfl|(refine ⟨?_,?_⟩)|fail));done) ?_
 rintro i ⟨hi, hp⟩
 have hn : (i : Int) < a.length → ∃ m, a[i]? = some m := fun h => some_of_lt (by omega)
 have hn2 : (i : Int) < a.length → ∃ m, b[i]? = some m := fun h => some_of_lt (by omega)
 conv => whnf
 repeat' (first|((with_reducible refine Split.dec (fun _=>?_) (fun _=>?_))<;>conv=>whnf)|((with_reducible refine Need.mk ?_ ?_);(first|omega|rfl|decide|(refine ⟨?_,?_⟩<;>simp<;>omega)|(simp;omega));conv=>whnf)|fail)
 ·obtain ⟨x, hx⟩ := hn (by omega)
  obtain ⟨y, hy⟩ := hn2 (by omega)
  conv => whnf
  repeat' (first|((refine PickE.map i hy (by omega) ?_);conv=>whnf)|((refine PickE.map i hx (by omega) ?_);conv=>whnf)|((with_reducible refine Split.nez (fun _=>?_) (fun _=>?_))<;>conv=>whnf)|((with_reducible refine Need.mk ?_ ?_);(first|omega|rfl|decide|(refine ⟨?_,?_⟩<;>simp<;>omega)|(simp;omega));conv=>whnf)|((with_reducible refine Wr.inr ?_ ?_);(first|omega|(simp;omega));conv=>whnf)|fail)
  ·have hxy : x ≠ y := by assumption
   have : a ≠ b := by rintro rfl; rw [hx] at hy; cases hy; exact hxy rfl
   simp [retOf, this]
  ·have hxy : x = y := by assumption
   refine Again.au (i + 1) ⟨by omega, ?_⟩ (by omega) (by refine ⟨?_, ?_, rfl⟩<;>(repeat' (first|exact True.intro|exact rfl|(refine ⟨?_,?_⟩)|fail));done)
   rw [take_snoc hx, take_snoc hy, hp, hxy]
 ·have : a = b := by
   rw [List.take_of_length_le (by omega), List.take_of_length_le (by omega)] at hp; exact hp
  simp [retOf, this]
end Go.Proofs.Tryz
end

section
namespace Go.Proofs.Tryz
open Go Go.Vm
set_option maxRecDepth 20000
set_option maxHeartbeats 2000000
def cmpI (x y : Int) : Int := if x < y then -1 else if y < x then 1 else 0
theorem ev_isNaN (x : Int) : Ev Tryz.prog 69 [iD x] (.bool false) := by
 refine ev_of_awp tysOk mixed (fn := Tryz.f69) Tryz.func69 rfl rfl rfl ?_
 conv => whnf
 skip
 all_goals simp_all [retOf]
theorem ev_Compare (x y : Int) : Ev Tryz.prog 43 [iD x, iD y] (iD (cmpI x y)) := by
 refine ev_of_awp tysOk mixed (fn := Tryz.f43) Tryz.func43 rfl rfl rfl ?_
 conv => whnf
 repeat' (first|((with_reducible refine Split.of_false ?_);conv=>whnf)|((with_reducible refine Split.dec (fun _=>?_) (fun _=>?_))<;>conv=>whnf)|((with_reducible refine AltK.l ?_);(conv=>whnf);(first|(refine CallK.mk _ (ev_isNaN _) ?_));conv=>whnf)|fail)
 all_goals simp_all [retOf, cmpI, iD]
 all_goals omega
def orI : List Int → Int
 | [] => 0
 | x :: r => if x = 0 then orI r else x
theorem orI_at {l : List Int} {i : Nat} {x : Int} (h : l[i]? = some x) : orI (l.drop i) = if x = 0 then orI (l.drop (i + 1)) else x := by rw [drop_of h, orI]
theorem ev_Or (l : List Int) (hb : l.length ≤ 1000000) : Ev Tryz.prog 42 [.sl 1 (l.map iD)] (iD (orI l)) := by
 have hlen : (l.map iD).length = l.length := List.length_map _
 refine ev_of_awp tysOk mixed (fn := Tryz.f42) Tryz.func42 rfl rfl rfl ?_
 conv => whnf
 skip
 refine LoopK.o2 (fun i : Nat => i ≤ l.length ∧ orI l = orI (l.drop i)) (fun i => [(8, .d (.int .i64 i))]) (fun _ => []) (fun i => l.length - i) 0 (by simp) (by refine ⟨?_, ?_, rfl⟩<;>(repeat' (first|exact True.intro|exact rfl|(refine ⟨?_,?_⟩)|fail));done) ?_
 rintro i ⟨hi, hp⟩
 have hn : (i : Int) < l.length → ∃ m, l[i]? = some m := fun h => some_of_lt (by omega)
 conv => whnf
 repeat' (first|((with_reducible refine Split.dec (fun _=>?_) (fun _=>?_))<;>conv=>whnf)|((with_reducible refine Need.mk ?_ ?_);(first|omega|rfl|decide|(refine ⟨?_,?_⟩<;>simp<;>omega)|(simp;omega));conv=>whnf)|fail)
 ·obtain ⟨x, hx⟩ := hn (by omega)
  have hk := hp.trans (orI_at hx)
  conv => whnf
  repeat' (first|((refine PickE.map i hx (by omega) ?_);conv=>whnf)|((with_reducible refine Split.nez (fun _=>?_) (fun _=>?_))<;>conv=>whnf)|((with_reducible refine Wr.inr ?_ ?_);(first|omega|(simp;omega));conv=>whnf)|fail)
  ·rw [hk, if_neg (by assumption)]; rfl
  ·rw [if_pos (by assumption)] at hk
   exact Again.au (i + 1) ⟨by omega, hk⟩ (by omega) (by refine ⟨?_, ?_, rfl⟩<;>(repeat' (first|exact True.intro|exact rfl|(refine ⟨?_,?_⟩)|fail));done)
 ·rw [hp, List.drop_eq_nil_of_le (by omega)]; rfl
def cfThin (a b : Sg) : Int := orI [cmpI b.hi a.hi, cmpI a.x b.x, cmpI a.y b.y, cmpI a.n b.n]
theorem ev_Thin1 (a b : Sg) : Ev Tryz.prog 41 [sgD a, sgD b] (iD (cfThin a b)) := by
 have h := ev_Or [cmpI b.hi a.hi, cmpI a.x b.x, cmpI a.y b.y, cmpI a.n b.n] (by simp)
 refine ev_of_awp tysOk mixed (fn := Tryz.f41) Tryz.func41 rfl rfl rfl ?_
 conv => whnf
 repeat' (first|((with_reducible refine AltK.l ?_);(conv=>whnf);(first|(refine CallK.mk _ (ev_Compare _ _) ?_)|(refine CallK.mk _ (h) ?_));conv=>whnf)|fail)
 rfl
def swp {α : Type} (l : List α) (j : Nat) : List α := match l[j]?, l[j - 1]? with
 | some x, some y => (l.set j y).set (j - 1) x
 | _, _ => l
def insIn {α : Type} (lt : α → α → Bool) : Nat → List α → List α
 | 0, l => l
 | j + 1, l => match l[j + 1]?, l[j]? with
  | some x, some y => if lt x y = true then insIn lt j (swp l (j + 1)) else l
  | _, _ => l
def insOut {α : Type} (lt : α → α → Bool) : Nat → Nat → List α → List α
 | 0, _, l => l
 | k + 1, i, l => insOut lt k (i + 1) (insIn lt i l)
def insSort {α : Type} (lt : α → α → Bool) (l : List α) : List α := insOut lt (l.length - 1) 1 l
theorem swp_len {α : Type} (l : List α) (j : Nat) : (swp l j).length = l.length := by
 unfold swp; split <;> simp
theorem swp_map {α β : Type} (f : α → β) {l : List α} {j : Nat} {x y : α} (hx : l[j]? = some x) (hy : l[j - 1]? = some y) : ((l.map f).set j (f y)).set (j - 1) (f x) = (swp l j).map f := by
 rw [swp, hx, hy]; simp [List.map_set]
theorem PickE.set1 {α : Type} {f : α → D} {l : List α} {y : α} {k : D → Prop} (i : Nat) (h : l[i]? = some y) {n n' : Nat} {z : D} (e : n = i) (e' : n' ≠ i) (r : k (f y)) : PickE ((l.map f).set n' z) n k :=
 ⟨f y, by rw [e, List.getElem?_set_ne e', List.getElem?_map, h]; rfl, r⟩
def ltS (a b : Sg) : Bool := decide (cfThin a b < 0)
theorem xv_insS (l : List Sg) (hl : 1 ≤ l.length ∧ l.length ≤ 1000) : EvX Tryz.prog 91 [.own 1000 5 (l.map sgD).length, .d (iD 0), .d (iD l.length), .d (.fn 41 [])] [(1000, .row 52 5 (l.map sgD) false)] (.tup []) [(1000, .row 52 5 ((insSort ltS l).map sgD) false)] := by
 refine evx_of_awp tysOk mixed (fn := Tryz.f91) Tryz.func91 rfl rfl rfl ?_
 conv => whnf
 repeat' (first|((with_reducible refine Wr.inr ?_ ?_);(first|omega|(simp;omega));conv=>whnf)|fail)
 refine LoopK.o2 (fun x : Nat × List Sg => 1 ≤ x.1 ∧ x.1 ≤ l.length ∧ x.2.length = l.length ∧ insOut ltS (l.length - x.1) x.1 x.2 = insSort ltS l) (fun x => [(8, .d (.int .i64 x.1))]) (fun x => [(1000, .row 52 5 (x.2.map sgD) false)]) (fun x => l.length - x.1) (1, l) ⟨by omega, by omega, rfl, rfl⟩ (by refine ⟨?_, ?_, rfl⟩<;>(repeat' (first|exact True.intro|exact rfl|(refine ⟨?_,?_⟩)|(intro h;cases h;done)|fail));done) ?_
 rintro ⟨i, m⟩ ⟨h1, h2, h3, h4⟩
 dsimp only at h1 h2 h3 h4 ⊢
 conv => whnf
 repeat' (first|((with_reducible refine Split.dec (fun _=>?_) (fun _=>?_))<;>conv=>whnf)|fail)
 ·refine LoopK.o2 (fun x : Nat × List Sg => x.1 ≤ i ∧ x.2.length = l.length ∧ insIn ltS x.1 x.2 = insIn ltS i m) (fun x => [(9, .d (.int .i64 x.1))]) (fun x => [(1000, .row 52 5 (x.2.map sgD) false)]) (fun x => x.1) (i, m) ⟨by omega, h3, rfl⟩ (by refine ⟨?_, ?_, rfl⟩<;>(repeat' (first|exact True.intro|exact rfl|(refine ⟨?_,?_⟩)|(intro h;cases h;done)|fail));done) ?_
  rintro ⟨j, k⟩ ⟨k1, k2, k3⟩
  dsimp only at k1 k2 k3 ⊢
  have e1 : (l.map sgD).length = l.length := List.length_map _
  have e2 : (k.map sgD).length = k.length := List.length_map _
  have e3 : (m.map sgD).length = m.length := List.length_map _
  cases j with
  | zero =>
   conv => whnf
   repeat' (first|((with_reducible refine Split.of_false ?_);conv=>whnf)|((with_reducible refine Split.is_false ?_ ?_);decide;conv=>whnf)|((with_reducible refine Wr.inr ?_ ?_);(first|omega|(simp;omega));conv=>whnf)|fail)
   refine Again.au (i + 1, k) ⟨by omega, by omega, k2, ?_⟩ (by dsimp only;omega) (by refine ⟨?_, ?_, rfl⟩<;>(repeat' (first|exact True.intro|exact rfl|(refine ⟨?_,?_⟩)|(intro h;cases h;done)|fail));done)
   rw [← h4, show l.length - i = (l.length - (i + 1)) + 1 by omega, insOut, ← k3, insIn]
  | succ q =>
   obtain ⟨x, hx⟩ := some_of_lt (l := k) (i := q + 1) (by omega)
   obtain ⟨y, hy⟩ := some_of_lt (l := k) (i := q) (by omega)
   have hc := ev_Thin1 x y
   have hs := swp_map sgD (j := q + 1) hx (by simpa using hy)
   rw [Nat.add_sub_cancel, show sgD y = D.agg [iD y.n, iD y.x, iD y.y, iD y.lo, iD y.hi] from rfl, show sgD x = D.agg [iD x.n, iD x.x, iD x.y, iD x.lo, iD x.hi] from rfl] at hs
   have hw : insIn ltS (q + 1) k = if ltS x y = true then insIn ltS q (swp k (q + 1)) else k := by rw [insIn, hx, hy]
   have hlt : ltS x y = decide (cfThin x y < 0) := rfl
   generalize cfThin x y = c at *
   conv => whnf
   repeat' (first|((refine PickE.set1 q hy (by omega) (by omega) ?_);conv=>whnf)|((refine PickE.map q hy (by omega) ?_);conv=>whnf)|((refine PickE.map (q + 1) hx (by omega) ?_);conv=>whnf)|((with_reducible refine Split.of_false ?_);conv=>whnf)|((with_reducible refine Split.dec (fun _=>?_) (fun _=>?_))<;>conv=>whnf)|((with_reducible refine Need.mk ?_ ?_);(first|omega|rfl|decide|(refine ⟨?_,?_⟩<;>simp<;>omega)|(simp;omega));conv=>whnf)|((with_reducible refine Wr.inr ?_ ?_);(first|omega|(simp;omega));conv=>whnf)|((with_reducible refine AltK.l ?_);(conv=>whnf);(first|(refine CallK.mk _ (hc) ?_));conv=>whnf)|(exfalso;first|omega|contradiction)|fail)
   ·rw [hlt, if_pos (by simpa using ‹c < 0›)] at hw
    refine Again.au (q, swp k (q + 1)) ⟨by omega, by rw [swp_len];exact k2, by rw [← hw, k3]⟩ (by dsimp only;omega) (by refine ⟨?_, ?_, rfl⟩<;>(repeat' (first|exact True.intro|exact rfl|(refine ⟨?_,?_⟩)|(intro h;cases h;done)|(refine int_congr ?_;(first|omega|(simp;omega)))|((first|refine own_congr ?_|refine int_congr ?_|skip);simp [hs];done)|fail));done)
   ·rw [hlt, if_neg (by simpa using ‹¬ c < 0›)] at hw
    refine Again.au (i + 1, k) ⟨by omega, by omega, k2, ?_⟩ (by dsimp only;omega) (by refine ⟨?_, ?_, rfl⟩<;>(repeat' (first|exact True.intro|exact rfl|(refine ⟨?_,?_⟩)|(intro h;cases h;done)|fail));done)
    rw [← h4, show l.length - i = (l.length - (i + 1)) + 1 by omega, insOut, ← k3, hw]
 ·have hi : i = l.length := by omega
  subst hi
  rw [Nat.sub_self] at h4
  simp only [insOut] at h4
  subst h4
  exact ⟨⟨[], (by refine ⟨?_, ?_, rfl⟩<;>(repeat' (first|exact True.intro|exact rfl|(refine ⟨?_,?_⟩)|(intro h;cases h;done)|fail));done)⟩, rfl⟩
def ltI (a b : Int) : Bool := decide (a < b)
theorem ev_Less (x y : Int) : Ev Tryz.prog 107 [iD x, iD y] (.bool (decide (x < y))) := by
 refine ev_of_awp tysOk mixed (fn := Tryz.f107) Tryz.func107 rfl rfl rfl ?_
 conv => whnf
 repeat' (first|((with_reducible refine Split.of_false ?_);conv=>whnf)|((with_reducible refine AltK.l ?_);(conv=>whnf);(first|(refine CallK.mk _ (ev_isNaN _) ?_));conv=>whnf)|fail)
 all_goals simp_all [retOf]
theorem xv_insI (l : List Int) (hl : 1 ≤ l.length ∧ l.length ≤ 1000) : EvX Tryz.prog 101 [.own 1000 1 (l.map iD).length, .d (iD 0), .d (iD l.length)] [(1000, .row 3 1 (l.map iD) false)] (.tup []) [(1000, .row 3 1 ((insSort ltI l).map iD) false)] := by
 refine evx_of_awp tysOk mixed (fn := Tryz.f101) Tryz.func101 rfl rfl rfl ?_
 conv => whnf
 repeat' (first|((with_reducible refine Wr.inr ?_ ?_);(first|omega|(simp;omega));conv=>whnf)|fail)
 refine LoopK.o2 (fun x : Nat × List Int => 1 ≤ x.1 ∧ x.1 ≤ l.length ∧ x.2.length = l.length ∧ insOut ltI (l.length - x.1) x.1 x.2 = insSort ltI l) (fun x => [(6, .d (.int .i64 x.1))]) (fun x => [(1000, .row 3 1 (x.2.map iD) false)]) (fun x => l.length - x.1) (1, l) ⟨by omega, by omega, rfl, rfl⟩ (by refine ⟨?_, ?_, rfl⟩<;>(repeat' (first|exact True.intro|exact rfl|(refine ⟨?_,?_⟩)|(intro h;cases h;done)|fail));done) ?_
 rintro ⟨i, m⟩ ⟨h1, h2, h3, h4⟩
 dsimp only at h1 h2 h3 h4 ⊢
 conv => whnf
 repeat' (first|((with_reducible refine Split.dec (fun _=>?_) (fun _=>?_))<;>conv=>whnf)|fail)
 ·refine LoopK.o2 (fun x : Nat × List Int => x.1 ≤ i ∧ x.2.length = l.length ∧ insIn ltI x.1 x.2 = insIn ltI i m) (fun x => [(7, .d (.int .i64 x.1))]) (fun x => [(1000, .row 3 1 (x.2.map iD) false)]) (fun x => x.1) (i, m) ⟨by omega, h3, rfl⟩ (by refine ⟨?_, ?_, rfl⟩<;>(repeat' (first|exact True.intro|exact rfl|(refine ⟨?_,?_⟩)|(intro h;cases h;done)|fail));done) ?_
  rintro ⟨j, k⟩ ⟨k1, k2, k3⟩
  dsimp only at k1 k2 k3 ⊢
  have e1 : (l.map iD).length = l.length := List.length_map _
  have e2 : (k.map iD).length = k.length := List.length_map _
  have e3 : (m.map iD).length = m.length := List.length_map _
  cases j with
  | zero =>
   conv => whnf
   repeat' (first|((with_reducible refine Split.of_false ?_);conv=>whnf)|((with_reducible refine Split.is_false ?_ ?_);decide;conv=>whnf)|((with_reducible refine Wr.inr ?_ ?_);(first|omega|(simp;omega));conv=>whnf)|fail)
   refine Again.au (i + 1, k) ⟨by omega, by omega, k2, ?_⟩ (by dsimp only;omega) (by refine ⟨?_, ?_, rfl⟩<;>(repeat' (first|exact True.intro|exact rfl|(refine ⟨?_,?_⟩)|(intro h;cases h;done)|fail));done)
   rw [← h4, show l.length - i = (l.length - (i + 1)) + 1 by omega, insOut, ← k3, insIn]
  | succ q =>
   obtain ⟨x, hx⟩ := some_of_lt (l := k) (i := q + 1) (by omega)
   obtain ⟨y, hy⟩ := some_of_lt (l := k) (i := q) (by omega)
   have hc := ev_Less x y
   have hs := swp_map iD (j := q + 1) hx (by simpa using hy)
   rw [Nat.add_sub_cancel] at hs
   have hw : insIn ltI (q + 1) k = if ltI x y = true then insIn ltI q (swp k (q + 1)) else k := by rw [insIn, hx, hy]
   have hlt : ltI x y = decide (x < y) := rfl
   conv => whnf
   repeat' (first|((refine PickE.set1 q hy (by omega) (by omega) ?_);conv=>whnf)|((refine PickE.map q hy (by omega) ?_);conv=>whnf)|((refine PickE.map (q + 1) hx (by omega) ?_);conv=>whnf)|((with_reducible refine Split.of_false ?_);conv=>whnf)|((with_reducible refine Split.dec (fun _=>?_) (fun _=>?_))<;>conv=>whnf)|((with_reducible refine Need.mk ?_ ?_);(first|omega|rfl|decide|(refine ⟨?_,?_⟩<;>simp<;>omega)|(simp;omega));conv=>whnf)|((with_reducible refine Wr.inr ?_ ?_);(first|omega|(simp;omega));conv=>whnf)|((with_reducible refine AltK.l ?_);(conv=>whnf);(first|(refine CallK.mk _ (hc) ?_));conv=>whnf)|(exfalso;first|omega|contradiction)|fail)
   ·rw [hlt, if_pos (by simpa using ‹x < y›)] at hw
    refine Again.au (q, swp k (q + 1)) ⟨by omega, by rw [swp_len];exact k2, by rw [← hw, k3]⟩ (by dsimp only;omega) (by refine ⟨?_, ?_, rfl⟩<;>(repeat' (first|exact True.intro|exact rfl|(refine ⟨?_,?_⟩)|(intro h;cases h;done)|(refine int_congr ?_;(first|omega|(simp;omega)))|((first|refine own_congr ?_|refine int_congr ?_|skip);simp [hs];done)|fail));done)
   ·rw [hlt, if_neg (by simpa using ‹¬ x < y›)] at hw
    refine Again.au (i + 1, k) ⟨by omega, by omega, k2, ?_⟩ (by dsimp only;omega) (by refine ⟨?_, ?_, rfl⟩<;>(repeat' (first|exact True.intro|exact rfl|(refine ⟨?_,?_⟩)|(intro h;cases h;done)|fail));done)
    rw [← h4, show l.length - i = (l.length - (i + 1)) + 1 by omega, insOut, ← k3, hw]
 ·have hi : i = l.length := by omega
  subst hi
  rw [Nat.sub_self] at h4
  simp only [insOut] at h4
  subst h4
  exact ⟨⟨[], (by refine ⟨?_, ?_, rfl⟩<;>(repeat' (first|exact True.intro|exact rfl|(refine ⟨?_,?_⟩)|(intro h;cases h;done)|fail));done)⟩, rfl⟩
end Go.Proofs.Tryz
end

section
open Go Go.Vm
namespace Go.Proofs
namespace Tryz
set_option maxRecDepth 20000
set_option maxHeartbeats 2000000
theorem xv_cloneS (l : List Sg) (h : 1 ≤ l.length ∧ l.length ≤ 1000000) : EvX Tryz.prog 39 [.d (.sl 5 (l.map sgD))] [] (.own 9 5 (l.map sgD).length) [(9, .row 52 5 (l.map sgD) false)] := by
 have hl : (l.map sgD).length = l.length := List.length_map _
 refine evx_of_awp tysOk mixed (fn := Tryz.f39) Tryz.func39 rfl rfl rfl ?_
 conv => whnf
 repeat' (first|((with_reducible refine Split.of_false ?_);conv=>whnf)|(with_reducible refine Split.neg ?_)|((with_reducible refine NilK.mk (fun _=>?_) ?_)<;>conv=>whnf)|((with_reducible refine Need.mk ?_ ?_);(first|omega|rfl|decide|(refine ⟨?_,?_⟩<;>simp<;>omega)|(simp;omega));conv=>whnf)|fail)
 ·rename_i hn; rw [hn] at hl; simp at hl; omega
 ·exact ⟨⟨[(9, some 7)], (by refine ⟨?_, ?_, rfl⟩<;>(repeat' (first|exact True.intro|exact rfl|(refine ⟨?_,?_⟩)|(intro h;cases h;done)|(refine own_congr ?_;simp;done)|fail));done)⟩, rfl⟩
theorem ev_IndexS (l : List Sg) (f : Nat) (caps : List D) (p : Sg → Bool) (hn : l.length ≤ 1000000) (hf : ∀ g ∈ l, Ev Tryz.prog f ([sgD g] ++ caps) (.bool (p g))) :
 Ev Tryz.prog 44 [.sl 5 (l.map sgD), .fn f caps] (.int .i64 (match l.findIdx? p with | some i => (i : Int) | none => -1)) := by
 have hlen : (l.map sgD).length = l.length := List.length_map _
 refine ev_of_awp tysOk mixed (fn := Tryz.f44) Tryz.func44 rfl rfl rfl ?_
 conv => whnf
 skip
 refine LoopK.o2 (fun i : Nat => i ≤ l.length ∧ ∀ g ∈ l.take i, p g = false) (fun i => [(8, .d (.int .i64 i))]) (fun _ => []) (fun i => l.length - i) 0 (by simp) (by refine ⟨?_, ?_, rfl⟩<;>(repeat' (first|exact True.intro|exact rfl|(refine ⟨?_,?_⟩)|fail));done) ?_
 rintro i ⟨hi, hp⟩
 have hn : (i : Int) < l.length → ∃ m, l[i]? = some m := fun h => some_of_lt (by omega)
 conv => whnf
 repeat' (first|((with_reducible refine Split.dec (fun _=>?_) (fun _=>?_))<;>conv=>whnf)|((with_reducible refine Need.mk ?_ ?_);(first|omega|rfl|decide|(refine ⟨?_,?_⟩<;>simp<;>omega)|(simp;omega));conv=>whnf)|fail)
 ·obtain ⟨g, hg⟩ := hn (by omega)
  have hf := hf g (List.mem_of_getElem? hg)
  conv => whnf
  repeat' (first|((refine PickE.map i hg (by omega) ?_);conv=>whnf)|fail)
  refine AltK.l ?_
  conv => whnf
  refine CallK.mk _ hf ?_
  conv => whnf
  refine Split.mk (fun hpg => ?_) (fun hpg => ?_)
  ·conv => whnf
   skip
   have e : l.findIdx? p = some i := by
    rw [List.findIdx?_eq_some_iff_getElem]
    refine ⟨by omega, by rw [(List.getElem?_eq_some_iff.1 hg).2]; exact hpg, fun j hj => ?_⟩
    have := hp l[j] (List.mem_take_iff_getElem.2 ⟨j, by omega, rfl⟩)
    rw [this]; decide
   rw [e]; rfl
  ·conv => whnf
   conv => whnf
   repeat' (first|((with_reducible refine Wr.inr ?_ ?_);(first|omega|(simp;omega));conv=>whnf)|fail)
   refine Again.au (i + 1) ⟨by omega, fun x hx => ?_⟩ (by omega) (by refine ⟨?_, ?_, rfl⟩<;>(repeat' (first|exact True.intro|exact rfl|(refine ⟨?_,?_⟩)|fail));done)
   rw [take_snoc hg] at hx
   rcases List.mem_append.1 hx with hx | hx
   ·exact hp x hx
   ·rw [List.mem_singleton.1 hx]; exact hpg
 ·have e : l.findIdx? p = none := by
   rw [List.findIdx?_eq_none_iff]
   intro x hx
   rw [← List.take_of_length_le (show l.length ≤ i by omega)] at hx
   exact hp x hx
  rw [e]; rfl
def sqS (s : Sg) (x y : Int) : Int := (s.x - x) * (s.x - x) + (s.y - y) * (s.y - y)
theorem ev_square (s : Sg) (x y : Int) (hs : -1000000 ≤ s.x ∧ s.x ≤ 1000000 ∧ -1000000 ≤ s.y ∧ s.y ≤ 1000000) (hx : -1000000 ≤ x ∧ x ≤ 1000000 ∧ -1000000 ≤ y ∧ y ≤ 1000000) : Ev Tryz.prog 46 [sgD s, iD x, iD y] (iD (sqS s x y)) := by
 have m1 := mul_bd (x := s.x - x) (y := s.x - x) (X := 2000000) (Y := 2000000) (by omega) (by omega)
 have m2 := mul_bd (x := s.y - y) (y := s.y - y) (X := 2000000) (Y := 2000000) (by omega) (by omega)
 refine ev_of_awp tysOk mixed (fn := Tryz.f46) Tryz.func46 rfl rfl rfl ?_
 conv => whnf
 repeat' (first|((with_reducible refine Wr.inr ?_ ?_);(first|omega|(simp;omega));conv=>whnf)|fail)
 rfl
def radB (r : Int) : Int := if outsideB r 0 2000000 then 2 else 0
theorem ev_checkRadius (r : Int) : Ev Tryz.prog 38 [iD r] (iD (radB r)) := by
 have h := ev_w1 r 0 2000000
 unfold radB
 generalize outsideB r 0 2000000 = b at *
 cases b
 ·refine ev_of_awp tysOk mixed (fn := Tryz.f38) Tryz.func38 rfl rfl rfl ?_
  conv => whnf
  repeat' (first|((with_reducible refine Split.of_false ?_);conv=>whnf)|(with_reducible refine Split.neg ?_)|((with_reducible refine AltK.l ?_);(conv=>whnf);(first|(refine CallK.mk _ (h) ?_));conv=>whnf)|fail)
  rfl
 ·refine ev_of_awp tysOk mixed (fn := Tryz.f38) Tryz.func38 rfl rfl rfl ?_
  conv => whnf
  repeat' (first|((with_reducible refine Split.of_true ?_);conv=>whnf)|(with_reducible refine Split.neg ?_)|((with_reducible refine AltK.l ?_);(conv=>whnf);(first|(refine CallK.mk _ (h) ?_));conv=>whnf)|fail)
  rfl
end Tryz
end Go.Proofs
end

section
namespace Go.Proofs.Tryz
open Go Go.Vm Go.Plain
set_option maxRecDepth 20000
set_option maxHeartbeats 8000000
/-! The reference: rows of numbers, numbers read. -/
theorem wr_u8 {n : Int} {k : Int → Prop} (h : 0 ≤ n) (h2 : n ≤ 255) (r : k n) : Wr .u8 n k := ⟨n, by
 simp only [IntKind.wrap, IntKind.bits, IntKind.signed]; simp; omega, r⟩
end Go.Proofs.Tryz
end

section
namespace Go.Proofs.Tryz
open Go Go.Vm
set_option maxRecDepth 20000
set_option maxHeartbeats 4000000
/-! sounding's examples: the sorts of few elements, Thin at the example. -/
def gdD (p : Int × Int) : D := .agg [iD p.1, iD p.2]
theorem ev_Thin2 (k s : Sg) (r : Int) (hk : -1000000 ≤ k.x ∧ k.x ≤ 1000000 ∧ -1000000 ≤ k.y ∧ k.y ≤ 1000000) (hs : -1000000 ≤ s.x ∧ s.x ≤ 1000000 ∧ -1000000 ≤ s.y ∧ s.y ≤ 1000000) (hr : 0 ≤ r ∧ r ≤ 2000000) :
 Ev Tryz.prog 45 [sgD k, .ref [iD s.n, iD s.x, iD s.y, iD s.lo, iD s.hi] 0, .ref [iD r] 0] (.bool (decide (sqS k s.x s.y ≤ r * r))) := by
 have h := ev_square k s.x s.y hk hs
 have m := mul_bd (x := r) (y := r) (X := 2000000) (Y := 2000000) (by omega) (by omega)
 refine ev_of_awp tysOk mixed (fn := Tryz.f45) Tryz.func45 rfl rfl rfl ?_
 conv => whnf
 repeat' (first|((with_reducible refine Wr.inr ?_ ?_);(first|omega|(simp;omega));conv=>whnf)|((with_reducible refine AltK.l ?_);(conv=>whnf);(first|(refine CallK.mk _ (h) ?_));conv=>whnf)|fail)
 rfl
def thinStep (r : Int) (st : List Sg × List (Int × Int)) (s : Sg) : List Sg × List (Int × Int) := match st.1.find? fun k => decide (sqS k s.x s.y ≤ r * r) with
 | none => (st.1 ++ [s], st.2)
 | some k => (st.1, st.2 ++ [(s.n, k.n)])
def thinO (r : Int) (o : List Sg) : List Sg × List (Int × Int) := o.foldl (thinStep r) ([], [])
theorem thinO_snoc (r : Int) {o : List Sg} {i : Nat} {s : Sg} (h : o[i]? = some s) : thinO r (o.take (i + 1)) = thinStep r (thinO r (o.take i)) s := by
 rw [thinO, take_snoc h, List.foldl_append]; rfl
theorem thinO_app (r : Int) (o : List Sg) (s : Sg) : thinO r (o ++ [s]) = thinStep r (thinO r o) s := by
 rw [thinO, List.foldl_append]; rfl
theorem list_snoc {α : Type} {P : List α → Prop} (h0 : P []) (h1 : ∀ l a, P l → P (l ++ [a])) (l : List α) : P l := by
 induction hn : l.length generalizing l with
 | zero => rw [List.eq_nil_of_length_eq_zero hn]; exact h0
 | succ n ih =>
  rcases nil_or_snoc l with rfl | ⟨r, a, rfl⟩
  ·exact h0
  ·exact h1 r a (ih r (by simpa using hn))
theorem thinO_sub (r : Int) (o : List Sg) : ∀ k ∈ (thinO r o).1, k ∈ o := by
 refine list_snoc (P := fun o => ∀ k ∈ (thinO r o).1, k ∈ o) (fun k h => (by cases h)) (fun o s ih k hk => ?_) o
 rw [thinO_app, thinStep] at hk
 rw [List.mem_append]
 split at hk
 ·rcases List.mem_append.1 hk with h | h
  ·exact .inl (ih k h)
  ·exact .inr h
 ·exact .inl (ih k hk)
theorem thinO_len (r : Int) (o : List Sg) : (thinO r o).1.length + (thinO r o).2.length = o.length := by
 refine list_snoc (P := fun o => (thinO r o).1.length + (thinO r o).2.length = o.length) rfl (fun o s ih => ?_) o
 rw [thinO_app, thinStep]
 split <;> simp <;> omega
theorem thinStep_none {r : Int} {kp : List Sg} {gs : List (Int × Int)} {s : Sg} (h : kp.findIdx? (fun k => decide (sqS k s.x s.y ≤ r * r)) = none) : thinStep r (kp, gs) s = (kp ++ [s], gs) := by
 have : kp.find? (fun k => decide (sqS k s.x s.y ≤ r * r)) = none := by
  rw [List.find?_eq_none]
  intro x hx
  rw [List.findIdx?_eq_none_iff.1 h x hx]; decide
 rw [thinStep]; simp only [this]
theorem thinStep_some {r : Int} {kp : List Sg} {gs : List (Int × Int)} {s : Sg} {j : Nat} (h : kp.findIdx? (fun k => decide (sqS k s.x s.y ≤ r * r)) = some j) : ∃ k, kp[j]? = some k ∧ thinStep r (kp, gs) s = (kp, gs ++ [(s.n, k.n)]) := by
 obtain ⟨h1, h2, h3⟩ := List.findIdx?_eq_some_iff_getElem.1 h
 refine ⟨kp[j], List.getElem?_eq_getElem h1, ?_⟩
 have : kp.find? (fun k => decide (sqS k s.x s.y ≤ r * r)) = some kp[j] := by
  rw [List.find?_eq_some_iff_getElem]
  exact ⟨h2, j, h1, rfl, fun i hi => by simpa using h3 i hi⟩
 rw [thinStep]; simp only [this]
theorem xv_pdqS (l : List Sg) (hl : 1 ≤ l.length ∧ l.length ≤ 12) (lim : Int) : EvX Tryz.prog 67 [.own 1000 5 (l.map sgD).length, .d (iD 0), .d (iD (l.map sgD).length), .d (iD lim), .d (.fn 41 [])] [(1000, .row 52 5 (l.map sgD) false)] (.tup []) [(1000, .row 52 5 ((insSort ltS l).map sgD) false)] := by
 have h := xv_insS l (by omega)
 have hll : (l.map sgD).length = l.length := List.length_map _
 rw [← hll] at h
 refine evx_of_awp tysOk mixed (fn := Tryz.f67) Tryz.func67 rfl rfl rfl ?_
 conv => whnf
 repeat' (first|((refine LoopK.unr 1 ?_);conv=>whnf)|((with_reducible refine Split.of_true ?_);conv=>whnf)|(with_reducible refine Split.neg ?_)|((with_reducible refine Split.eqz (fun _=>?_) (fun _=>?_))<;>conv=>whnf)|((with_reducible refine Split.dec (fun _=>?_) (fun _=>?_))<;>conv=>whnf)|((with_reducible refine Wr.inr ?_ ?_);(first|omega|(simp;omega));conv=>whnf)|((with_reducible refine AltK.r ?_);(conv=>whnf);(first|(refine CallX.mk _ _ (h) rfl ?_));conv=>whnf)|(exfalso;first|omega|contradiction)|fail)
 exact ⟨⟨[], (by refine ⟨?_, ?_, rfl⟩<;>(repeat' (first|exact True.intro|exact rfl|(refine ⟨?_,?_⟩)|(intro h;cases h;done)|fail));done)⟩, rfl⟩
theorem ev_Len64_4 : Ev Tryz.prog 100 [.int .u64 4] (iD 3) := by
 refine ev_of_awp tysOk mixed (fn := Tryz.f100) Tryz.func100 rfl rfl rfl ?_
 conv => whnf
 repeat' (first|((refine Wr.mk 3 (by decide +kernel) ?_);conv=>whnf)|((refine wr_u8 (by omega) (by omega) ?_);conv=>whnf)|((with_reducible refine Split.is_false ?_ ?_);decide;conv=>whnf)|((with_reducible refine Need.mk ?_ ?_);(first|omega|rfl|decide|(refine ⟨?_,?_⟩<;>simp<;>omega)|(simp;omega));conv=>whnf)|fail)
 rfl
theorem ev_Len_4 : Ev Tryz.prog 68 [.int .u64 4] (iD 3) := by
 have h := ev_Len64_4
 refine ev_of_awp tysOk mixed (fn := Tryz.f68) Tryz.func68 rfl rfl rfl ?_
 conv => whnf
 repeat' (first|((with_reducible refine Split.of_false ?_);conv=>whnf)|((with_reducible refine AltK.l ?_);(conv=>whnf);(first|(refine CallK.mk _ (h) ?_));conv=>whnf)|fail)
 all_goals first
  | rfl
  |(exfalso; omega)
theorem ev_Len64_3 : Ev Tryz.prog 100 [.int .u64 3] (iD 2) := by
 refine ev_of_awp tysOk mixed (fn := Tryz.f100) Tryz.func100 rfl rfl rfl ?_
 conv => whnf
 repeat' (first|((refine Wr.mk 2 (by decide +kernel) ?_);conv=>whnf)|((refine wr_u8 (by omega) (by omega) ?_);conv=>whnf)|((with_reducible refine Split.is_false ?_ ?_);decide;conv=>whnf)|((with_reducible refine Need.mk ?_ ?_);(first|omega|rfl|decide|(refine ⟨?_,?_⟩<;>simp<;>omega)|(simp;omega));conv=>whnf)|fail)
 rfl
theorem ev_Len_3 : Ev Tryz.prog 68 [.int .u64 3] (iD 2) := by
 have h := ev_Len64_3
 refine ev_of_awp tysOk mixed (fn := Tryz.f68) Tryz.func68 rfl rfl rfl ?_
 conv => whnf
 repeat' (first|((with_reducible refine Split.of_false ?_);conv=>whnf)|((with_reducible refine AltK.l ?_);(conv=>whnf);(first|(refine CallK.mk _ (h) ?_));conv=>whnf)|fail)
 all_goals first
  | rfl
  |(exfalso; omega)
theorem ev_Len64_1 : Ev Tryz.prog 100 [.int .u64 1] (iD 1) := by
 refine ev_of_awp tysOk mixed (fn := Tryz.f100) Tryz.func100 rfl rfl rfl ?_
 conv => whnf
 repeat' (first|((refine Wr.mk 1 (by decide +kernel) ?_);conv=>whnf)|((with_reducible refine Split.is_false ?_ ?_);decide;conv=>whnf)|((with_reducible refine Need.mk ?_ ?_);(first|omega|rfl|decide|(refine ⟨?_,?_⟩<;>simp<;>omega)|(simp;omega));conv=>whnf)|fail)
 rfl
theorem ev_Len_1 : Ev Tryz.prog 68 [.int .u64 1] (iD 1) := by
 have h := ev_Len64_1
 refine ev_of_awp tysOk mixed (fn := Tryz.f68) Tryz.func68 rfl rfl rfl ?_
 conv => whnf
 repeat' (first|((with_reducible refine Split.of_false ?_);conv=>whnf)|((with_reducible refine AltK.l ?_);(conv=>whnf);(first|(refine CallK.mk _ (h) ?_));conv=>whnf)|fail)
 all_goals first
  | rfl
  |(exfalso; omega)
theorem ev_Len (n : Nat) (k : Int) (h : (n = 4 ∧ k = 3) ∨ (n = 3 ∧ k = 2) ∨ (n = 1 ∧ k = 1)) : Ev Tryz.prog 68 [.int .u64 (n : Int)] (iD k) := by
 rcases h with ⟨rfl, rfl⟩ | ⟨rfl, rfl⟩ | ⟨rfl, rfl⟩
 ·exact ev_Len_4
 ·exact ev_Len_3
 ·exact ev_Len_1
theorem xv_SortS (l : List Sg) (hl : l.length = 4) : EvX Tryz.prog 40 [.own 1000 5 (l.map sgD).length, .d (.fn 41 [])] [(1000, .row 52 5 (l.map sgD) false)] (.tup []) [(1000, .row 52 5 ((insSort ltS l).map sgD) false)] := by
 have h := xv_pdqS l (by omega) 3
 have hll : (l.map sgD).length = l.length := List.length_map _
 have hL := ev_Len (l.map sgD).length 3 (.inl ⟨by omega, rfl⟩)
 refine evx_of_awp tysOk mixed (fn := Tryz.f40) Tryz.func40 rfl rfl rfl ?_
 conv => whnf
 repeat' (first|((with_reducible refine Wr.inu ?_ ?_);omega;conv=>whnf)|((with_reducible refine AltK.r ?_);(conv=>whnf);(first|(refine CallX.mk _ _ (h) rfl ?_));conv=>whnf)|((with_reducible refine AltK.l ?_);(conv=>whnf);(first|(refine CallK.mk _ (hL) ?_));conv=>whnf)|fail)
 exact ⟨⟨[], (by refine ⟨?_, ?_, rfl⟩<;>(repeat' (first|exact True.intro|exact rfl|(refine ⟨?_,?_⟩)|(intro h;cases h;done)|fail));done)⟩, rfl⟩
theorem xv_pdqI (l : List Int) (hl : 1 ≤ l.length ∧ l.length ≤ 12) (lim : Int) : EvX Tryz.prog 70 [.own 1000 1 (l.map iD).length, .d (iD 0), .d (iD (l.map iD).length), .d (iD lim)] [(1000, .row 3 1 (l.map iD) false)] (.tup []) [(1000, .row 3 1 ((insSort ltI l).map iD) false)] := by
 have h := xv_insI l (by omega)
 have hll : (l.map iD).length = l.length := List.length_map _
 rw [← hll] at h
 refine evx_of_awp tysOk mixed (fn := Tryz.f70) Tryz.func70 rfl rfl rfl ?_
 conv => whnf
 repeat' (first|((refine LoopK.unr 1 ?_);conv=>whnf)|((with_reducible refine Split.of_true ?_);conv=>whnf)|(with_reducible refine Split.neg ?_)|((with_reducible refine Split.eqz (fun _=>?_) (fun _=>?_))<;>conv=>whnf)|((with_reducible refine Split.dec (fun _=>?_) (fun _=>?_))<;>conv=>whnf)|((with_reducible refine Wr.inr ?_ ?_);(first|omega|(simp;omega));conv=>whnf)|((with_reducible refine AltK.r ?_);(conv=>whnf);(first|(refine CallX.mk _ _ (h) rfl ?_));conv=>whnf)|(exfalso;first|omega|contradiction)|fail)
 exact ⟨⟨[], (by refine ⟨?_, ?_, rfl⟩<;>(repeat' (first|exact True.intro|exact rfl|(refine ⟨?_,?_⟩)|(intro h;cases h;done)|fail));done)⟩, rfl⟩
theorem xv_SortI3 (l : List Int) (hl : l.length = 3) : EvX Tryz.prog 47 [.own 1000 1 (l.map iD).length] [(1000, .row 3 1 (l.map iD) false)] (.tup []) [(1000, .row 3 1 ((insSort ltI l).map iD) false)] := by
 have h := xv_pdqI l (by omega) 2
 have hll : (l.map iD).length = l.length := List.length_map _
 have hL := ev_Len (l.map iD).length 2 (.inr (.inl ⟨by omega, rfl⟩))
 refine evx_of_awp tysOk mixed (fn := Tryz.f47) Tryz.func47 rfl rfl rfl ?_
 conv => whnf
 repeat' (first|((with_reducible refine Wr.inu ?_ ?_);omega;conv=>whnf)|((with_reducible refine AltK.r ?_);(conv=>whnf);(first|(refine CallX.mk _ _ (h) rfl ?_));conv=>whnf)|((with_reducible refine AltK.l ?_);(conv=>whnf);(first|(refine CallK.mk _ (hL) ?_));conv=>whnf)|fail)
 exact ⟨⟨[], (by refine ⟨?_, ?_, rfl⟩<;>(repeat' (first|exact True.intro|exact rfl|(refine ⟨?_,?_⟩)|(intro h;cases h;done)|fail));done)⟩, rfl⟩
theorem xv_insG (p : Int × Int) : EvX Tryz.prog 110 [.own 1000 2 1, .d (iD 0), .d (iD 1), .d (.fn 49 [])] [(1000, .row 63 2 [gdD p] false)] (.tup []) [(1000, .row 63 2 [gdD p] false)] := by
 refine evx_of_awp tysOk mixed (fn := Tryz.f110) Tryz.func110 rfl rfl rfl ?_
 conv => whnf
 repeat' (first|((refine LoopK.unr 1 ?_);conv=>whnf)|((with_reducible refine Split.is_false ?_ ?_);decide;conv=>whnf)|((with_reducible refine Wr.inr ?_ ?_);(first|omega|(simp;omega));conv=>whnf)|fail)
 exact ⟨⟨[], (by refine ⟨?_, ?_, rfl⟩<;>(repeat' (first|exact True.intro|exact rfl|(refine ⟨?_,?_⟩)|(intro h;cases h;done)|fail));done)⟩, rfl⟩
theorem xv_pdqG (p : Int × Int) (lim : Int) : EvX Tryz.prog 71 [.own 1000 2 1, .d (iD 0), .d (iD 1), .d (iD lim), .d (.fn 49 [])] [(1000, .row 63 2 [gdD p] false)] (.tup []) [(1000, .row 63 2 [gdD p] false)] := by
 have h := xv_insG p
 refine evx_of_awp tysOk mixed (fn := Tryz.f71) Tryz.func71 rfl rfl rfl ?_
 conv => whnf
 repeat' (first|((refine LoopK.unr 1 ?_);conv=>whnf)|((with_reducible refine Split.is_true ?_ ?_);decide;conv=>whnf)|((with_reducible refine Wr.inr ?_ ?_);(first|omega|(simp;omega));conv=>whnf)|((with_reducible refine AltK.r ?_);(conv=>whnf);(first|(refine CallX.mk _ _ (h) rfl ?_));conv=>whnf)|fail)
 exact ⟨⟨[], (by refine ⟨?_, ?_, rfl⟩<;>(repeat' (first|exact True.intro|exact rfl|(refine ⟨?_,?_⟩)|(intro h;cases h;done)|fail));done)⟩, rfl⟩
theorem xv_SortG1 (p : Int × Int) : EvX Tryz.prog 48 [.own 1000 2 1, .d (.fn 49 [])] [(1000, .row 63 2 [gdD p] false)] (.tup []) [(1000, .row 63 2 [gdD p] false)] := by
 have h := xv_pdqG p 1
 have hL := ev_Len_1
 refine evx_of_awp tysOk mixed (fn := Tryz.f48) Tryz.func48 rfl rfl rfl ?_
 conv => whnf
 repeat' (first|((refine Wr.mk 1 rfl ?_);conv=>whnf)|((with_reducible refine AltK.r ?_);(conv=>whnf);(first|(refine CallX.mk _ _ (h) rfl ?_));conv=>whnf)|((with_reducible refine AltK.l ?_);(conv=>whnf);(first|(refine CallK.mk _ (hL) ?_));conv=>whnf)|fail)
 exact ⟨⟨[], (by refine ⟨?_, ?_, rfl⟩<;>(repeat' (first|exact True.intro|exact rfl|(refine ⟨?_,?_⟩)|(intro h;cases h;done)|fail));done)⟩, rfl⟩
def exS : List Sg := [⟨1, 0, 0, -510, -500⟩, ⟨2, 30, 40, -480, -470⟩, ⟨3, 60, 80, -460, -450⟩, ⟨4, 900, 0, -900, -890⟩]
theorem ev_example : Ev Tryz.prog 18 [] (.sl 5 (exS.map sgD)) := by
 refine ev_of_awp tysOk mixed (fn := Tryz.f18) Tryz.func18 rfl rfl rfl ?_
 conv => whnf
 skip
 rfl
def exO : List Sg := [⟨3, 60, 80, -460, -450⟩, ⟨2, 30, 40, -480, -470⟩, ⟨1, 0, 0, -510, -500⟩, ⟨4, 900, 0, -900, -890⟩]
theorem exS_ins : insSort ltS exS = exO := by decide
theorem exO_thin : thinO 50 exO = ([⟨3, 60, 80, -460, -450⟩, ⟨1, 0, 0, -510, -500⟩, ⟨4, 900, 0, -900, -890⟩], [(2, 3)]) := by decide
theorem ex_ins3 : insSort ltI [3, 1, 4] = [1, 3, 4] := by decide
theorem ev_ThinEx : Ev Tryz.prog 17 [.sl 5 (exS.map sgD), iD 50] (.tup [.agg [.sl 1 ([1, 3, 4].map iD), .sl 2 [gdD (2, 3)]], .int .i64 0]) := by
 have h1 := ev_CheckS exS
 rw [show chkErr sgB Sg.n exS = 0 by decide] at h1
 have h2 := ev_checkRadius 50
 rw [show radB 50 = 0 by decide] at h2
 have h3 := EvX.new1 (xs := [.sl 5 (exS.map sgD)]) (xv_cloneS exS (by decide)) 27
 have h4 := EvX.at1t (xs := [.fn 41 []]) (xv_SortS exS rfl) 27
 rw [exS_ins] at h4
 have ho : ∀ g ∈ exO, -1000000 ≤ g.x ∧ g.x ≤ 1000000 ∧ -1000000 ≤ g.y ∧ g.y ≤ 1000000 := by decide
 have hol : exO.length = 4 := rfl
 have hfin := exO_thin
 refine ev_of_awp tysOk mixed (fn := Tryz.f17) Tryz.func17 rfl rfl rfl ?_
 conv => whnf
 repeat' (first|((with_reducible refine Split.is_false ?_ ?_);decide;conv=>whnf)|((with_reducible refine AltK.r ?_);(conv=>whnf);(first|(refine CallX.mk _ _ (h3) rfl ?_)|(refine CallX.mk _ _ (h4) rfl ?_));conv=>whnf)|((with_reducible refine AltK.l ?_);(conv=>whnf);(first|(refine CallK.mk _ (h1) ?_)|(refine CallK.mk _ (h2) ?_));conv=>whnf)|fail)
 have hr : (0 : Int) ≤ 50 ∧ (50 : Int) ≤ 2000000 := by decide
 generalize exO = o at *
 have eo : (o.map sgD).length = o.length := List.length_map _
 refine LoopK.o2 (fun i : Nat => i ≤ o.length) (fun i => [(9, .own 200 5 ((thinO 50 (o.take i)).1.map sgD).length), (32, .d (.int .i64 i))])
  (fun i => [(3, .var [.d (iD 50)] true), (200, .row 52 5 ((thinO 50 (o.take i)).1.map sgD) true), (10, .var [.own 201 1 (((thinO 50 (o.take i)).1.map Sg.n).map iD).length, .own 202 2 ((thinO 50 (o.take i)).2.map gdD).length] false),
    (201, .row 3 1 (((thinO 50 (o.take i)).1.map Sg.n).map iD) false), (202, .row 63 2 ((thinO 50 (o.take i)).2.map gdD) false)]) (fun i => o.length - i) 0 (by simp) (by refine ⟨?_, ?_, rfl⟩<;>(repeat' (first|exact True.intro|exact rfl|(refine ⟨?_,?_⟩)|(intro h;cases h;done)|fail));done) ?_
 rintro i hi
 have hnx : (i : Int) < o.length → ∃ m, o[i]? = some m := fun h => some_of_lt (by omega)
 have hki := thinO_sub 50 (o.take i)
 have hgl := thinO_len 50 (o.take i)
 rw [List.length_take] at hgl
 conv => whnf
 repeat' (first|((with_reducible refine Split.dec (fun _=>?_) (fun _=>?_))<;>conv=>whnf)|((with_reducible refine Need.mk ?_ ?_);(first|omega|rfl|decide|(refine ⟨?_,?_⟩<;>simp<;>omega)|(simp;omega));conv=>whnf)|fail)
 ·obtain ⟨s, hs⟩ := hnx (by omega)
  have hst := thinO_snoc 50 hs
  have hsp := ho s (List.mem_of_getElem? hs)
  clear hfin
  generalize thinO 50 (o.take i) = q at *
  obtain ⟨kp, gs⟩ := q
  dsimp only at hki hgl hst ⊢
  have h5 := ev_IndexS kp 45 [.ref [iD s.n, iD s.x, iD s.y, iD s.lo, iD s.hi] 0, .ref [iD 50] 0] (fun k => decide (sqS k s.x s.y ≤ 50 * 50)) (by omega) (fun k hk => ev_Thin2 k s 50 (ho k (List.mem_of_mem_take (hki k hk))) hsp hr)
  cases hf : kp.findIdx? fun k => decide (sqS k s.x s.y ≤ 50 * 50) with
  | none =>
   rw [thinStep_none hf] at hst
   rw [hf] at h5
   simp only at h5
   conv => whnf
   repeat' (first|((refine PickE.map i hs (by omega) ?_);conv=>whnf)|((with_reducible refine Split.is_true ?_ ?_);decide;conv=>whnf)|((with_reducible refine Need.mk ?_ ?_);(first|omega|rfl|decide|(refine ⟨?_,?_⟩<;>simp<;>omega)|(simp;omega));conv=>whnf)|((with_reducible refine Wr.inr ?_ ?_);(first|omega|(simp;omega));conv=>whnf)|((with_reducible refine AltK.l ?_);(conv=>whnf);(first|(refine CallK.mk _ (h5) ?_));conv=>whnf)|fail)
   refine Again.au (i + 1) (by omega) (by omega) (by refine ⟨?_, ?_, rfl⟩<;>(repeat' (first|exact True.intro|exact rfl|(refine ⟨?_,?_⟩)|(intro h;cases h;done)|(intro h;exact h)|((first|refine own_congr ?_|refine int_congr ?_|skip);simp [hst,sgD];done)|fail));done)
  | some j =>
   obtain ⟨k, hk, hst2⟩ := thinStep_some (gs := gs) hf
   rw [hst2] at hst
   have hjl : j < kp.length := (List.getElem?_eq_some_iff.1 hk).1
   rw [hf] at h5
   simp only at h5
   conv => whnf
   repeat' (first|((refine PickE.map j hk (by omega) ?_);conv=>whnf)|((refine PickE.map i hs (by omega) ?_);conv=>whnf)|((with_reducible refine Split.dec (fun _=>?_) (fun _=>?_))<;>conv=>whnf)|((with_reducible refine Need.mk ?_ ?_);(first|omega|rfl|decide|(refine ⟨?_,?_⟩<;>simp<;>omega)|(simp;omega));conv=>whnf)|((with_reducible refine Wr.inr ?_ ?_);(first|omega|(simp;omega));conv=>whnf)|((with_reducible refine AltK.l ?_);(conv=>whnf);(first|(refine CallK.mk _ (h5) ?_));conv=>whnf)|(exfalso;first|omega|contradiction)|fail)
   refine Again.au (i + 1) (by omega) (by omega) (by refine ⟨?_, ?_, rfl⟩<;>(repeat' (first|exact True.intro|exact rfl|(refine ⟨?_,?_⟩)|(intro h;cases h;done)|(intro h;exact h)|((first|refine own_congr ?_|refine int_congr ?_|skip);simp [hst,gdD];done)|fail));done)
 ·have ei : i = o.length := by omega
  subst ei
  rw [List.take_length] at hgl ⊢
  rw [hfin]
  have h6 := EvX.at1t (xs := []) (xv_SortI3 [3, 1, 4] rfl) 201
  rw [ex_ins3] at h6
  have h7 := EvX.at1t (xs := [.fn 49 []]) (xv_SortG1 (2, 3)) 202
  conv => whnf
  repeat' (first|((with_reducible refine Need.mk ?_ ?_);(first|omega|rfl|decide|(refine ⟨?_,?_⟩<;>simp<;>omega)|(simp;omega));conv=>whnf)|((with_reducible refine AltK.r ?_);(conv=>whnf);(first|(refine CallX.mk _ _ (h6) rfl ?_)|(refine CallX.mk _ _ (h7) rfl ?_));conv=>whnf)|fail)
  rfl
def pierS : Ga := ⟨⟨#[112, 105, 101, 114]⟩, 0, 5, [⟨0, 100⟩, ⟨20, 100⟩]⟩
def rawS : Rw := ⟨7, 10, 0, 0, 500, 40, 10⟩
theorem pier_red : rdE [pierS] rawS = (⟨7, 0, 0, -455, -425⟩, 0) := by decide
theorem ev_awake3 : Ev Tryz.prog 5 [] (.bool true) := by
 have h := ev_Reduce [pierS] rawS
 rw [pier_red] at h
 have h2 := ev_ThinEx
 refine ev_of_awp tysOk mixed (fn := Tryz.f5) Tryz.func5 rfl rfl rfl ?_
 conv => whnf
 repeat' (first|((refine PickE.mk _ rfl ?_);conv=>whnf)|((with_reducible refine Split.is_true ?_ ?_);decide;conv=>whnf)|((with_reducible refine Need.mk ?_ ?_);(first|omega|rfl|decide|(refine ⟨?_,?_⟩<;>simp<;>omega)|(simp;omega));conv=>whnf)|((with_reducible refine AltK.l ?_);(conv=>whnf);(first|(refine CallK.mk _ (h) ?_)|(refine CallK.mk _ (ev_example) ?_)|(refine CallK.mk _ (h2) ?_)|(refine CallK.mk _ (ev_Ints [1,3,4] [1,3,4] (by simp)) ?_));conv=>whnf)|fail)
 rfl
end Go.Proofs.Tryz
end
