/- Texts TyN DqA TyW TwZ DqZ, joined; what is not needed is left out. -/
import Derived.Test.YtjjhgampfhlmbaaGreatDoorMgI
import Derived.Test.YtjjhgampfhlmbaaGreatDoorProg
import Derived.Shelf.Lays
import Derived.Lib.AtoiAllCases
import Derived.Lib.MakeNoZero
import Derived.Laws.IdiomCopy
import Derived.Lib.CutLaws
import Derived.Test.YtjjhgampfhlmbaaGreatDoorMgH
import Derived.Shelf.Strings.Builder1
import Derived.Lib.ItoaLen
import Derived.Lib.AtoiTie
import Derived.Lib.SplitLaws
import Derived.Shelf.LaysM
import Derived.Shelf.LaysC
import Derived.Test.YtjjhgampfhlmbaaGreatDoorMgJ
import Derived.Test.YtjjhgampfhlmbaaGreatDoorMpc
section
namespace Go.Proofs.Tryz
open Go Go.Vm Go.Plain
set_option maxRecDepth 20000
set_option maxHeartbeats 4000000
theorem xv_pline (p : Pt) (h : PitOk p) : EvX Tryz.prog 21 [.own 1000 1 2, .own 1001 1 (4 + (p.cls.map iD).length)] [(1001, .row 3 1 ([iD p.area, iD p.base, iD p.top, iD p.price] ++ p.cls.map iD) false), (1000, .row 9 1 [wD sPit, .str p.name] false)] (.d (wD (joinW (pitW p) ++ [10]))) [(1001, .gone), (1000, .gone)] := by
 have h1 := nm_le h.nm
 have hx := xv_dline [sPit, p.name.data.toList] ([p.area, p.base, p.top, p.price] ++ p.cls) (by simp) (by have := h.cl; simp; omega) (fun w hw => by
  rcases List.mem_cons.1 hw with rfl | hw
  ·decide
  ·rw [List.mem_singleton] at hw; rw [hw, ← ba_size]; omega) (fun n hn => by have := zB_bd (h.z n hn); omega)
 have e : wD p.name.data.toList = .str p.name := congrArg D.str (ofL_data p.name)
 have e2 : ([p.area, p.base, p.top, p.price] ++ p.cls).length = 4 + (p.cls.map iD).length := by simp; omega
 rw [e2, List.map_append (f := iD)] at hx
 have e3 : [sPit, p.name.data.toList].map wD = [wD sPit, .str p.name] := by rw [List.map_cons, List.map_cons, List.map_nil, e]
 rw [e3] at hx
 exact hx
theorem xv_bline (f : Bk) (c : Int) (h : BulkOk f c) : EvX Tryz.prog 21 [.own 1000 1 2, .own 1001 1 3] [(1001, .row 3 1 [iD f.num, iD f.den, iD c] false), (1000, .row 9 1 [wD sBulk, .str f.soil] false)] (.d (wD (joinW (bulkW f c) ++ [10]))) [(1001, .gone), (1000, .gone)] := by
 have h1 := nm_le h.nm
 have hx := xv_dline [sBulk, f.soil.data.toList] [f.num, f.den, c] (by simp) (by simp) (fun w hw => by
  rcases List.mem_cons.1 hw with rfl | hw
  ·decide
  ·rw [List.mem_singleton] at hw; rw [hw, ← ba_size]; omega) (fun n hn => by have := zB_bd (h.z n hn); omega)
 have e : wD f.soil.data.toList = .str f.soil := congrArg D.str (ofL_data f.soil)
 have e3 : [sBulk, f.soil.data.toList].map wD = [wD sBulk, .str f.soil] := by rw [List.map_cons, List.map_cons, List.map_nil, e]
 rw [e3] at hx
 exact hx
theorem ev_Print9 (y : Yd) (h0 : ydErr y = 0) (hy : PrOk y) : Ev Tryz.prog 6 [ydD y] (.tup [wD (ydT y), .int .i64 0]) := by
 have hC := ev_DCheck y (fun p hp => by have := (hy.pit p hp).cl; omega)
 rw [h0] at hC
 have h1 := hy.pits
 have h2 := hy.bulk
 have h3 := hy.carL
 have h4 := hy.deps
 have hlp : (y.pits.map ptD).length = y.pits.length := List.length_map _
 have hlb : (y.bulk.map bkD).length = y.bulk.length := List.length_map _
 have hld : (y.deps.map dpD).length = y.deps.length := List.length_map _
 have hlc : (y.carry.map iD).length = y.carry.length := List.length_map _
 have hw : ∀ v t (s : ByteArray), t.size + s.size ≤ 140737488355328 → EvX Tryz.prog 20 [.ptr 5 0, .d (.str s)] [(5, .bld v 69 5 t)] (.tup [.d (.int .i64 s.size), .d (.ifc false)]) [(5, .bld (v + 1) 69 5 (t ++ s))] := fun v t s h => (xv_ws v t s h).rn [(1000, 5)] rfl
 have hs : ∀ v s, EvX Tryz.prog 23 [.ptr 5 0] [(5, .bld v 69 5 s)] (.d (.str s)) [(5, .gone)] := fun v s => (xv_str v s).rn [(1000, 5)] rfl
 refine ev_of_awp tysOk mixed (fn := Tryz.f6) Tryz.func6 rfl rfl rfl ?_
 conv => whnf
 repeat' (first|((with_reducible refine Split.is_false ?_ ?_);decide;conv=>whnf)|((with_reducible refine AltK.l ?_);(conv=>whnf);(first|(refine CallK.mk _ (hC) ?_));conv=>whnf)|fail)
 refine LoopK.o2 (fun q : Nat × List UInt8 => q.1 ≤ y.pits.length ∧ catL q.2 ((y.pits.drop q.1).map pitW) = catL [] (y.pits.map pitW) ∧ q.2.length ≤ 1000 * q.1) (fun q => [(20, .d (.int .i64 q.1))]) (fun q => [(5, .bld 0 69 5 (ofL q.2))]) (fun q => y.pits.length - q.1) (0, [])
  ⟨Nat.zero_le _, rfl, Nat.zero_le _⟩ (by refine ⟨?_, ?_, rfl⟩<;>(repeat' (first|exact True.intro|exact rfl|(refine ⟨?_,?_⟩)|(intro h;cases h;done)|fail));done) ?_
 rintro ⟨i, t⟩ ⟨hi, hI, htl⟩
 have hi : i ≤ y.pits.length := hi
 have htl : t.length ≤ 1000 * i := htl
 have hts : (ofL (i, t).2).size ≤ 1000 * i := by rw [ofL_size]; exact htl
 by_cases hil : i < y.pits.length
 ·obtain ⟨p, hx⟩ := some_of_lt (l := y.pits) (i := i) hil
  have gp := hy.pit p (List.mem_of_getElem? hx)
  have hL := (xv_pline p gp).rn [(1000, 26), (1001, 38)] rfl
  have hpl := pit_len p (nm_le gp.nm) gp.cl (fun n hn => zB_bd (gp.z n hn))
  have hcl := gp.cl
  have hcm : (p.cls.map iD).length = p.cls.length := List.length_map _
  have hps : (ofL (joinW (pitW p) ++ [10])).size ≤ 900 := by rw [ofL_size]; exact hpl
  have e1 : ofL t ++ ofL (joinW (pitW p) ++ [10]) = ofL (t ++ (joinW (pitW p) ++ [10])) := ofL_app _ _
  have hI : catL t ((y.pits.drop i).map pitW) = catL [] (y.pits.map pitW) := hI
  rw [drop_of hx] at hI
  conv => whnf
  repeat' (first|((refine PickE.map i hx (by omega) ?_);conv=>whnf)|((with_reducible refine Split.dec (fun _=>?_) (fun _=>?_))<;>conv=>whnf)|((with_reducible refine Need.mk ?_ ?_);(first|omega|rfl|decide|(refine ⟨?_,?_⟩<;>simp<;>omega)|(simp;omega));conv=>whnf)|((with_reducible refine Wr.inr ?_ ?_);(first|omega|(simp;omega));conv=>whnf)|((with_reducible refine AltK.r ?_);(conv=>whnf);(first|(refine CallX.mk _ _ (hL) rfl ?_)|(refine CallX.mk _ _ (hw _ _ _ (by omega)) rfl ?_));conv=>whnf)|(exfalso;first|omega|contradiction)|fail)
  have hmp1 := congrArg (fun x => Bx.bld 0 69 5 x) e1
  exact Again.au (i + 1, t ++ (joinW (pitW p) ++ [10])) ⟨by show i + 1 ≤ _;omega, hI, by show (t ++ (joinW (pitW p) ++ [10])).length ≤ 1000 * (i + 1);rw [List.length_append];omega⟩ (by show y.pits.length - (i + 1) < y.pits.length - i;omega) (by refine ⟨?_, ?_, rfl⟩<;>(repeat' (first|exact True.intro|exact rfl|(refine ⟨?_,?_⟩)|(intro h;cases h;done)|fail));done)
 ·have hte : t = catL [] (y.pits.map pitW) := by
   rw [← hI]; show t = catL t ((y.pits.drop i).map pitW)
   rw [List.drop_eq_nil_of_le (by omega)]; rfl
  have htl : t.length ≤ 8000 := by omega
  conv => whnf
  repeat' (first|((with_reducible refine Split.dec (fun _=>?_) (fun _=>?_))<;>conv=>whnf)|((with_reducible refine Need.mk ?_ ?_);(first|omega|rfl|decide|(refine ⟨?_,?_⟩<;>simp<;>omega)|(simp;omega));conv=>whnf)|(exfalso;first|omega|contradiction)|fail)
  clear hI hts
  refine LoopK.o2 (fun q : Nat × List UInt8 => q.1 ≤ y.bulk.length ∧ catL q.2 (List.zipWith bulkW (y.bulk.drop q.1) (y.carry.drop q.1)) = catL t (List.zipWith bulkW y.bulk y.carry) ∧ q.2.length ≤ 8000 + 1000 * q.1) (fun q => [(45, .d (.int .i64 q.1))]) (fun q => [(5, .bld 0 69 5 (ofL q.2))]) (fun q => y.bulk.length - q.1) (0, t)
   ⟨Nat.zero_le _, rfl, by show t.length ≤ _;omega⟩ (by refine ⟨?_, ?_, rfl⟩<;>(repeat' (first|exact True.intro|exact rfl|(refine ⟨?_,?_⟩)|(intro h;cases h;done)|fail));done) ?_
  rintro ⟨j, s⟩ ⟨hj, hJ, hsl⟩
  have hj : j ≤ y.bulk.length := hj
  have hsl : s.length ≤ 8000 + 1000 * j := hsl
  have hss : (ofL (j, s).2).size ≤ 8000 + 1000 * j := by rw [ofL_size]; exact hsl
  by_cases hjl : j < y.bulk.length
  ·obtain ⟨b, hx⟩ := some_of_lt (l := y.bulk) (i := j) hjl
   obtain ⟨c, hz⟩ := some_of_lt (l := y.carry) (i := j) (by omega)
   have gb := hy.bk j b c hx hz
   have hL := (xv_bline b c gb).rn [(1000, 52), (1001, 64)] rfl
   have hpl := bulk_len b c (nm_le gb.nm) (fun n hn => zB_bd (gb.z n hn))
   have hps : (ofL (joinW (bulkW b c) ++ [10])).size ≤ 900 := by rw [ofL_size]; exact hpl
   have e1 : ofL s ++ ofL (joinW (bulkW b c) ++ [10]) = ofL (s ++ (joinW (bulkW b c) ++ [10])) := ofL_app _ _
   have hJ : catL s (List.zipWith bulkW (y.bulk.drop j) (y.carry.drop j)) = catL t (List.zipWith bulkW y.bulk y.carry) := hJ
   rw [drop_of hx, drop_of hz] at hJ
   conv => whnf
   repeat' (first|((refine PickE.map j hz (by omega) ?_);conv=>whnf)|((refine PickE.map j hx (by omega) ?_);conv=>whnf)|((with_reducible refine Split.dec (fun _=>?_) (fun _=>?_))<;>conv=>whnf)|((with_reducible refine Need.mk ?_ ?_);(first|omega|rfl|decide|(refine ⟨?_,?_⟩<;>simp<;>omega)|(simp;omega));conv=>whnf)|((with_reducible refine Wr.inr ?_ ?_);(first|omega|(simp;omega));conv=>whnf)|((with_reducible refine AltK.r ?_);(conv=>whnf);(first|(refine CallX.mk _ _ (hL) rfl ?_)|(refine CallX.mk _ _ (hw _ _ _ (by omega)) rfl ?_));conv=>whnf)|(exfalso;first|omega|contradiction)|fail)
   exact Again.au (j + 1, s ++ (joinW (bulkW b c) ++ [10])) ⟨by show j + 1 ≤ _;omega, hJ, by show (s ++ (joinW (bulkW b c) ++ [10])).length ≤ 8000 + 1000 * (j + 1);rw [List.length_append];omega⟩ (by show y.bulk.length - (j + 1) < y.bulk.length - j;omega) (by refine ⟨?_, ?_, rfl⟩<;>(repeat' (first|exact True.intro|exact rfl|(refine ⟨?_,?_⟩)|(intro h;cases h;done)|fail));done)
  ·have hse : s = catL t (List.zipWith bulkW y.bulk y.carry) := by
    rw [← hJ]; show s = catL s (List.zipWith bulkW (y.bulk.drop j) (y.carry.drop j))
    rw [List.drop_eq_nil_of_le (by omega)]; rfl
   have hsl : s.length ≤ 28000 := by omega
   have hall : catL s (y.deps.map depW) = ydT y := by rw [hse, catL_app, hte, catL_app]; rfl
   conv => whnf
   repeat' (first|((with_reducible refine Split.dec (fun _=>?_) (fun _=>?_))<;>conv=>whnf)|((with_reducible refine Need.mk ?_ ?_);(first|omega|rfl|decide|(refine ⟨?_,?_⟩<;>simp<;>omega)|(simp;omega));conv=>whnf)|(exfalso;first|omega|contradiction)|fail)
   clear hJ hss hse hte
   refine LoopK.o2 (fun q : Nat × List UInt8 => q.1 ≤ y.deps.length ∧ catL q.2 ((y.deps.drop q.1).map depW) = ydT y ∧ q.2.length ≤ 28000 + 1000 * q.1) (fun q => [(71, .d (.int .i64 q.1))]) (fun q => [(5, .bld 0 69 5 (ofL q.2))]) (fun q => y.deps.length - q.1) (0, s)
    ⟨Nat.zero_le _, hall, by show s.length ≤ _;omega⟩ (by refine ⟨?_, ?_, rfl⟩<;>(repeat' (first|exact True.intro|exact rfl|(refine ⟨?_,?_⟩)|(intro h;cases h;done)|fail));done) ?_
   rintro ⟨k, u⟩ ⟨hk, hK, hul⟩
   have hk : k ≤ y.deps.length := hk
   have hul : u.length ≤ 28000 + 1000 * k := hul
   have hus : (ofL (k, u).2).size ≤ 28000 + 1000 * k := by rw [ofL_size]; exact hul
   have hK : catL u ((y.deps.drop k).map depW) = ydT y := hK
   by_cases hkl : k < y.deps.length
   ·obtain ⟨d, hx⟩ := some_of_lt (l := y.deps) (i := k) hkl
    have gd := hy.dp d (List.mem_of_getElem? hx)
    have g1 := nm_le gd.nm
    have g2 := zB_bd gd.zb
    have g3 := zB_bd gd.zv
    have hI1 := ev_Itoa d.batch (by omega)
    have hI2 := ev_Itoa d.vol (by omega)
    have s1 := itoaB_size d.batch (by omega)
    have s2 := itoaB_size d.vol (by omega)
    have hpl := dep_len d g1 g2 g3
    rw [drop_of hx] at hK
    have hus2 : (ofL u).size ≤ 28000 + 1000 * k := hus
    have z1 : (⟨#[100, 101, 112, 111, 115, 105, 116, 32]⟩ : ByteArray).size = 8 := rfl
    have z2 : (⟨#[32]⟩ : ByteArray).size = 1 := rfl
    have z3 : (⟨#[10]⟩ : ByteArray).size = 1 := rfl
    have e1 : ofL u ++ ((⟨#[100, 101, 112, 111, 115, 105, 116, 32]⟩ : ByteArray) ++ itoaB d.batch ++ ⟨#[32]⟩ ++ d.pit ++ ⟨#[32]⟩ ++ itoaB d.vol ++ ⟨#[10]⟩) = ofL (u ++ (joinW (depW d) ++ [10])) := ba_ext (by
     simp only [ba_app, ofL_list, itoaB_list, depW, joinW, sDep, List.append_assoc, List.cons_append, List.nil_append])
    conv => whnf
    repeat' (first|((refine PickE.map k hx (by omega) ?_);conv=>whnf)|((with_reducible refine Split.dec (fun _=>?_) (fun _=>?_))<;>conv=>whnf)|((with_reducible refine Need.mk ?_ ?_);(first|omega|rfl|decide|(refine ⟨?_,?_⟩<;>simp<;>omega)|(simp;omega));conv=>whnf)|((with_reducible refine Wr.inr ?_ ?_);(first|omega|(simp;omega));conv=>whnf)|((with_reducible refine AltK.r ?_);(conv=>whnf);(first|(refine CallX.mk _ _ (hw _ _ _ (by simp only [ByteArray.size_append];omega)) rfl ?_));conv=>whnf)|((with_reducible refine AltK.l ?_);(conv=>whnf);(first|(refine CallK.mk _ (hI1) ?_)|(refine CallK.mk _ (hI2) ?_));conv=>whnf)|(exfalso;first|omega|contradiction)|fail)
    all_goals first
     |(exfalso; omega)
     | exact Again.au (k + 1, u ++ (joinW (depW d) ++ [10])) ⟨by show k + 1 ≤ _;omega, hK, by show (u ++ (joinW (depW d) ++ [10])).length ≤ 28000 + 1000 * (k + 1);rw [List.length_append];omega⟩ (by show y.deps.length - (k + 1) < y.deps.length - k;omega) (by refine ⟨?_, ?_, rfl⟩<;>(repeat' (first|exact True.intro|exact rfl|(refine ⟨?_,?_⟩)|(intro h;cases h;done)|((first|refine own_congr ?_|refine int_congr ?_|skip);simp [e1];done)|fail));done)
   ·conv => whnf
    repeat' (first|((with_reducible refine Split.dec (fun _=>?_) (fun _=>?_))<;>conv=>whnf)|((with_reducible refine Need.mk ?_ ?_);(first|omega|rfl|decide|(refine ⟨?_,?_⟩<;>simp<;>omega)|(simp;omega));conv=>whnf)|((with_reducible refine AltK.r ?_);(conv=>whnf);(first|(refine CallX.mk _ _ (hs _ _) rfl ?_));conv=>whnf)|(exfalso;first|omega|contradiction)|fail)
    have hue : u = ydT y := by
     rw [← hK, List.drop_eq_nil_of_le (by omega)]; rfl
    rw [← hue]; rfl
end Go.Proofs.Tryz
end

section
namespace Go.Proofs.Tryz
open Go Go.Vm
set_option maxRecDepth 20000
set_option maxHeartbeats 8000000
theorem ev_zero9 : Ev Tryz.prog 12 [ydD y0] (.bool true) := by
 have h := ev_SameSelf y0 (by simp [y0]) (by simp [y0]) (by simp [y0]) (by simp [y0]) (by simp [y0])
 refine ev_of_awp tysOk mixed (fn := Tryz.f12) Tryz.func12 rfl rfl rfl ?_
 conv => whnf
 repeat' (first|((with_reducible refine AltK.l ?_);(conv=>whnf);(first|(refine CallK.mk _ (h) ?_));conv=>whnf)|fail)
 rfl
end Go.Proofs.Tryz
end

section
namespace Go.Proofs.Tryz
open Go Go.Vm Go.Plain
set_option maxRecDepth 20000
set_option maxHeartbeats 8000000
theorem runY_rb : ∀ (ls : List (List UInt8)) (n k : Nat) (y z : Yd), runY n y ls = .ok z → (∀ x ∈ ls, x.length ≤ 40000) → k + ls.length ≤ 100000 → RB k y → RB (k + ls.length) z
 | [], n, k, y, z, h, _, _, hB => by cases h; exact hB
 | [x], n, k, y, z, h, _, _, hB => by
  rw [runY] at h
  split at h
  ·cases h; exact hB.mono (by omega)
  ·cases h
 | x :: w :: l, n, k, y, z, h, hx, hk, hB => by
  rw [runY] at h
  split at h
  ·rename_i y' hr
   have hB' : RB (k + 1) y' := by
    rcases xv_line y (hB.rd (by omega)) x (hx x List.mem_cons_self) y' hr with ⟨p, rfl, hp, -⟩ | ⟨b, c, rfl, -⟩ | ⟨d, rfl, -⟩
    ·exact hB.pit hp
    ·exact hB.bulk b c
    ·exact hB.dep d
   have := runY_rb (w :: l) (n + 1) (k + 1) y' z h (fun v hv => hx v (List.mem_cons_of_mem _ hv)) (by simp only [List.length_cons] at hk ⊢; omega) hB'
   simp only [List.length_cons] at this ⊢
   rw [show k + (l.length + 1 + 1) = k + 1 + (l.length + 1) by omega]
   exact this
  ·cases h
theorem ev_PrintNo9 (y : Yd) (hs : smallP y) (h0 : ydErr y ≠ 0) : Ev Tryz.prog 6 [ydD y] (.tup [.str ⟨#[]⟩, .int .i64 (ydErr y)]) := by
 have hC := ev_DCheck y hs
 refine ev_of_awp tysOk mixed (fn := Tryz.f6) Tryz.func6 rfl rfl rfl ?_
 conv => whnf
 repeat' (first|((with_reducible refine Split.nez (fun _=>?_) (fun _=>?_))<;>conv=>whnf)|((with_reducible refine AltK.l ?_);(conv=>whnf);(first|(refine CallK.mk _ (hC) ?_));conv=>whnf)|(exfalso;first|omega|contradiction)|fail)
 rfl
theorem ev_DisposalTexts (y : Yd) (t : ByteArray) : Ev Tryz.prog 3 [ydD y, .str t] (.bool true) := by
 have hA := ev_awake9
 have h1 := ev_Small y
 cases hs : smallB y with
 | false =>
  rw [hs] at h1
  refine ev_of_awp tysOk mixed (fn := Tryz.f3) Tryz.func3 rfl rfl rfl ?_
  conv => whnf
  repeat' (first|((with_reducible first|refine Split.of_true ?_|refine Split.of_false ?_);conv=>whnf)|(with_reducible refine Split.neg ?_)|((with_reducible refine AltK.l ?_);(conv=>whnf);(first|(refine CallK.mk _ (hA) ?_)|(refine CallK.mk _ (h1) ?_));conv=>whnf)|fail)
  rfl
 | true =>
 rw [hs] at h1
 have hB := smB hs
 have h2 := hB.copied
 have h3 := ev_DCheckR y hB.sp
 obtain ⟨l, rfl⟩ : ∃ l, t = ofL l := ⟨t.data.toList, (ofL_data t).symm⟩
 have hl := ofL_size l
 by_cases hlim : (500 < (ofL l).size ∧ (ofL l).size ≤ 20000) ∨ 20100 < (ofL l).size
 ·refine ev_of_awp tysOk mixed (fn := Tryz.f3) Tryz.func3 rfl rfl rfl ?_
  conv => whnf
  repeat' (first|((with_reducible first|refine Split.of_true ?_|refine Split.of_false ?_);conv=>whnf)|(with_reducible refine Split.neg ?_)|((with_reducible refine Split.dec (fun _=>?_) (fun _=>?_))<;>conv=>whnf)|((with_reducible refine AltK.l ?_);(conv=>whnf);(first|(refine CallK.mk _ (hA) ?_)|(refine CallK.mk _ (h1) ?_));conv=>whnf)|(exfalso;first|omega|contradiction)|fail)
  all_goals first
   |(exfalso; omega)
   | rfl
 have hZ := ev_zero9
 -- what Print does
 have hP : (ydErr y = 0 ∧ Ev Tryz.prog 6 [ydD y] (.tup [wD (ydT y), .int .i64 0]) ∧ Ev Tryz.prog 9 [wD (ydT y)] (.tup [ydD y, iD 0, iD 0]) ∧ Ev Tryz.prog 10 [ydD y] (wD (ydT y)))
  ∨ (ydErr y ≠ 0 ∧ Ev Tryz.prog 6 [ydD y] (.tup [.str ⟨#[]⟩, .int .i64 (ydErr y)])) := by
  by_cases h0 : ydErr y = 0
  ·have hk := pr_ok h0 hB.cl
   have hln := ydT_len hk
   have hq : y.pits.length ≤ 8 ∧ y.bulk.length ≤ 20 ∧ y.deps.length ≤ 200 := ⟨hk.pits, hk.bulk, hk.deps⟩
   have hsa : smallA y = true := by
    have := hs; simp only [smallB, Bool.and_eq_true] at this; exact this.1.1.1
   have hsm := sm_ok hsa
   have hp := ev_Parse9 (ydT y) (by have := hsm.p; have := hsm.b; have := hsm.d; omega)
   rw [read_back hk, psD_ok h0] at hp
   exact .inl ⟨h0, ev_Print9 y h0 hk, hp, ev_PrintR9 y hk⟩
  ·exact .inr ⟨h0, ev_PrintNo9 y hB.sp h0⟩
 have h8 := hB.same
 by_cases hbig : 20000 < (ofL l).size
 ·have h5 := ev_ParseBig (ofL l) hbig (by omega)
  rcases hP with ⟨h0, p1, p2, p3⟩ | ⟨h0, p1⟩
  ·rw [h0] at h3
   refine ev_of_awp tysOk mixed (fn := Tryz.f3) Tryz.func3 rfl rfl rfl ?_
   conv => whnf
   repeat' (first|((with_reducible first|refine Split.of_true ?_|refine Split.of_false ?_);conv=>whnf)|(with_reducible refine Split.neg ?_)|((with_reducible refine Split.is_true ?_ ?_);decide;conv=>whnf)|((with_reducible refine Split.is_false ?_ ?_);decide;conv=>whnf)|((with_reducible refine Split.streq (fun _=>?_) (fun _=>?_))<;>conv=>whnf)|((with_reducible refine Split.dec (fun _=>?_) (fun _=>?_))<;>conv=>whnf)|((with_reducible refine Need.mk ?_ ?_);(first|omega|rfl|decide|(refine ⟨?_,?_⟩<;>simp<;>omega)|(simp;omega));conv=>whnf)|((with_reducible refine AltK.l ?_);(conv=>whnf);(first|(refine CallK.mk _ (hA) ?_)|(refine CallK.mk _ (h1) ?_)|(refine CallK.mk _ (h2) ?_)|(refine CallK.mk _ (h3) ?_)|(refine CallK.mk _ (p1) ?_)|(refine CallK.mk _ (p2) ?_)|(refine CallK.mk _ (p3) ?_)|(refine CallK.mk _ (h8) ?_)|(refine CallK.mk _ (h5) ?_)|(refine CallK.mk _ (hZ) ?_));conv=>whnf)|(exfalso;first|omega|contradiction)|fail)
   all_goals first
    | rfl
    |(exfalso; omega)
    |(exfalso; contradiction)
  ·refine ev_of_awp tysOk mixed (fn := Tryz.f3) Tryz.func3 rfl rfl rfl ?_
   conv => whnf
   repeat' (first|((with_reducible first|refine Split.of_true ?_|refine Split.of_false ?_);conv=>whnf)|(with_reducible refine Split.neg ?_)|((with_reducible refine Split.is_true ?_ ?_);decide;conv=>whnf)|((with_reducible refine Split.nez (fun _=>?_) (fun _=>?_))<;>conv=>whnf)|((with_reducible refine Split.streq (fun _=>?_) (fun _=>?_))<;>conv=>whnf)|((with_reducible refine Split.dec (fun _=>?_) (fun _=>?_))<;>conv=>whnf)|((with_reducible refine Need.mk ?_ ?_);(first|omega|rfl|decide|(refine ⟨?_,?_⟩<;>simp<;>omega)|(simp;omega));conv=>whnf)|((with_reducible refine AltK.l ?_);(conv=>whnf);(first|(refine CallK.mk _ (hA) ?_)|(refine CallK.mk _ (h1) ?_)|(refine CallK.mk _ (h2) ?_)|(refine CallK.mk _ (h3) ?_)|(refine CallK.mk _ (p1) ?_)|(refine CallK.mk _ (h5) ?_)|(refine CallK.mk _ (hZ) ?_));conv=>whnf)|(exfalso;first|omega|contradiction)|fail)
   all_goals first
    | rfl
    |(exfalso; omega)
    |(exfalso; contradiction)
 have h5 := ev_Parse9 l (by omega)
 have h6 := ev_ParseR9 l (by omega)
 have hrb : ∀ z, runY 1 y0 (spl 10 l) = .ok z → RB 1000 z := fun z hz => by
  have e1 := spl_size 10 l
  have := runY_rb (spl 10 l) 1 1 y0 z hz (fun x hx => by have := spl_each 10 l x hx; omega) (by omega) rb0
  exact this.mono (by omega)
 cases hr : runY 1 y0 (spl 10 l) with
 | error n =>
  rw [hr] at h5 h6
  have h5 : Ev Tryz.prog 9 [wD l] (.tup [ydD y0, iD (n : Int), iD 7]) := h5
  have h6 : Ev Tryz.prog 13 [wD l] (.tup [ydD y0, iD (n : Int), .bool true]) := h6
  rcases hP with ⟨h0, p1, p2, p3⟩ | ⟨h0, p1⟩
  ·rw [h0] at h3
   refine ev_of_awp tysOk mixed (fn := Tryz.f3) Tryz.func3 rfl rfl rfl ?_
   conv => whnf
   repeat' (first|((with_reducible first|refine Split.of_true ?_|refine Split.of_false ?_);conv=>whnf)|(with_reducible refine Split.neg ?_)|((with_reducible refine Split.is_true ?_ ?_);decide;conv=>whnf)|((with_reducible refine Split.is_false ?_ ?_);decide;conv=>whnf)|((with_reducible refine Split.eqz (fun _=>?_) (fun _=>?_))<;>conv=>whnf)|((with_reducible refine Split.streq (fun _=>?_) (fun _=>?_))<;>conv=>whnf)|((with_reducible refine Split.dec (fun _=>?_) (fun _=>?_))<;>conv=>whnf)|((with_reducible refine Need.mk ?_ ?_);(first|omega|rfl|decide|(refine ⟨?_,?_⟩<;>simp<;>omega)|(simp;omega));conv=>whnf)|((with_reducible refine AltK.l ?_);(conv=>whnf);(first|(refine CallK.mk _ (hA) ?_)|(refine CallK.mk _ (h1) ?_)|(refine CallK.mk _ (h2) ?_)|(refine CallK.mk _ (h3) ?_)|(refine CallK.mk _ (p1) ?_)|(refine CallK.mk _ (p2) ?_)|(refine CallK.mk _ (p3) ?_)|(refine CallK.mk _ (h8) ?_)|(refine CallK.mk _ (h5) ?_)|(refine CallK.mk _ (h6) ?_)|(refine CallK.mk _ (hZ) ?_));conv=>whnf)|(exfalso;first|omega|contradiction)|fail)
   all_goals first
    | rfl
    |(exfalso; omega)
    |(exfalso; contradiction)
  ·refine ev_of_awp tysOk mixed (fn := Tryz.f3) Tryz.func3 rfl rfl rfl ?_
   conv => whnf
   repeat' (first|((with_reducible first|refine Split.of_true ?_|refine Split.of_false ?_);conv=>whnf)|(with_reducible refine Split.neg ?_)|((with_reducible refine Split.is_true ?_ ?_);decide;conv=>whnf)|((with_reducible refine Split.is_false ?_ ?_);decide;conv=>whnf)|((with_reducible refine Split.nez (fun _=>?_) (fun _=>?_))<;>conv=>whnf)|((with_reducible refine Split.eqz (fun _=>?_) (fun _=>?_))<;>conv=>whnf)|((with_reducible refine Split.streq (fun _=>?_) (fun _=>?_))<;>conv=>whnf)|((with_reducible refine Split.dec (fun _=>?_) (fun _=>?_))<;>conv=>whnf)|((with_reducible refine Need.mk ?_ ?_);(first|omega|rfl|decide|(refine ⟨?_,?_⟩<;>simp<;>omega)|(simp;omega));conv=>whnf)|((with_reducible refine AltK.l ?_);(conv=>whnf);(first|(refine CallK.mk _ (hA) ?_)|(refine CallK.mk _ (h1) ?_)|(refine CallK.mk _ (h2) ?_)|(refine CallK.mk _ (h3) ?_)|(refine CallK.mk _ (p1) ?_)|(refine CallK.mk _ (h5) ?_)|(refine CallK.mk _ (h6) ?_)|(refine CallK.mk _ (hZ) ?_));conv=>whnf)|(exfalso;first|omega|contradiction)|fail)
   all_goals first
    | rfl
    |(exfalso; omega)
    |(exfalso; contradiction)
 | ok z =>
  have hz := hrb z hr
  have h7 := ev_DCheckR z hz.sp
  have h9 := hz.same (by omega)
  rw [hr] at h5 h6
  have h6 : Ev Tryz.prog 13 [wD l] (.tup [ydD z, iD 0, .bool false]) := h6
  by_cases he : ydErr z = 0
  ·rw [psD_ok he] at h5
   rw [he] at h7
   rcases hP with ⟨h0, p1, p2, p3⟩ | ⟨h0, p1⟩
   ·rw [h0] at h3
    refine ev_of_awp tysOk mixed (fn := Tryz.f3) Tryz.func3 rfl rfl rfl ?_
    conv => whnf
    repeat' (first|((with_reducible first|refine Split.of_true ?_|refine Split.of_false ?_);conv=>whnf)|(with_reducible refine Split.neg ?_)|((with_reducible refine Split.is_true ?_ ?_);decide;conv=>whnf)|((with_reducible refine Split.is_false ?_ ?_);decide;conv=>whnf)|((with_reducible refine Split.streq (fun _=>?_) (fun _=>?_))<;>conv=>whnf)|((with_reducible refine Split.dec (fun _=>?_) (fun _=>?_))<;>conv=>whnf)|((with_reducible refine Need.mk ?_ ?_);(first|omega|rfl|decide|(refine ⟨?_,?_⟩<;>simp<;>omega)|(simp;omega));conv=>whnf)|((with_reducible refine AltK.l ?_);(conv=>whnf);(first|(refine CallK.mk _ (hA) ?_)|(refine CallK.mk _ (h1) ?_)|(refine CallK.mk _ (h2) ?_)|(refine CallK.mk _ (p1) ?_)|(refine CallK.mk _ (p2) ?_)|(refine CallK.mk _ (p3) ?_)|(refine CallK.mk _ (h3) ?_)|(refine CallK.mk _ (h7) ?_)|(refine CallK.mk _ (h8) ?_)|(refine CallK.mk _ (h9) ?_)|(refine CallK.mk _ (h5) ?_)|(refine CallK.mk _ (h6) ?_)|(refine CallK.mk _ (hZ) ?_));conv=>whnf)|(exfalso;first|omega|contradiction)|fail)
    all_goals first
     | rfl
     |(exfalso; omega)
     |(exfalso; contradiction)
   ·refine ev_of_awp tysOk mixed (fn := Tryz.f3) Tryz.func3 rfl rfl rfl ?_
    conv => whnf
    repeat' (first|((with_reducible first|refine Split.of_true ?_|refine Split.of_false ?_);conv=>whnf)|(with_reducible refine Split.neg ?_)|((with_reducible refine Split.is_true ?_ ?_);decide;conv=>whnf)|((with_reducible refine Split.is_false ?_ ?_);decide;conv=>whnf)|((with_reducible refine Split.nez (fun _=>?_) (fun _=>?_))<;>conv=>whnf)|((with_reducible refine Split.streq (fun _=>?_) (fun _=>?_))<;>conv=>whnf)|((with_reducible refine Split.dec (fun _=>?_) (fun _=>?_))<;>conv=>whnf)|((with_reducible refine Need.mk ?_ ?_);(first|omega|rfl|decide|(refine ⟨?_,?_⟩<;>simp<;>omega)|(simp;omega));conv=>whnf)|((with_reducible refine AltK.l ?_);(conv=>whnf);(first|(refine CallK.mk _ (hA) ?_)|(refine CallK.mk _ (h1) ?_)|(refine CallK.mk _ (h2) ?_)|(refine CallK.mk _ (p1) ?_)|(refine CallK.mk _ (h3) ?_)|(refine CallK.mk _ (h7) ?_)|(refine CallK.mk _ (h9) ?_)|(refine CallK.mk _ (h5) ?_)|(refine CallK.mk _ (h6) ?_)|(refine CallK.mk _ (hZ) ?_));conv=>whnf)|(exfalso;first|omega|contradiction)|fail)
    all_goals first
     | rfl
     |(exfalso; omega)
     |(exfalso; contradiction)
  ·rw [psD_no he] at h5
   rcases hP with ⟨h0, p1, p2, p3⟩ | ⟨h0, p1⟩
   ·rw [h0] at h3
    refine ev_of_awp tysOk mixed (fn := Tryz.f3) Tryz.func3 rfl rfl rfl ?_
    conv => whnf
    repeat' (first|((with_reducible first|refine Split.of_true ?_|refine Split.of_false ?_);conv=>whnf)|(with_reducible refine Split.neg ?_)|((with_reducible refine Split.is_true ?_ ?_);decide;conv=>whnf)|((with_reducible refine Split.is_false ?_ ?_);decide;conv=>whnf)|((with_reducible refine Split.nez (fun _=>?_) (fun _=>?_))<;>conv=>whnf)|((with_reducible refine Split.eqz (fun _=>?_) (fun _=>?_))<;>conv=>whnf)|((with_reducible refine Split.streq (fun _=>?_) (fun _=>?_))<;>conv=>whnf)|((with_reducible refine Split.dec (fun _=>?_) (fun _=>?_))<;>conv=>whnf)|((with_reducible refine Need.mk ?_ ?_);(first|omega|rfl|decide|(refine ⟨?_,?_⟩<;>simp<;>omega)|(simp;omega));conv=>whnf)|((with_reducible refine AltK.l ?_);(conv=>whnf);(first|(refine CallK.mk _ (hA) ?_)|(refine CallK.mk _ (h1) ?_)|(refine CallK.mk _ (h2) ?_)|(refine CallK.mk _ (p1) ?_)|(refine CallK.mk _ (p2) ?_)|(refine CallK.mk _ (p3) ?_)|(refine CallK.mk _ (h3) ?_)|(refine CallK.mk _ (h7) ?_)|(refine CallK.mk _ (h8) ?_)|(refine CallK.mk _ (h5) ?_)|(refine CallK.mk _ (h6) ?_)|(refine CallK.mk _ (hZ) ?_));conv=>whnf)|(exfalso;first|omega|contradiction)|fail)
    all_goals first
     | rfl
     |(exfalso; omega)
     |(exfalso; contradiction)
   ·refine ev_of_awp tysOk mixed (fn := Tryz.f3) Tryz.func3 rfl rfl rfl ?_
    conv => whnf
    repeat' (first|((with_reducible first|refine Split.of_true ?_|refine Split.of_false ?_);conv=>whnf)|(with_reducible refine Split.neg ?_)|((with_reducible refine Split.is_true ?_ ?_);decide;conv=>whnf)|((with_reducible refine Split.nez (fun _=>?_) (fun _=>?_))<;>conv=>whnf)|((with_reducible refine Split.eqz (fun _=>?_) (fun _=>?_))<;>conv=>whnf)|((with_reducible refine Split.streq (fun _=>?_) (fun _=>?_))<;>conv=>whnf)|((with_reducible refine Split.dec (fun _=>?_) (fun _=>?_))<;>conv=>whnf)|((with_reducible refine Need.mk ?_ ?_);(first|omega|rfl|decide|(refine ⟨?_,?_⟩<;>simp<;>omega)|(simp;omega));conv=>whnf)|((with_reducible refine AltK.l ?_);(conv=>whnf);(first|(refine CallK.mk _ (hA) ?_)|(refine CallK.mk _ (h1) ?_)|(refine CallK.mk _ (h2) ?_)|(refine CallK.mk _ (p1) ?_)|(refine CallK.mk _ (h3) ?_)|(refine CallK.mk _ (h7) ?_)|(refine CallK.mk _ (h5) ?_)|(refine CallK.mk _ (h6) ?_)|(refine CallK.mk _ (hZ) ?_));conv=>whnf)|(exfalso;first|omega|contradiction)|fail)
    all_goals first
     | rfl
     |(exfalso; omega)
     |(exfalso; contradiction)
end Go.Proofs.Tryz
end

section
namespace Go.Proofs.Tryz
open Go Go.Vm
theorem int_of {k : IntKind} {d : D} (h : Ty (.int k) d) : ∃ n, d = .int k n ∧ (Lit.int k n).wf = true := by cases h; exact ⟨_, rfl, by assumption⟩
theorem str_of {d : D} (h : Ty .str d) : ∃ s, d = .str s ∧ s.size ≤ 9223372036854775807 := by
 cases h with
 | str s h => exact ⟨_, rfl, h⟩
theorem sl_of {agg : Bool} {cs : List Cs} {d : D} (h : Ty (.sl agg cs) d) : ∃ es, d = .sl cs.length es ∧ (∀ e ∈ es, TyV (agg, cs) e) ∧ es.length ≤ 9223372036854775807 := by
 cases h with
 | sl hk hl h hn => exact ⟨_, rfl, fun e he => ⟨hk e he, hl e he, h e he⟩, hn⟩
theorem agg_of {cs : List Cs} {d : D} (h : TyV (true, cs) d) : ∃ ds, d = .agg ds ∧ ds.length = cs.length ∧ ∀ (j : Nat) c e, cs[j]? = some c → ds[j]? = some e → Ty c e := by
 obtain ⟨ds, rfl⟩ := h.1.1 rfl
 exact ⟨ds, rfl, h.2.1, h.2.2⟩
theorem one_of {c : Cs} {d : D} (h : TyV (false, [c]) d) : Ty c d := by
 have h1 := h.1.2 rfl
 have := h.2.2 0 c d rfl
 rw [(one_cells h1).1] at this
 exact this rfl
theorem map_of {α : Type} {f : α → D} {Q : D → Prop} (hf : ∀ d, Q d → ∃ a, d = f a) : ∀ {es : List D}, (∀ e ∈ es, Q e) → ∃ l : List α, es = l.map f
 | [], _ => ⟨[], rfl⟩
 | e :: es, h => by
  obtain ⟨a, rfl⟩ := hf e (h e (List.mem_cons_self ..))
  obtain ⟨l, rfl⟩ := map_of hf (fun e he => h e (List.mem_cons_of_mem _ he))
  exact ⟨a :: l, rfl⟩
end Go.Proofs.Tryz
end

section
namespace Go.Proofs.Tryz
open Go Go.Vm
def cPit : List Cs := [.str, .int .i64, .int .i64, .int .i64, .sl false [.int .i64], .int .i64]
def cBulk : List Cs := [.str, .int .i64, .int .i64]
def cDep : List Cs := [.int .i64, .str, .int .i64]
def cYard : List Cs := [.sl true cPit, .sl true cBulk, .sl true cDep, .sl false [.int .i64]]
theorem ints_of9 {d : D} (h : Ty (.sl false [.int .i64]) d) : ∃ l : List Int, d = .sl 1 (l.map iD) := by
 obtain ⟨es, rfl, he, -⟩ := sl_of h
 obtain ⟨l, rfl⟩ := map_of (f := iD) (fun d hd => by
  obtain ⟨n, rfl, -⟩ := int_of (one_of hd)
  exact ⟨n, rfl⟩) he
 exact ⟨l, rfl⟩
theorem pit_of {d : D} (h : TyV (true, cPit) d) : ∃ p, d = ptD p := by
 obtain ⟨ds, rfl, hl, hc⟩ := agg_of h
 match ds, hl with
 | [a, b, c, e, f, g], _ =>
  obtain ⟨s, rfl, -⟩ := str_of (hc 0 _ a rfl rfl)
  obtain ⟨x1, rfl, -⟩ := int_of (hc 1 _ b rfl rfl)
  obtain ⟨x2, rfl, -⟩ := int_of (hc 2 _ c rfl rfl)
  obtain ⟨x3, rfl, -⟩ := int_of (hc 3 _ e rfl rfl)
  obtain ⟨l, rfl⟩ := ints_of9 (hc 4 _ f rfl rfl)
  obtain ⟨x5, rfl, -⟩ := int_of (hc 5 _ g rfl rfl)
  exact ⟨⟨s, x1, x2, x3, l, x5⟩, rfl⟩
theorem bulk_of {d : D} (h : TyV (true, cBulk) d) : ∃ p, d = bkD p := by
 obtain ⟨ds, rfl, hl, hc⟩ := agg_of h
 match ds, hl with
 | [a, b, c], _ =>
  obtain ⟨s, rfl, -⟩ := str_of (hc 0 _ a rfl rfl)
  obtain ⟨x1, rfl, -⟩ := int_of (hc 1 _ b rfl rfl)
  obtain ⟨x2, rfl, -⟩ := int_of (hc 2 _ c rfl rfl)
  exact ⟨⟨s, x1, x2⟩, rfl⟩
theorem dep_of {d : D} (h : TyV (true, cDep) d) : ∃ p, d = dpD p := by
 obtain ⟨ds, rfl, hl, hc⟩ := agg_of h
 match ds, hl with
 | [a, b, c], _ =>
  obtain ⟨x1, rfl, -⟩ := int_of (hc 0 _ a rfl rfl)
  obtain ⟨s, rfl, -⟩ := str_of (hc 1 _ b rfl rfl)
  obtain ⟨x2, rfl, -⟩ := int_of (hc 2 _ c rfl rfl)
  exact ⟨⟨x1, s, x2⟩, rfl⟩
theorem yard_of {d : D} (h : TyV (true, cYard) d) : ∃ y, d = ydD y := by
 obtain ⟨ds, rfl, hl, hc⟩ := agg_of h
 match ds, hl with
 | [a, b, c, e], _ =>
  obtain ⟨es, rfl, he, -⟩ := sl_of (hc 0 _ a rfl rfl)
  obtain ⟨l0, rfl⟩ := map_of (fun d hd => pit_of hd) he
  obtain ⟨es, rfl, he, -⟩ := sl_of (hc 1 _ b rfl rfl)
  obtain ⟨l1, rfl⟩ := map_of (fun d hd => bulk_of hd) he
  obtain ⟨es, rfl, he, -⟩ := sl_of (hc 2 _ c rfl rfl)
  obtain ⟨l2, rfl⟩ := map_of (fun d hd => dep_of hd) he
  obtain ⟨l3, rfl⟩ := ints_of9 (hc 3 _ e rfl rfl)
  exact ⟨⟨l0, l1, l2, l3⟩, rfl⟩
end Go.Proofs.Tryz
end
