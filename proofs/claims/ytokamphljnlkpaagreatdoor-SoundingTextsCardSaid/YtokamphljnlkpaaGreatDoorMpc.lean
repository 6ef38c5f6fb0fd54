/- Texts SxN SxZ, joined; what is not needed is left out. -/
import Derived.Test.YtokamphljnlkpaaGreatDoorMgJ
import Derived.Test.YtokamphljnlkpaaGreatDoorMgX
import Derived.Test.YtokamphljnlkpaaGreatDoorProg
import Derived.Test.YtokamphljnlkpaaGreatDoorMgH
import Derived.TacticsInMore
import Derived.LoopIn
import Derived.LoopNIn
import Derived.Laws.Unary
import Derived.Maps.RangeWalk
import Derived.Test.YtokamphljnlkpaaGreatDoorMgI
import Derived.Lib.AtoiAllCases
import Derived.Shelf.Lays
import Derived.Lib.CutLaws
import Derived.Lib.MakeNoZero
import Derived.Laws.IdiomCopy
import Derived.Lib.ItoaLen
import Derived.Lib.AtoiTie
import Derived.Lib.SplitLaws
import Derived.Shelf.LaysM
import Derived.Shelf.LaysC
import Derived.Shelf.Strings.Builder1
import Derived.Test.YtokamphljnlkpaaGreatDoorMpb
section
namespace Go.Proofs.Tryz
open Go Go.Vm Go.Plain
set_option maxRecDepth 20000
set_option maxHeartbeats 8000000
def longB (n : Nat) : Bool := (decide (25 < n) && decide (n ≤ 500)) || decide (600 < n)
theorem ev_long (l : List Sg) : Ev Tryz.prog 4 [.sl 5 (l.map sgD)] (.bool (longB l.length)) := by
 have hlen : (l.map sgD).length = l.length := List.length_map _
 refine ev_of_awp tysOk mixed (fn := Tryz.f4) Tryz.func4 rfl rfl rfl ?_
 conv => whnf
 repeat' (first|((with_reducible refine Split.of_false ?_);conv=>whnf)|((with_reducible refine Split.dec (fun _=>?_) (fun _=>?_))<;>conv=>whnf)|fail)
 all_goals
  have e : longB l.length = true ∨ longB l.length = false := by cases longB l.length <;> simp
  rcases e with e | e <;> rw [e] <;> simp [retOf, longB] at e ⊢ <;> omega
theorem runS_len : ∀ (ls : List (List UInt8)) (n : Nat) (o z : List Sg), runS n o ls = .ok z → z.length ≤ o.length + ls.length
 | [], n, o, z, h => by cases h; simp
 | [x], n, o, z, h => by
  rw [runS] at h
  split at h
  ·cases h; simp
  ·cases h
 | x :: y :: l, n, o, z, h => by
  rw [runS] at h
  split at h
  ·have := runS_len (y :: l) (n + 1) _ z h
   simp only [List.length_append, List.length_cons, List.length_nil] at this ⊢
   omega
  ·cases h
theorem prR_any (o : Option Rw) : ∃ q e, prR o = .tup [rD q, iD e] := by
 cases o with
 | none => exact ⟨rw0, 7, rfl⟩
 | some r => exact ⟨r, 0, rfl⟩
theorem psK_any {s : List UInt8} (hs : s.length ≤ 600) : ∃ (z : List Sg) (n k : Int), psK (runS 1 [] (spl 10 s)) = .tup [.sl 5 (z.map sgD), iD n, iD k] ∧ z.length ≤ 1000 := by
 cases h : runS 1 [] (spl 10 s) with
 | error n => exact ⟨[], n, 7, rfl, by simp⟩
 | ok z =>
  have h1 := runS_len _ _ _ _ h
  have h2 := spl_size 10 s
  simp only [List.length_nil] at h1
  by_cases h0 : chkErr sgB Sg.n z = 0
  ·exact ⟨z, 0, 0, psK_ok h0, by omega⟩
  ·exact ⟨[], 0, _, psK_no h0, by simp⟩
theorem ev_SoundingTexts (r : Rw) (l : List Sg) (t : ByteArray) : Ev Tryz.prog 3 [rD r, .sl 5 (l.map sgD), .str t] (.bool true) := by
 have hA := ev_awake3
 have hL := ev_long l
 obtain ⟨s, rfl⟩ : ∃ s, t = ofL s := ⟨t.data.toList, (ofL_data t).symm⟩
 have hz := ofL_size s
 cases hlb : longB l.length with
 | true =>
  rw [hlb] at hL
  refine ev_of_awp tysOk mixed (fn := Tryz.f3) Tryz.func3 rfl rfl rfl ?_
  conv => whnf
  repeat' (first|((with_reducible refine Split.of_true ?_);conv=>whnf)|((with_reducible refine AltK.l ?_);(conv=>whnf);(first|(refine CallK.mk _ (hA) ?_)|(refine CallK.mk _ (hL) ?_));conv=>whnf)|fail)
  all_goals first
   | rfl
   |(exfalso; omega)
   |(exfalso; contradiction)
 | false =>
 rw [hlb] at hL
 have hll : l.length ≤ 600 := by
  simp only [longB, Bool.or_eq_false_iff, decide_eq_false_iff_not] at hlb
  omega
 by_cases hbig : 600 < (ofL s).size
 ·refine ev_of_awp tysOk mixed (fn := Tryz.f3) Tryz.func3 rfl rfl rfl ?_
  conv => whnf
  repeat' (first|((with_reducible refine Split.of_false ?_);conv=>whnf)|((with_reducible refine Split.dec (fun _=>?_) (fun _=>?_))<;>conv=>whnf)|((with_reducible refine AltK.l ?_);(conv=>whnf);(first|(refine CallK.mk _ (hA) ?_)|(refine CallK.mk _ (hL) ?_));conv=>whnf)|(exfalso;first|omega|contradiction)|fail)
  all_goals first
   | rfl
   |(exfalso; omega)
   |(exfalso; contradiction)
 have hsl : s.length ≤ 600 := by omega
 have h1 := ev_FormatRaw r
 have h2 := ev_FormatRawR r
 obtain ⟨q, e, hq⟩ := prR_any (rdRaw s)
 have h3 := ev_ParseRaw s (by omega)
 have h4 := ev_ParseRawR s (by omega)
 rw [hq] at h3 h4
 obtain ⟨z, n, k, hk, hzl⟩ := psK_any hsl
 have h5 := ev_ParseSheet s (by omega)
 have h6 := ev_ParseSheetR s (by omega)
 rw [hk] at h5 h6
 have h7 := ev_sameE z k (by omega)
 have hSS := ev_SameS l (by omega)
 by_cases hb : rawB r = true
 ·rw [if_pos hb] at h1 h2
  have hr1 := rawT_len hb
  have h8 := ev_ParseRaw (rawT r) (by omega)
  rw [rdRaw_rawT hb] at h8
  have h8 : Ev Tryz.prog 8 [wD (rawT r)] (.tup [rD r, iD 0]) := h8
  by_cases h0 : chkErr sgB Sg.n l = 0
  ·obtain ⟨-, hall, -⟩ := chk_zero h0
   have h9 := ev_Sheet l h0
   have h10 := ev_SheetR l h0
   have hsh := shT_len l hall
   have h11 := ev_ParseSheet (shT l) (by omega)
   rw [sheet_back l 1 [] hall, List.nil_append, psK_ok h0] at h11
   refine ev_of_awp tysOk mixed (fn := Tryz.f3) Tryz.func3 rfl rfl rfl ?_
   conv => whnf
   repeat' (first|((with_reducible first|refine Split.of_true ?_|refine Split.of_false ?_);conv=>whnf)|(with_reducible refine Split.neg ?_)|((with_reducible refine Split.is_true ?_ ?_);decide;conv=>whnf)|((with_reducible refine Split.is_false ?_ ?_);decide;conv=>whnf)|((with_reducible refine Split.nez (fun _=>?_) (fun _=>?_))<;>conv=>whnf)|((with_reducible refine Split.eqz (fun _=>?_) (fun _=>?_))<;>conv=>whnf)|(with_reducible refine Split.and ?_)|((with_reducible refine Split.streq (fun _=>?_) (fun _=>?_))<;>conv=>whnf)|((with_reducible refine Split.dec (fun _=>?_) (fun _=>?_))<;>conv=>whnf)|((with_reducible refine Need.mk ?_ ?_);(first|omega|rfl|decide|(refine ⟨?_,?_⟩<;>simp<;>omega)|(simp;omega));conv=>whnf)|((with_reducible refine AltK.l ?_);(conv=>whnf);(first|(refine CallK.mk _ (hA) ?_)|(refine CallK.mk _ (hL) ?_)|(refine CallK.mk _ (h8) ?_)|(refine CallK.mk _ (h1) ?_)|(refine CallK.mk _ (h2) ?_)|(refine CallK.mk _ (h11) ?_)|(refine CallK.mk _ (h3) ?_)|(refine CallK.mk _ (h4) ?_)|(refine CallK.mk _ (h9) ?_)|(refine CallK.mk _ (h10) ?_)|(refine CallK.mk _ (h5) ?_)|(refine CallK.mk _ (h6) ?_)|(refine CallK.mk _ (h7) ?_)|(refine CallK.mk _ (hSS) ?_));conv=>whnf)|(exfalso;first|omega|contradiction)|fail)
   all_goals first
    | rfl
    |(exfalso; omega)
    |(exfalso; contradiction)
  ·have h9 := ev_SheetNo l h0
   have h10 := ev_SheetRNo l h0
   refine ev_of_awp tysOk mixed (fn := Tryz.f3) Tryz.func3 rfl rfl rfl ?_
   conv => whnf
   repeat' (first|((with_reducible first|refine Split.of_true ?_|refine Split.of_false ?_);conv=>whnf)|(with_reducible refine Split.neg ?_)|((with_reducible refine Split.is_true ?_ ?_);decide;conv=>whnf)|((with_reducible refine Split.is_false ?_ ?_);decide;conv=>whnf)|((with_reducible refine Split.nez (fun _=>?_) (fun _=>?_))<;>conv=>whnf)|((with_reducible refine Split.eqz (fun _=>?_) (fun _=>?_))<;>conv=>whnf)|(with_reducible refine Split.and ?_)|((with_reducible refine Split.streq (fun _=>?_) (fun _=>?_))<;>conv=>whnf)|((with_reducible refine Split.dec (fun _=>?_) (fun _=>?_))<;>conv=>whnf)|((with_reducible refine Need.mk ?_ ?_);(first|omega|rfl|decide|(refine ⟨?_,?_⟩<;>simp<;>omega)|(simp;omega));conv=>whnf)|((with_reducible refine AltK.l ?_);(conv=>whnf);(first|(refine CallK.mk _ (hA) ?_)|(refine CallK.mk _ (hL) ?_)|(refine CallK.mk _ (h8) ?_)|(refine CallK.mk _ (h1) ?_)|(refine CallK.mk _ (h2) ?_)|(refine CallK.mk _ (h3) ?_)|(refine CallK.mk _ (h4) ?_)|(refine CallK.mk _ (h9) ?_)|(refine CallK.mk _ (h10) ?_)|(refine CallK.mk _ (h5) ?_)|(refine CallK.mk _ (h6) ?_)|(refine CallK.mk _ (h7) ?_));conv=>whnf)|(exfalso;first|omega|contradiction)|fail)
   all_goals first
    | rfl
    |(exfalso; omega)
    |(exfalso; contradiction)
 ·rw [if_neg hb] at h1 h2
  by_cases h0 : chkErr sgB Sg.n l = 0
  ·obtain ⟨-, hall, -⟩ := chk_zero h0
   have h9 := ev_Sheet l h0
   have h10 := ev_SheetR l h0
   have hsh := shT_len l hall
   have h11 := ev_ParseSheet (shT l) (by omega)
   rw [sheet_back l 1 [] hall, List.nil_append, psK_ok h0] at h11
   refine ev_of_awp tysOk mixed (fn := Tryz.f3) Tryz.func3 rfl rfl rfl ?_
   conv => whnf
   repeat' (first|((with_reducible first|refine Split.of_true ?_|refine Split.of_false ?_);conv=>whnf)|(with_reducible refine Split.neg ?_)|((with_reducible refine Split.is_true ?_ ?_);decide;conv=>whnf)|((with_reducible refine Split.is_false ?_ ?_);decide;conv=>whnf)|((with_reducible refine Split.nez (fun _=>?_) (fun _=>?_))<;>conv=>whnf)|((with_reducible refine Split.eqz (fun _=>?_) (fun _=>?_))<;>conv=>whnf)|(with_reducible refine Split.and ?_)|((with_reducible refine Split.streq (fun _=>?_) (fun _=>?_))<;>conv=>whnf)|((with_reducible refine Split.dec (fun _=>?_) (fun _=>?_))<;>conv=>whnf)|((with_reducible refine Need.mk ?_ ?_);(first|omega|rfl|decide|(refine ⟨?_,?_⟩<;>simp<;>omega)|(simp;omega));conv=>whnf)|((with_reducible refine AltK.l ?_);(conv=>whnf);(first|(refine CallK.mk _ (hA) ?_)|(refine CallK.mk _ (hL) ?_)|(refine CallK.mk _ (h1) ?_)|(refine CallK.mk _ (h2) ?_)|(refine CallK.mk _ (h11) ?_)|(refine CallK.mk _ (h3) ?_)|(refine CallK.mk _ (h4) ?_)|(refine CallK.mk _ (h9) ?_)|(refine CallK.mk _ (h10) ?_)|(refine CallK.mk _ (h5) ?_)|(refine CallK.mk _ (h6) ?_)|(refine CallK.mk _ (h7) ?_)|(refine CallK.mk _ (hSS) ?_));conv=>whnf)|(exfalso;first|omega|contradiction)|fail)
   all_goals first
    | rfl
    |(exfalso; omega)
    |(exfalso; contradiction)
  ·have h9 := ev_SheetNo l h0
   have h10 := ev_SheetRNo l h0
   refine ev_of_awp tysOk mixed (fn := Tryz.f3) Tryz.func3 rfl rfl rfl ?_
   conv => whnf
   repeat' (first|((with_reducible first|refine Split.of_true ?_|refine Split.of_false ?_);conv=>whnf)|(with_reducible refine Split.neg ?_)|((with_reducible refine Split.is_false ?_ ?_);decide;conv=>whnf)|((with_reducible refine Split.nez (fun _=>?_) (fun _=>?_))<;>conv=>whnf)|((with_reducible refine Split.eqz (fun _=>?_) (fun _=>?_))<;>conv=>whnf)|(with_reducible refine Split.and ?_)|((with_reducible refine Split.streq (fun _=>?_) (fun _=>?_))<;>conv=>whnf)|((with_reducible refine Split.dec (fun _=>?_) (fun _=>?_))<;>conv=>whnf)|((with_reducible refine Need.mk ?_ ?_);(first|omega|rfl|decide|(refine ⟨?_,?_⟩<;>simp<;>omega)|(simp;omega));conv=>whnf)|((with_reducible refine AltK.l ?_);(conv=>whnf);(first|(refine CallK.mk _ (hA) ?_)|(refine CallK.mk _ (hL) ?_)|(refine CallK.mk _ (h1) ?_)|(refine CallK.mk _ (h2) ?_)|(refine CallK.mk _ (h3) ?_)|(refine CallK.mk _ (h4) ?_)|(refine CallK.mk _ (h9) ?_)|(refine CallK.mk _ (h10) ?_)|(refine CallK.mk _ (h5) ?_)|(refine CallK.mk _ (h6) ?_)|(refine CallK.mk _ (h7) ?_));conv=>whnf)|(exfalso;first|omega|contradiction)|fail)
   all_goals first
    | rfl
    |(exfalso; omega)
    |(exfalso; contradiction)
end Go.Proofs.Tryz
end

section
namespace Go.Proofs.Tryz
open Go Go.Vm
def cRaw : List Cs := [.int .i64, .int .i64, .int .i64, .int .i64, .int .i64, .int .i64, .int .i64]
def cSg : List Cs := [.int .i64, .int .i64, .int .i64, .int .i64, .int .i64]
theorem raw_of {d : D} (h : TyV (true, cRaw) d) : ∃ r, d = rD r := by
 obtain ⟨ds, rfl, hl, hc⟩ := agg_of h
 match ds, hl with
 | [a, b, c, e, f, g, i], _ =>
  obtain ⟨x0, rfl, -⟩ := int_of (hc 0 _ a rfl rfl)
  obtain ⟨x1, rfl, -⟩ := int_of (hc 1 _ b rfl rfl)
  obtain ⟨x2, rfl, -⟩ := int_of (hc 2 _ c rfl rfl)
  obtain ⟨x3, rfl, -⟩ := int_of (hc 3 _ e rfl rfl)
  obtain ⟨x4, rfl, -⟩ := int_of (hc 4 _ f rfl rfl)
  obtain ⟨x5, rfl, -⟩ := int_of (hc 5 _ g rfl rfl)
  obtain ⟨x6, rfl, -⟩ := int_of (hc 6 _ i rfl rfl)
  exact ⟨⟨x0, x1, x2, x3, x4, x5, x6⟩, rfl⟩
theorem sg_of {d : D} (h : TyV (true, cSg) d) : ∃ r, d = sgD r := by
 obtain ⟨ds, rfl, hl, hc⟩ := agg_of h
 match ds, hl with
 | [a, b, c, e, f], _ =>
  obtain ⟨x0, rfl, -⟩ := int_of (hc 0 _ a rfl rfl)
  obtain ⟨x1, rfl, -⟩ := int_of (hc 1 _ b rfl rfl)
  obtain ⟨x2, rfl, -⟩ := int_of (hc 2 _ c rfl rfl)
  obtain ⟨x3, rfl, -⟩ := int_of (hc 3 _ e rfl rfl)
  obtain ⟨x4, rfl, -⟩ := int_of (hc 4 _ f rfl rfl)
  exact ⟨⟨x0, x1, x2, x3, x4⟩, rfl⟩
theorem sgs_of {d : D} (h : Ty (.sl true cSg) d) : ∃ l : List Sg, d = .sl 5 (l.map sgD) := by
 obtain ⟨es, rfl, he, -⟩ := sl_of h
 obtain ⟨l, rfl⟩ := map_of (fun d hd => sg_of hd) he
 exact ⟨l, rfl⟩
end Go.Proofs.Tryz
end
