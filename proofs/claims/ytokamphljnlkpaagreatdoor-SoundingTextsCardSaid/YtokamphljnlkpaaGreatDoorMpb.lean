/- Texts SdB SdD SxC SxD SxE SxF SxI SxJ SxK SxL SxM TwZ, joined; what is not needed is left out. -/
import Derived.Test.YtokamphljnlkpaaGreatDoorMgH
import Derived.Test.YtokamphljnlkpaaGreatDoorProg
import Derived.Test.YtokamphljnlkpaaGreatDoorMgI
import Derived.Lib.AtoiAllCases
import Derived.Shelf.Lays
import Derived.Lib.CutLaws
import Derived.Lib.MakeNoZero
import Derived.Laws.IdiomCopy
import Derived.Lib.ItoaLen
import Derived.Lib.AtoiTie
import Derived.Lib.SplitLaws
import Derived.Shelf.LaysM
import Derived.Shelf.LaysC
import Derived.Shelf.Strings.Builder1
import Derived.Test.YtokamphljnlkpaaGreatDoorMgX
import Derived.TacticsInMore
import Derived.LoopIn
import Derived.LoopNIn
import Derived.Laws.Unary
import Derived.Maps.RangeWalk
import Derived.Test.YtokamphljnlkpaaGreatDoorMgJ
import Derived.Test.YtokamphljnlkpaaGreatDoorMpa
section
namespace Go.Proofs.Tryz
open Go Go.Vm
set_option maxRecDepth 20000
set_option maxHeartbeats 2000000
theorem ev_CheckSR (l : List Sg) : Ev Tryz.prog 30 [.sl 5 (l.map sgD)] (iD (chkErr sgB Sg.n l)) := by
 have hlen : (l.map sgD).length = l.length := List.length_map _
 refine ev_of_awp tysOk mixed (fn := Tryz.f30) Tryz.func30 rfl rfl rfl ?_
 conv => whnf
 repeat' (first|((with_reducible refine Split.dec (fun _=>?_) (fun _=>?_))<;>conv=>whnf)|fail)
 ·rw [chkErr, if_pos (by omega)]; rfl
 have e0 : chkErr sgB Sg.n l = chkGo sgB Sg.n [] l := by rw [chkErr, if_neg (by omega)]
 rw [e0]
 refine LoopK.o2 (fun i : Nat => i ≤ l.length ∧ chkGo sgB Sg.n [] l = chkGo sgB Sg.n (l.take i) (l.drop i)) (fun i => [(3, .d (.int .i64 i))]) (fun _ => []) (fun i => l.length - i) 0 (by simp) (by refine ⟨?_, ?_, rfl⟩<;>(repeat' (first|exact True.intro|exact rfl|(refine ⟨?_,?_⟩)|fail));done) ?_
 rintro i ⟨hi, hp⟩
 have hn : (i : Int) < l.length → ∃ m, l[i]? = some m := fun h => some_of_lt (by omega)
 conv => whnf
 repeat' (first|((with_reducible refine Split.dec (fun _=>?_) (fun _=>?_))<;>conv=>whnf)|((with_reducible refine Need.mk ?_ ?_);(first|omega|rfl|decide|(refine ⟨?_,?_⟩<;>simp<;>omega)|(simp;omega));conv=>whnf)|fail)
 ·obtain ⟨g, hg⟩ := hn (by omega)
  have hk := hp.trans (chkGo_at hg)
  have hv1 := ev_ValidR g
  generalize sgB g = b2 at *
  cases b2 with
  | false =>
   conv => whnf
   repeat' (first|((refine PickE.map i hg (by omega) ?_);conv=>whnf)|((with_reducible refine Split.of_false ?_);conv=>whnf)|(with_reducible refine Split.neg ?_)|((with_reducible refine AltK.l ?_);(conv=>whnf);(first|(refine CallK.mk _ (hv1) ?_));conv=>whnf)|fail)
   rw [hk, if_pos rfl]; rfl
  | true =>
   rw [if_neg (by decide)] at hk
   conv => whnf
   repeat' (first|((refine PickE.map i hg (by omega) ?_);conv=>whnf)|((with_reducible refine Split.of_true ?_);conv=>whnf)|(with_reducible refine Split.neg ?_)|((with_reducible refine AltK.l ?_);(conv=>whnf);(first|(refine CallK.mk _ (hv1) ?_));conv=>whnf)|fail)
   refine LoopK.o2 (fun k : Nat => k ≤ i ∧ ∀ h ∈ l.take k, (h.n == g.n) = false) (fun k => [(4, .d (.int .i64 k))]) (fun _ => []) (fun k => i - k) 0 (by simp) (by refine ⟨?_, ?_, rfl⟩<;>(repeat' (first|exact True.intro|exact rfl|(refine ⟨?_,?_⟩)|fail));done) ?_
   rintro k ⟨hki, hks⟩
   have hnk : (k : Int) < i → ∃ m, l[k]? = some m := fun h => some_of_lt (by omega)
   conv => whnf
   repeat' (first|((with_reducible refine Split.dec (fun _=>?_) (fun _=>?_))<;>conv=>whnf)|((with_reducible refine Need.mk ?_ ?_);(first|omega|rfl|decide|(refine ⟨?_,?_⟩<;>simp<;>omega)|(simp;omega));conv=>whnf)|((with_reducible refine Wr.inr ?_ ?_);(first|omega|(simp;omega));conv=>whnf)|fail)
   ·obtain ⟨h, hh⟩ := hnk (by omega)
    conv => whnf
    repeat' (first|((refine PickE.map i hg (by omega) ?_);conv=>whnf)|((refine PickE.map k hh (by omega) ?_);conv=>whnf)|((with_reducible refine Split.eqz (fun _=>?_) (fun _=>?_))<;>conv=>whnf)|((with_reducible refine Need.mk ?_ ?_);(first|omega|rfl|decide|(refine ⟨?_,?_⟩<;>simp<;>omega)|(simp;omega));conv=>whnf)|((with_reducible refine Wr.inr ?_ ?_);(first|omega|(simp;omega));conv=>whnf)|fail)
    ·have he : h.n = g.n := by assumption
     rw [hk, if_pos (List.any_eq_true.2 ⟨h, List.mem_of_getElem? (i := k) (by rw [List.getElem?_take_of_lt (by omega)]; exact hh), by simp [he]⟩)]
     rfl
    ·have he : ¬ h.n = g.n := by assumption
     refine Again.au (k + 1) ⟨by omega, fun x hx => ?_⟩ (by omega) (by refine ⟨?_, ?_, rfl⟩<;>(repeat' (first|exact True.intro|exact rfl|(refine ⟨?_,?_⟩)|fail));done)
     rw [take_snoc hh] at hx
     rcases List.mem_append.1 hx with hx | hx
     ·exact hks x hx
     ·rw [List.mem_singleton.1 hx]; simpa using he
   ·obtain rfl : k = i := by omega
    have hb1 : ¬ ((l.take k).any fun y => y.n == g.n) = true := by
     rw [Bool.not_eq_true, List.any_eq_false]; intro x hx; rw [hks x hx]; decide
    rw [if_neg hb1] at hk
    exact Again.au (k + 1) ⟨by omega, hk⟩ (by omega) (by refine ⟨?_, ?_, rfl⟩<;>(repeat' (first|exact True.intro|exact rfl|(refine ⟨?_,?_⟩)|fail));done)
 ·rw [hp, List.drop_eq_nil_of_le (by omega)]; rfl
end Go.Proofs.Tryz
end

section
namespace Go.Proofs.Tryz
open Go Go.Vm
set_option maxRecDepth 20000
set_option maxHeartbeats 2000000
theorem chkGo_zero {α : Type} {v : α → Bool} {num : α → Int} : ∀ (r o : List α), chkGo v num o r = 0 → (∀ x ∈ r, v x = true ∧ ∀ y ∈ o, num y ≠ num x) ∧ r.Pairwise fun a b => num a ≠ num b
 | [], _, _ => ⟨(fun x h => (by cases h)), .nil⟩
 | x :: r, o, h => by
  rw [chkGo] at h
  split at h
  ·cases h
  ·rename_i h1
   split at h
   ·cases h
   ·rename_i h2
    obtain ⟨k1, k2⟩ := chkGo_zero r (o ++ [x]) h
    refine ⟨fun y hy => ?_, List.pairwise_cons.2 ⟨fun y hy => (k1 y hy).2 x (by simp), k2⟩⟩
    rcases List.mem_cons.1 hy with rfl | hy
    ·exact ⟨by simpa using h1, fun z hz he => h2 (List.any_eq_true.2 ⟨z, hz, by simp [he]⟩)⟩
    ·exact ⟨(k1 y hy).1, fun z hz => (k1 y hy).2 z (by simp [hz])⟩
theorem chk_zero {α : Type} {v : α → Bool} {num : α → Int} {l : List α} (h : chkErr v num l = 0) : l.length ≤ 500 ∧ (∀ x ∈ l, v x = true) ∧ l.Pairwise fun a b => num a ≠ num b := by
 unfold chkErr at h
 split at h
 ·cases h
 ·obtain ⟨a, b⟩ := chkGo_zero l [] h
  exact ⟨by omega, fun x hx => (a x hx).1, b⟩
theorem ev_SameS (a : List Sg) (ha : a.length ≤ 1000000) : Ev Tryz.prog 15 [.sl 5 (a.map sgD), .sl 5 (a.map sgD)] (.bool true) := by
 have hla : (a.map sgD).length = a.length := List.length_map _
 refine ev_of_awp tysOk mixed (fn := Tryz.f15) Tryz.func15 rfl rfl rfl ?_
 conv => whnf
 repeat' (first|((with_reducible refine Split.nez (fun _=>?_) (fun _=>?_))<;>conv=>whnf)|(exfalso;first|omega|contradiction)|fail)
 refine LoopK.o2 (fun i : Nat => i ≤ a.length) (fun i => [(5, .d (.int .i64 i))]) (fun _ => []) (fun i => a.length - i) 0 (by simp) (by refine ⟨?_, ?_, rfl⟩<;>(repeat' (first|exact True.intro|exact rfl|(refine ⟨?_,?_⟩)|fail));done) ?_
 rintro i hi
 have hn : (i : Int) < a.length → ∃ m, a[i]? = some m := fun h => some_of_lt (by omega)
 conv => whnf
 repeat' (first|((with_reducible refine Split.dec (fun _=>?_) (fun _=>?_))<;>conv=>whnf)|((with_reducible refine Need.mk ?_ ?_);(first|omega|rfl|decide|(refine ⟨?_,?_⟩<;>simp<;>omega)|(simp;omega));conv=>whnf)|fail)
 ·obtain ⟨x, hx⟩ := hn (by omega)
  conv => whnf
  repeat' (first|((refine PickE.map i hx (by omega) ?_);conv=>whnf)|((with_reducible refine Split.of_true ?_);conv=>whnf)|(with_reducible refine Split.neg ?_)|((with_reducible refine Split.eqz (fun _=>?_) (fun _=>?_))<;>conv=>whnf)|(with_reducible refine Split.and ?_)|((with_reducible refine Need.mk ?_ ?_);(first|omega|rfl|decide|(refine ⟨?_,?_⟩<;>simp<;>omega)|(simp;omega));conv=>whnf)|((with_reducible refine Wr.inr ?_ ?_);(first|omega|(simp;omega));conv=>whnf)|(exfalso;first|omega|contradiction)|fail)
  exact Again.au (i + 1) (by omega) (by omega) (by refine ⟨?_, ?_, rfl⟩<;>(repeat' (first|exact True.intro|exact rfl|(refine ⟨?_,?_⟩)|fail));done)
 ·rfl
theorem ev_sameE (a : List Sg) (e : Int) (ha : a.length ≤ 1000000) : Ev Tryz.prog 14 [.sl 5 (a.map sgD), .int .i64 e, .sl 5 (a.map sgD), .int .i64 e] (.bool true) := by
 have h := ev_SameS a ha
 refine ev_of_awp tysOk mixed (fn := Tryz.f14) Tryz.func14 rfl rfl rfl ?_
 conv => whnf
 repeat' (first|((with_reducible refine Split.of_true ?_);conv=>whnf)|((with_reducible refine AltK.l ?_);(conv=>whnf);(first|(refine CallK.mk _ (h) ?_));conv=>whnf)|fail)
 all_goals simp_all [retOf]
end Go.Proofs.Tryz
end

section
namespace Go.Proofs.Tryz
open Go Go.Vm Go.Plain
set_option maxRecDepth 20000
set_option maxHeartbeats 4000000
def pRaw : List UInt8 := [114, 97, 119, 32]
theorem ext_take (s : List UInt8) (k : Nat) : (ofL s).extract 0 k = ofL (s.take k) := by
 refine ba_ext ?_
 rw [show ((ofL s).extract 0 k).data.toList = (s.drop 0).take k by
  rw [ByteArray.data_extract, Array.toList_extract]; simp [ofL]]
 rw [ofL_list, List.drop_zero]
theorem ext_drop (s : List UInt8) (k : Nat) : (ofL s).extract k (ofL s).size = ofL (s.drop k) := by
 refine ba_ext ?_
 rw [show ((ofL s).extract k (ofL s).size).data.toList = (s.drop k).take ((ofL s).size - k) by
  rw [ByteArray.data_extract, Array.toList_extract]; simp [ofL]]
 rw [ofL_list, ofL_size, List.take_of_length_le (by rw [List.length_drop]; omega)]
theorem raw_eq (m : List UInt8) : ((ofL m).toList == (⟨#[114, 97, 119, 32]⟩ : ByteArray).toList) = decide (m = pRaw) := by
 by_cases h : m = pRaw
 ·subst h; rw [decide_eq_true rfl]; exact beq_self_eq_true _
 ·rw [decide_eq_false h, Bool.eq_false_iff]
  intro h1
  exact h (ofL_inj (b := pRaw) (toList_inj (eq_of_beq h1)))
theorem ev_HasRaw (s : List UInt8) : Ev Tryz.prog 76 [wD s, .str ⟨#[114, 97, 119, 32]⟩] (.bool (decide (s.take 4 = pRaw))) := by
 have hs := ofL_size s
 have z : (⟨#[114, 97, 119, 32]⟩ : ByteArray).size = 4 := rfl
 refine ev_of_awp tysOk mixed (fn := Tryz.f76) Tryz.func76 rfl rfl rfl ?_
 conv => whnf
 repeat' (first|((with_reducible refine Split.dec (fun _=>?_) (fun _=>?_))<;>conv=>whnf)|((with_reducible refine Need.mk ?_ ?_);(first|omega|rfl|decide|(refine ⟨?_,?_⟩<;>simp<;>omega)|(simp;omega));conv=>whnf)|fail)
 ·show D.bool (((ofL s).extract 0 4).toList == (⟨#[114, 97, 119, 32]⟩ : ByteArray).toList) = _
  rw [ext_take, raw_eq]
 ·have h : s.take 4 ≠ pRaw := fun e => by
   have := congrArg List.length e
   rw [List.length_take] at this
   have h2 : pRaw.length = 4 := rfl
   omega
  rw [decide_eq_false h]; rfl
theorem ev_CutRaw0 (s : List UInt8) : Ev Tryz.prog 55 [wD s, .str ⟨#[114, 97, 119, 32]⟩] (.tup [wD (if s.take 4 = pRaw then s.drop 4 else s), .bool (decide (s.take 4 = pRaw))]) := by
 have h := ev_HasRaw s
 have hs := ofL_size s
 have z : (⟨#[114, 97, 119, 32]⟩ : ByteArray).size = 4 := rfl
 by_cases hp : s.take 4 = pRaw
 ·have hl : 4 ≤ s.length := by
   have := congrArg List.length hp
   rw [List.length_take] at this
   have h2 : pRaw.length = 4 := rfl
   omega
  rw [if_pos hp, decide_eq_true hp]
  rw [decide_eq_true hp] at h
  refine ev_of_awp tysOk mixed (fn := Tryz.f55) Tryz.func55 rfl rfl rfl ?_
  conv => whnf
  repeat' (first|((with_reducible refine Split.of_true ?_);conv=>whnf)|(with_reducible refine Split.neg ?_)|((with_reducible refine Need.mk ?_ ?_);(first|omega|rfl|decide|(refine ⟨?_,?_⟩<;>simp<;>omega)|(simp;omega));conv=>whnf)|((with_reducible refine AltK.l ?_);(conv=>whnf);(first|(refine CallK.mk _ (h) ?_));conv=>whnf)|fail)
  show D.tup [.str ((ofL s).extract 4 (ofL s).size), .bool true] = _
  rw [ext_drop]; rfl
 ·rw [if_neg hp, decide_eq_false hp]
  rw [decide_eq_false hp] at h
  refine ev_of_awp tysOk mixed (fn := Tryz.f55) Tryz.func55 rfl rfl rfl ?_
  conv => whnf
  repeat' (first|((with_reducible refine Split.of_false ?_);conv=>whnf)|(with_reducible refine Split.neg ?_)|((with_reducible refine AltK.l ?_);(conv=>whnf);(first|(refine CallK.mk _ (h) ?_));conv=>whnf)|fail)
  rfl
theorem ev_CutRaw (s : List UInt8) : Ev Tryz.prog 24 [wD s, .str ⟨#[114, 97, 119, 32]⟩] (.tup [wD (if s.take 4 = pRaw then s.drop 4 else s), .bool (decide (s.take 4 = pRaw))]) := by
 have h := ev_CutRaw0 s
 refine ev_of_awp tysOk mixed (fn := Tryz.f24) Tryz.func24 rfl rfl rfl ?_
 conv => whnf
 repeat' (first|((with_reducible refine AltK.l ?_);(conv=>whnf);(first|(refine CallK.mk _ (h) ?_));conv=>whnf)|fail)
 rfl
theorem ev_FormatRaw (r : Rw) : Ev Tryz.prog 6 [rD r] (if rawB r = true then .tup [wD (rawT r), iD 0] else .tup [.str ⟨#[]⟩, iD 2]) := by
 have h1 := ev_validRaw r
 by_cases hb : rawB r = true
 ·rw [if_pos hb]
  rw [hb] at h1
  have hJ := ev_joined (rawI r) (by simp [rawI]) (fun n hn => by have := raw_bd hb n hn; omega)
  have hln := rawT_len hb
  have hjs : (ofL (joinW ((rawI r).map Lib.itoa))).size ≤ 81 := by
   rw [ofL_size]; unfold rawT at hln; simp only [List.length_append, List.length_cons] at hln; omega
  have z : (⟨#[114, 97, 119, 32]⟩ : ByteArray).size = 4 := rfl
  have e1 : (⟨#[114, 97, 119, 32]⟩ : ByteArray) ++ ofL (joinW ((rawI r).map Lib.itoa)) = ofL (rawT r) := ofL_app pRaw _
  refine ev_of_awp tysOk mixed (fn := Tryz.f6) Tryz.func6 rfl rfl rfl ?_
  conv => whnf
  repeat' (first|((with_reducible refine Split.of_true ?_);conv=>whnf)|(with_reducible refine Split.neg ?_)|((with_reducible refine Need.mk ?_ ?_);(first|omega|rfl|decide|(refine ⟨?_,?_⟩<;>simp<;>omega)|(simp;omega));conv=>whnf)|((with_reducible refine AltK.l ?_);(conv=>whnf);(first|(refine CallK.mk _ (h1) ?_)|(refine CallK.mk _ (hJ) ?_));conv=>whnf)|fail)
  show D.tup [.str ((⟨#[114, 97, 119, 32]⟩ : ByteArray) ++ ofL (joinW ((rawI r).map Lib.itoa))), .int .i64 0] = _
  rw [e1]; rfl
 ·rw [if_neg hb]
  have hb : rawB r = false := by simpa using hb
  rw [hb] at h1
  refine ev_of_awp tysOk mixed (fn := Tryz.f6) Tryz.func6 rfl rfl rfl ?_
  conv => whnf
  repeat' (first|((with_reducible refine Split.of_false ?_);conv=>whnf)|(with_reducible refine Split.neg ?_)|((with_reducible refine AltK.l ?_);(conv=>whnf);(first|(refine CallK.mk _ (h1) ?_));conv=>whnf)|fail)
  rfl
def rw0 : Rw := ⟨0, 0, 0, 0, 0, 0, 0⟩
def prR : Option Rw → D
 | some r => .tup [rD r, iD 0]
 | none => .tup [rD rw0, iD 7]
theorem numsA_len {ws : List (List UInt8)} {l : List Int} (h : numsA ws = some l) : l.length = ws.length := by
 rw [numsA_some h, List.length_map]
theorem ev_ParseRaw (s : List UInt8) (hs : s.length ≤ 1000) : Ev Tryz.prog 8 [wD s] (prR (rdRaw s)) := by
 have hC := ev_CutRaw s
 by_cases hp : s.take 4 = pRaw
 ·rw [if_pos hp, decide_eq_true hp] at hC
  have hS := ev_split (s.drop 4) 7 (by rw [List.length_drop]; omega)
  have hr : rdRaw s = match numsA (spl 32 (s.drop 4)) with
   | some l => rwOf l
   | none => none := by
   unfold rdRaw
   rw [if_pos (show s.take 4 = [114, 97, 119, 32] from hp)]
   try (cases numsA (spl 32 (s.drop 4)) <;> rfl)
  have bad : rdRaw s = none → Ev Tryz.prog 24 [wD s, .str ⟨#[114, 97, 119, 32]⟩] (.tup [wD (s.drop 4), .bool true]) → Ev Tryz.prog 25 [wD (s.drop 4), iD 7] (.tup [.sl 1 [], .bool false]) → Ev Tryz.prog 8 [wD s] (prR (rdRaw s)) := by
   intro h0 hC hS
   rw [h0]
   refine ev_of_awp tysOk mixed (fn := Tryz.f8) Tryz.func8 rfl rfl rfl ?_
   conv => whnf
   repeat' (first|((with_reducible first|refine Split.of_true ?_|refine Split.of_false ?_);conv=>whnf)|(with_reducible refine Split.neg ?_)|((with_reducible refine Need.mk ?_ ?_);(first|omega|rfl|decide|(refine ⟨?_,?_⟩<;>simp<;>omega)|(simp;omega));conv=>whnf)|((with_reducible refine AltK.l ?_);(conv=>whnf);(first|(refine CallK.mk _ (hC) ?_)|(refine CallK.mk _ (hS) ?_));conv=>whnf)|fail)
   rfl
  cases hn : numsA (spl 32 (s.drop 4)) with
  | none =>
   rw [hn] at hr hS
   refine bad hr hC ?_
   split at hS <;> exact hS
  | some l =>
   have hln := numsA_len hn
   rw [hn] at hr hS
   have hr : rdRaw s = rwOf l := hr
   by_cases h7 : ((spl 32 (s.drop 4)).length : Int) = 7
   ·rw [if_pos h7] at hS
    match l, (show l.length = 7 by omega) with
    | [a, b, c, d, e, f, g], _ =>
    have hS : Ev Tryz.prog 25 [wD (s.drop 4), iD 7] (.tup [.sl 1 [iD a, iD b, iD c, iD d, iD e, iD f, iD g], .bool true]) := hS
    have hv := ev_validRaw ⟨a, b, c, d, e, f, g⟩
    by_cases hb : rawB ⟨a, b, c, d, e, f, g⟩ = true
    ·have hr : rdRaw s = some ⟨a, b, c, d, e, f, g⟩ := by rw [hr]; show (if _ then _ else _) = _; rw [if_pos hb]
     rw [hr]
     rw [hb] at hv
     refine ev_of_awp tysOk mixed (fn := Tryz.f8) Tryz.func8 rfl rfl rfl ?_
     conv => whnf
     repeat' (first|((refine PickE.mk _ rfl ?_);conv=>whnf)|((with_reducible refine Split.of_true ?_);conv=>whnf)|(with_reducible refine Split.neg ?_)|((with_reducible refine Need.mk ?_ ?_);(first|omega|rfl|decide|(refine ⟨?_,?_⟩<;>simp<;>omega)|(simp;omega));conv=>whnf)|((with_reducible refine AltK.l ?_);(conv=>whnf);(first|(refine CallK.mk _ (hC) ?_)|(refine CallK.mk _ (hS) ?_)|(refine CallK.mk _ (hv) ?_));conv=>whnf)|fail)
     rfl
    ·have hr : rdRaw s = none := by rw [hr]; show (if _ then _ else _) = _; rw [if_neg hb]
     rw [hr]
     have hb : rawB ⟨a, b, c, d, e, f, g⟩ = false := by simpa using hb
     rw [hb] at hv
     refine ev_of_awp tysOk mixed (fn := Tryz.f8) Tryz.func8 rfl rfl rfl ?_
     conv => whnf
     repeat' (first|((refine PickE.mk _ rfl ?_);conv=>whnf)|((with_reducible first|refine Split.of_true ?_|refine Split.of_false ?_);conv=>whnf)|(with_reducible refine Split.neg ?_)|((with_reducible refine Need.mk ?_ ?_);(first|omega|rfl|decide|(refine ⟨?_,?_⟩<;>simp<;>omega)|(simp;omega));conv=>whnf)|((with_reducible refine AltK.l ?_);(conv=>whnf);(first|(refine CallK.mk _ (hC) ?_)|(refine CallK.mk _ (hS) ?_)|(refine CallK.mk _ (hv) ?_));conv=>whnf)|fail)
     rfl
   ·rw [if_neg h7] at hS
    refine bad ?_ hC hS
    rw [hr]
    match l, hln with
    | [_, _, _, _, _, _, _], hln => exact absurd (by rw [← hln]; rfl) h7
    | [], _ | [_], _ | [_, _], _ | [_, _, _], _ | [_, _, _, _], _ | [_, _, _, _, _], _ | [_, _, _, _, _, _], _ => rfl
    | _ :: _ :: _ :: _ :: _ :: _ :: _ :: _ :: _, _ => rfl
 ·rw [if_neg hp, decide_eq_false hp] at hC
  have hr : rdRaw s = none := by unfold rdRaw; rw [if_neg (show ¬ s.take 4 = [114, 97, 119, 32] from hp)]
  rw [hr]
  have hS := ev_split s 7 (by omega)
  cases ho : (if ((spl 32 s).length : Int) = 7 then numsA (spl 32 s) else none) with
  | none =>
   rw [ho] at hS
   have hS : Ev Tryz.prog 25 [wD s, iD 7] (.tup [.sl 1 [], .bool false]) := hS
   refine ev_of_awp tysOk mixed (fn := Tryz.f8) Tryz.func8 rfl rfl rfl ?_
   conv => whnf
   repeat' (first|((with_reducible first|refine Split.of_true ?_|refine Split.of_false ?_);conv=>whnf)|(with_reducible refine Split.neg ?_)|((with_reducible refine Need.mk ?_ ?_);(first|omega|rfl|decide|(refine ⟨?_,?_⟩<;>simp<;>omega)|(simp;omega));conv=>whnf)|((with_reducible refine AltK.l ?_);(conv=>whnf);(first|(refine CallK.mk _ (hC) ?_)|(refine CallK.mk _ (hS) ?_));conv=>whnf)|fail)
   rfl
  | some l =>
   rw [ho] at hS
   have hS : Ev Tryz.prog 25 [wD s, iD 7] (.tup [.sl 1 (l.map iD), .bool true]) := hS
   refine ev_of_awp tysOk mixed (fn := Tryz.f8) Tryz.func8 rfl rfl rfl ?_
   conv => whnf
   repeat' (first|((with_reducible first|refine Split.of_true ?_|refine Split.of_false ?_);conv=>whnf)|(with_reducible refine Split.neg ?_)|((with_reducible refine Need.mk ?_ ?_);(first|omega|rfl|decide|(refine ⟨?_,?_⟩<;>simp<;>omega)|(simp;omega));conv=>whnf)|((with_reducible refine AltK.l ?_);(conv=>whnf);(first|(refine CallK.mk _ (hC) ?_)|(refine CallK.mk _ (hS) ?_));conv=>whnf)|fail)
   rfl
theorem ev_SheetNo (l : List Sg) (h0 : chkErr sgB Sg.n l ≠ 0) : Ev Tryz.prog 10 [.sl 5 (l.map sgD)] (.tup [.str ⟨#[]⟩, iD (chkErr sgB Sg.n l)]) := by
 have hC := ev_CheckS l
 refine ev_of_awp tysOk mixed (fn := Tryz.f10) Tryz.func10 rfl rfl rfl ?_
 conv => whnf
 repeat' (first|((with_reducible refine Split.nez (fun _=>?_) (fun _=>?_))<;>conv=>whnf)|((with_reducible refine AltK.l ?_);(conv=>whnf);(first|(refine CallK.mk _ (hC) ?_));conv=>whnf)|(exfalso;first|omega|contradiction)|fail)
 rfl
theorem ev_Sheet (l : List Sg) (h0 : chkErr sgB Sg.n l = 0) : Ev Tryz.prog 10 [.sl 5 (l.map sgD)] (.tup [wD (shT l), iD 0]) := by
 have hC := ev_CheckS l
 rw [h0] at hC
 obtain ⟨hl5, hall, -⟩ := chk_zero h0
 have hll : (l.map sgD).length = l.length := List.length_map _
 have hw : ∀ v t (s : ByteArray), t.size + s.size ≤ 140737488355328 → EvX Tryz.prog 28 [.ptr 5 0, .d (.str s)] [(5, .bld v 76 5 t)] (.tup [.d (.int .i64 s.size), .d (.ifc false)]) [(5, .bld (v + 1) 76 5 (t ++ s))] := fun v t s h => (xv_ws v t s h).rn [(1000, 5)] rfl
 have hs : ∀ v s, EvX Tryz.prog 29 [.ptr 5 0] [(5, .bld v 76 5 s)] (.d (.str s)) [(5, .gone)] := fun v s => (xv_str v s).rn [(1000, 5)] rfl
 refine ev_of_awp tysOk mixed (fn := Tryz.f10) Tryz.func10 rfl rfl rfl ?_
 conv => whnf
 repeat' (first|((with_reducible refine Split.is_false ?_ ?_);decide;conv=>whnf)|((with_reducible refine AltK.l ?_);(conv=>whnf);(first|(refine CallK.mk _ (hC) ?_));conv=>whnf)|fail)
 refine LoopK.o2 (fun q : Nat × List UInt8 => q.1 ≤ l.length ∧ q.2 ++ shT (l.drop q.1) = shT l ∧ q.2.length ≤ 56 * q.1) (fun q => [(15, .d (.int .i64 q.1))]) (fun q => [(5, .bld 0 76 5 (ofL q.2))]) (fun q => l.length - q.1) (0, [])
  ⟨Nat.zero_le _, rfl, Nat.zero_le _⟩ (by refine ⟨?_, ?_, rfl⟩<;>(repeat' (first|exact True.intro|exact rfl|(refine ⟨?_,?_⟩)|(intro h;cases h;done)|fail));done) ?_
 rintro ⟨i, t⟩ ⟨hi, hI, htl⟩
 have hi : i ≤ l.length := hi
 have htl : t.length ≤ 56 * i := htl
 have hts : (ofL (i, t).2).size ≤ 56 * i := by rw [ofL_size]; exact htl
 have hI : t ++ shT (l.drop i) = shT l := hI
 by_cases hil : i < l.length
 ·obtain ⟨x, hx⟩ := some_of_lt (l := l) (i := i) hil
  have hgx := hall x (List.mem_of_getElem? hx)
  have hJ := ev_joined (sgZs x) (by simp [sgZs]) (fun n hn => by have := sg_bd hgx n hn; omega)
  have hln := sgT_len hgx
  have hjs : (ofL (joinW ((sgZs x).map Lib.itoa))).size ≤ 55 := by rw [ofL_size]; exact hln
  have z3 : (⟨#[10]⟩ : ByteArray).size = 1 := rfl
  have e1 : ofL t ++ (ofL (joinW ((sgZs x).map Lib.itoa)) ++ (⟨#[10]⟩ : ByteArray)) = ofL (t ++ (sgT x ++ [10])) := ba_ext (by simp only [ba_app, ofL_list]; rfl)
  rw [drop_of hx, shT] at hI
  have hI : (t ++ (sgT x ++ [10])) ++ shT (l.drop (i + 1)) = shT l := by rw [← hI]; simp
  have hts2 : (ofL t).size ≤ 56 * i := hts
  conv => whnf
  repeat' (first|((refine PickE.map i hx (by omega) ?_);conv=>whnf)|((with_reducible refine Split.dec (fun _=>?_) (fun _=>?_))<;>conv=>whnf)|((with_reducible refine Need.mk ?_ ?_);(first|omega|rfl|decide|(refine ⟨?_,?_⟩<;>simp<;>omega)|(simp;omega));conv=>whnf)|((with_reducible refine Wr.inr ?_ ?_);(first|omega|(simp;omega));conv=>whnf)|((with_reducible refine AltK.r ?_);(conv=>whnf);(first|(refine CallX.mk _ _ (hw _ _ _ (by simp only [ByteArray.size_append];omega)) rfl ?_));conv=>whnf)|((with_reducible refine AltK.l ?_);(conv=>whnf);(first|(refine CallK.mk _ (hJ) ?_));conv=>whnf)|(exfalso;first|omega|contradiction)|fail)
  all_goals first
   |(exfalso; omega)
   | exact Again.au (i + 1, t ++ (sgT x ++ [10])) ⟨by show i + 1 ≤ _;omega, hI, by show (t ++ (sgT x ++ [10])).length ≤ 56 * (i + 1);simp only [List.length_append, List.length_singleton];omega⟩ (by show l.length - (i + 1) < l.length - i;omega) (by refine ⟨?_, ?_, rfl⟩<;>(repeat' (first|exact True.intro|exact rfl|(refine ⟨?_,?_⟩)|(intro h;cases h;done)|fail));done)
 ·have hte : t = shT l := by
   rw [← hI, List.drop_eq_nil_of_le (by omega), shT, List.append_nil]
  conv => whnf
  repeat' (first|((with_reducible refine Split.dec (fun _=>?_) (fun _=>?_))<;>conv=>whnf)|((with_reducible refine Need.mk ?_ ?_);(first|omega|rfl|decide|(refine ⟨?_,?_⟩<;>simp<;>omega)|(simp;omega));conv=>whnf)|((with_reducible refine AltK.r ?_);(conv=>whnf);(first|(refine CallX.mk _ _ (hs _ _) rfl ?_));conv=>whnf)|(exfalso;first|omega|contradiction)|fail)
  rw [← hte]; rfl
end Go.Proofs.Tryz
end

section
namespace Go.Proofs.Tryz
open Go Go.Vm Go.Plain
set_option maxRecDepth 20000
set_option maxHeartbeats 8000000
theorem joinW_snoc : ∀ (ws : List (List UInt8)) (w : List UInt8), ws ≠ [] → joinW (ws ++ [w]) = joinW ws ++ 32 :: w
 | [], _, h => absurd rfl h
 | [x], w, _ => rfl
 | x :: y :: r, w, _ => by
  rw [List.cons_append, joinW_more _ _ (by simp), joinW_snoc (y :: r) w (by simp), joinW_more x (y :: r) (by simp)]
  simp
theorem ev_row (l : List Int) (hl : l.length ≤ 10000) (hb : ∀ n ∈ l, -9223372036854775800 ≤ n ∧ n ≤ 9223372036854775800) : Ev Tryz.prog 23 [.sl 1 (l.map iD)] (wD (joinW (l.map Lib.itoa))) := by
 have hll : (l.map iD).length = l.length := List.length_map _
 refine ev_of_awp tysOk mixed (fn := Tryz.f23) Tryz.func23 rfl rfl rfl ?_
 conv => whnf
 skip
 refine LoopK.o2 (fun i : Nat => i ≤ l.length) (fun i => [(4, .d (.int .i64 i)), (3, .d (wD (joinW ((l.take i).map Lib.itoa))))]) (fun _ => []) (fun i => l.length - i) 0 (Nat.zero_le _) (by refine ⟨?_, ?_, rfl⟩<;>(repeat' (first|exact True.intro|exact rfl|(refine ⟨?_,?_⟩)|fail));done) ?_
 rintro i hi
 have hi : i ≤ l.length := hi
 have htl : (joinW ((l.take i).map Lib.itoa)).length ≤ 220000 := by
  have := joinW_len ((l.take i).map Lib.itoa) 21 fun w hw => by
   obtain ⟨n, hn, rfl⟩ := List.mem_map.1 hw
   exact itoa_len n (by have := hb n (List.mem_of_mem_take hn); omega)
  rw [List.length_map, List.length_take] at this
  omega
 have hts : (ofL (joinW ((l.take i).map Lib.itoa))).size ≤ 220000 := by rw [ofL_size]; exact htl
 have z2 : (⟨#[32]⟩ : ByteArray).size = 1 := rfl
 by_cases hil : i < l.length
 ·obtain ⟨n, hx⟩ := some_of_lt hil
  have hnb := hb n (List.mem_of_getElem? hx)
  have hI := ev_Decimal n hnb
  have hxs : (itoaB n).size ≤ 21 := by rw [ba_size, itoaB_list]; exact itoa_len n (by omega)
  cases i with
  | zero =>
   have e1 : ofL (joinW ((l.take 0).map Lib.itoa)) ++ itoaB n = ofL (joinW ((l.take 1).map Lib.itoa)) := by
    rw [take_one hx]; exact ba_ext (by rw [ba_app, itoaB_list]; rfl)
   have hmp1 := congrArg D.str e1
   have hmp2 := congrArg AV.d hmp1
   conv => whnf
   repeat' (first|((refine PickE.map 0 hx (by omega) ?_);conv=>whnf)|((with_reducible refine Split.is_false ?_ ?_);decide;conv=>whnf)|((with_reducible refine Split.dec (fun _=>?_) (fun _=>?_))<;>conv=>whnf)|((with_reducible refine Need.mk ?_ ?_);(first|omega|rfl|decide|(refine ⟨?_,?_⟩<;>simp<;>omega)|(simp;omega));conv=>whnf)|((with_reducible refine Wr.inr ?_ ?_);(first|omega|(simp;omega));conv=>whnf)|((with_reducible refine AltK.l ?_);(conv=>whnf);(first|(refine CallK.mk _ (hI) ?_));conv=>whnf)|(exfalso;first|omega|contradiction)|fail)
   all_goals first
    |(exfalso; omega)
    | exact Again.au 1 (show 1 ≤ l.length by omega) (by show l.length - 1 < l.length - 0;omega) (by refine ⟨?_, ?_, rfl⟩<;>(repeat' (first|exact True.intro|exact rfl|(refine ⟨?_,?_⟩)|exact hmp2|fail));done)
  | succ j =>
   have e1 : ofL (joinW ((l.take (j + 1)).map Lib.itoa)) ++ (⟨#[32]⟩ : ByteArray) ++ itoaB n = ofL (joinW ((l.take (j + 1 + 1)).map Lib.itoa)) := by
    rw [take_one hx, List.map_append, List.map_singleton, joinW_snoc _ _ (by
     intro e
     have := congrArg List.length e
     simp only [List.length_map, List.length_take, List.length_nil] at this
     omega)]
    exact ba_ext (by rw [ba_app, ba_app, itoaB_list, ofL_list, ofL_list]; simp)
   have hmp1 := congrArg D.str e1
   have hmp2 := congrArg AV.d hmp1
   have hsz : (ofL (joinW ((l.take (j + 1)).map Lib.itoa)) ++ (⟨#[32]⟩ : ByteArray)).size ≤ 220001 := by rw [ByteArray.size_append]; omega
   conv => whnf
   repeat' (first|((refine PickE.map (j + 1) hx (by omega) ?_);conv=>whnf)|((with_reducible refine Split.dec (fun _=>?_) (fun _=>?_))<;>conv=>whnf)|((with_reducible refine Need.mk ?_ ?_);(first|omega|rfl|decide|(refine ⟨?_,?_⟩<;>simp<;>omega)|(simp;omega));conv=>whnf)|((with_reducible refine Wr.inr ?_ ?_);(first|omega|(simp;omega));conv=>whnf)|((with_reducible refine AltK.l ?_);(conv=>whnf);(first|(refine CallK.mk _ (hI) ?_));conv=>whnf)|(exfalso;first|omega|contradiction)|fail)
   all_goals first
    |(exfalso; omega)
    | exact Again.au (j + 1 + 1) (show j + 1 + 1 ≤ l.length by omega) (by show l.length - (j + 1 + 1) < l.length - (j + 1);omega) (by refine ⟨?_, ?_, rfl⟩<;>(repeat' (first|exact True.intro|exact rfl|(refine ⟨?_,?_⟩)|exact hmp2|fail));done)
 ·have e : l.take i = l := List.take_of_length_le (by omega)
  conv => whnf
  repeat' (first|((with_reducible refine Split.dec (fun _=>?_) (fun _=>?_))<;>conv=>whnf)|((with_reducible refine Need.mk ?_ ?_);(first|omega|rfl|decide|(refine ⟨?_,?_⟩<;>simp<;>omega)|(simp;omega));conv=>whnf)|(exfalso;first|omega|contradiction)|fail)
  rw [e]; rfl
theorem digs_snoc : ∀ (l : List UInt8) (b : UInt8) (n : Nat), digs (l ++ [b]) n = if 48 ≤ b.toNat ∧ b.toNat ≤ 57 then 10 * digs l n + (b.toNat - 48) else digs l n
 | [], b, n => rfl
 | a :: l, b, n => by rw [List.cons_append, digs, digs_snoc l b, digs]
theorem bat_at {w : List UInt8} {k : Nat} {b : UInt8} (h : w[k]? = some b) : bAt (ofL w) k = (b.toNat : Int) := by
 show (match w[k]? with | some b => (b.toNat : Int) | none => _) = _
 rw [h]
def negW (w : List UInt8) (i : Nat) : Bool := decide (0 < i ∧ w.head? = some 45)
theorem ev_number (w : List UInt8) (hw : w.length ≤ 100000) : Ev Tryz.prog 58 [wD w] (iD (numR w)) := by
 have hws := ofL_size w
 refine ev_of_awp tysOk mixed (fn := Tryz.f58) Tryz.func58 rfl rfl rfl ?_
 conv => whnf
 skip
 refine LoopK.o2 (fun i : Nat => i ≤ w.length ∧ i ≤ 10) (fun i => [(5, .d (.int .i64 i)), (3, .d (.int .i64 (digs (w.take i) 0 : Nat))), (4, .d (.bool (negW w i)))]) (fun _ => []) (fun i => 10 - i) 0 ⟨Nat.zero_le _, Nat.zero_le _⟩ (by refine ⟨?_, ?_, rfl⟩<;>(repeat' (first|exact True.intro|exact rfl|(refine ⟨?_,?_⟩)|fail));done) ?_
 rintro i ⟨h1, h2⟩
 have hlt := digs_lt (w.take i) 0
 have hpw : 10 ^ (w.take i).length ≤ 10 ^ 10 := Nat.pow_le_pow_right (by decide) (by rw [List.length_take]; omega)
 have hd9 : digs (w.take i) 0 < 10000000000 := by omega
 by_cases hil : i < w.length ∧ i < 10
 ·obtain ⟨b, hx⟩ := some_of_lt (l := w) (i := i) hil.1
  have hba : bAt (ofL w) (i : Int).toNat = (b.toNat : Int) := bat_at hx
  have hsn := digs_snoc (w.take i) b 0
  rw [← take_one hx] at hsn
  have hng : negW w (i + 1) = decide (w.head? = some 45) := by unfold negW; simp
  have hhd : i = 0 → w.head? = some b := fun e => by subst e; rw [List.head?_eq_getElem?]; exact hx
  by_cases hA : i = 0 ∧ b = 45
  ·obtain ⟨rfl, rfl⟩ := hA
   rw [if_neg (by decide)] at hsn
   have hmp1 : AV.d (.int .i64 ((digs (w.take 0) 0 : Nat) : Int)) = AV.d (.int .i64 ((digs (w.take (0 + 1)) 0 : Nat) : Int)) := by rw [hsn]
   have hmp2 : AV.d (.bool true) = AV.d (.bool (negW w (0 + 1))) := by rw [hng, hhd rfl]; rfl
   conv => whnf
   repeat' (first|((with_reducible refine Split.of_false ?_);conv=>whnf)|((with_reducible refine Split.is_true ?_ ?_);decide;conv=>whnf)|((with_reducible refine Split.eqz (fun _=>?_) (fun _=>?_))<;>conv=>whnf)|((with_reducible refine Split.dec (fun _=>?_) (fun _=>?_))<;>conv=>whnf)|((with_reducible refine Split.mk (fun _=>?_) (fun _=>?_))<;>conv=>whnf)|((with_reducible refine Need.mk ?_ ?_);(first|omega|rfl|decide|(refine ⟨?_,?_⟩<;>simp<;>omega)|(simp;omega));conv=>whnf)|((with_reducible refine Wr.inr ?_ ?_);(first|omega|(simp;omega));conv=>whnf)|(exfalso;first|omega|contradiction)|fail)
   all_goals first
    | exact Again.au (0 + 1) ⟨by omega, by omega⟩ (by omega) (by refine ⟨?_, ?_, rfl⟩<;>(repeat' (first|exact True.intro|exact rfl|(refine ⟨?_,?_⟩)|(refine int_congr ?_;(first|omega|(simp;omega)))|exact hmp2|fail));done)
    |(exfalso; omega)
    |(exfalso; have h5 : bAt (ofL w) ((0 : Nat) : Int).toNat ≠ 45 := by assumption
      exact h5 hba)
  have hn2 : negW w i = negW w (i + 1) := by
   rw [hng]
   unfold negW
   by_cases h0 : i = 0
   ·have hb5 : b ≠ 45 := fun e => hA ⟨h0, e⟩
    rw [hhd h0]
    simp [h0, hb5]
   ·simp [Nat.pos_of_ne_zero h0]
  have hmp2 : AV.d (.bool (negW w i)) = AV.d (.bool (negW w (i + 1))) := by rw [hn2]
  have hb45 : i = 0 → bAt (ofL w) (i : Int).toNat ≠ 45 := fun e h => hA ⟨e, UInt8.toNat_inj.1 (by rw [show (45 : UInt8).toNat = 45 from rfl]; omega)⟩
  by_cases hdg : 48 ≤ b.toNat ∧ b.toNat ≤ 57
  ·rw [if_pos hdg] at hsn
   have hz : (10 : Int) * ((digs (w.take i) 0 : Nat) : Int) + (bAt (ofL w) (i : Int).toNat - 48) = ((digs (w.take (i + 1)) 0 : Nat) : Int) := by rw [hba, hsn]; omega
   have hmp1 := congrArg (fun z => AV.d (.int .i64 z)) hz
   conv => whnf
   repeat' (first|((refine wr_u8 (by omega) (by omega) ?_);conv=>whnf)|((with_reducible refine Split.of_false ?_);conv=>whnf)|((with_reducible refine Split.eqz (fun _=>?_) (fun _=>?_))<;>conv=>whnf)|((with_reducible refine Split.dec (fun _=>?_) (fun _=>?_))<;>conv=>whnf)|((with_reducible refine Split.mk (fun _=>?_) (fun _=>?_))<;>conv=>whnf)|((with_reducible refine Need.mk ?_ ?_);(first|omega|rfl|decide|(refine ⟨?_,?_⟩<;>simp<;>omega)|(simp;omega));conv=>whnf)|((with_reducible refine Wr.inr ?_ ?_);(first|omega|(simp;omega));conv=>whnf)|(exfalso;first|omega|contradiction)|fail)
   all_goals first
    | exact Again.au (i + 1) ⟨by omega, by omega⟩ (by omega) (by refine ⟨?_, ?_, rfl⟩<;>(repeat' (first|exact True.intro|exact rfl|(refine ⟨?_,?_⟩)|(refine int_congr ?_;(first|omega|(simp;omega)))|exact hmp2|fail));done)
    |(exfalso; omega)
    |(exfalso; exact hb45 (by omega) (by assumption))
    |(exfalso; have h5 : ¬ bAt (ofL w) (i : Int).toNat ≥ 48 := by assumption
      omega)
    |(exfalso; have h5 : ¬ bAt (ofL w) (i : Int).toNat ≤ 57 := by assumption
      omega)
  ·rw [if_neg hdg] at hsn
   have hmp1 : AV.d (.int .i64 ((digs (w.take i) 0 : Nat) : Int)) = AV.d (.int .i64 ((digs (w.take (i + 1)) 0 : Nat) : Int)) := by rw [hsn]
   conv => whnf
   repeat' (first|((with_reducible refine Split.of_false ?_);conv=>whnf)|((with_reducible refine Split.eqz (fun _=>?_) (fun _=>?_))<;>conv=>whnf)|((with_reducible refine Split.dec (fun _=>?_) (fun _=>?_))<;>conv=>whnf)|((with_reducible refine Split.mk (fun _=>?_) (fun _=>?_))<;>conv=>whnf)|((with_reducible refine Need.mk ?_ ?_);(first|omega|rfl|decide|(refine ⟨?_,?_⟩<;>simp<;>omega)|(simp;omega));conv=>whnf)|((with_reducible refine Wr.inr ?_ ?_);(first|omega|(simp;omega));conv=>whnf)|(exfalso;first|omega|contradiction)|fail)
   all_goals first
    | exact Again.au (i + 1) ⟨by omega, by omega⟩ (by omega) (by refine ⟨?_, ?_, rfl⟩<;>(repeat' (first|exact True.intro|exact rfl|(refine ⟨?_,?_⟩)|(refine int_congr ?_;(first|omega|(simp;omega)))|exact hmp2|fail));done)
    |(exfalso; exact hb45 (by omega) (by assumption))
    |(exfalso; omega)
    |(exfalso; have h5 : bAt (ofL w) (i : Int).toNat ≥ 48 := by assumption
      have h6 : bAt (ofL w) (i : Int).toNat ≤ 57 := by assumption
      omega)
 ·have hti : w.take i = w.take 10 := by
   rcases Nat.lt_or_ge i w.length with h | h
   ·rw [show i = 10 by omega]
   ·rw [List.take_of_length_le h, List.take_of_length_le (by omega)]
  have hnr : numR w = if negW w i = true then -((digs (w.take i) 0 : Nat) : Int) else ((digs (w.take i) 0 : Nat) : Int) := by
   unfold numR negW
   rw [hti]
   by_cases h0 : 0 < i
   ·simp [h0]
   ·have : w = [] := List.eq_nil_of_length_eq_zero (by omega)
    subst this
    simp [h0]
  rw [hnr]
  cases negW w i with
  | true =>
   conv => whnf
   repeat' (first|((with_reducible first|refine Split.of_true ?_|refine Split.of_false ?_);conv=>whnf)|((with_reducible refine Split.eqz (fun _=>?_) (fun _=>?_))<;>conv=>whnf)|((with_reducible refine Split.dec (fun _=>?_) (fun _=>?_))<;>conv=>whnf)|((with_reducible refine Need.mk ?_ ?_);(first|omega|rfl|decide|(refine ⟨?_,?_⟩<;>simp<;>omega)|(simp;omega));conv=>whnf)|((with_reducible refine Wr.inr ?_ ?_);(first|omega|(simp;omega));conv=>whnf)|(exfalso;first|omega|contradiction)|fail)
   all_goals first
    |(exfalso; omega)
    |(show D.int .i64 (0 - ((digs (w.take i) 0 : Nat) : Int)) = _; rw [if_pos rfl, Int.zero_sub]; rfl)
  | false =>
   conv => whnf
   repeat' (first|((with_reducible refine Split.of_false ?_);conv=>whnf)|((with_reducible refine Split.eqz (fun _=>?_) (fun _=>?_))<;>conv=>whnf)|((with_reducible refine Split.dec (fun _=>?_) (fun _=>?_))<;>conv=>whnf)|((with_reducible refine Need.mk ?_ ?_);(first|omega|rfl|decide|(refine ⟨?_,?_⟩<;>simp<;>omega)|(simp;omega));conv=>whnf)|((with_reducible refine Wr.inr ?_ ?_);(first|omega|(simp;omega));conv=>whnf)|(exfalso;first|omega|contradiction)|fail)
   all_goals first
    |(exfalso; omega)
    | rfl
end Go.Proofs.Tryz
end

section
namespace Go.Proofs.Tryz
open Go Go.Vm Go.Plain
set_option maxRecDepth 20000
set_option maxHeartbeats 8000000
theorem ev_FormatRawR (r : Rw) : Ev Tryz.prog 7 [rD r] (if rawB r = true then .tup [wD (rawT r), iD 0] else .tup [.str ⟨#[]⟩, iD 2]) := by
 have h1 := ev_ValidRaw r
 by_cases hb : rawB r = true
 ·rw [if_pos hb]
  rw [hb] at h1
  have hJ := ev_row (rawI r) (by simp [rawI]) (fun n hn => by have := raw_bd hb n hn; omega)
  have hln := rawT_len hb
  have hjs : (ofL (joinW ((rawI r).map Lib.itoa))).size ≤ 81 := by
   rw [ofL_size]; unfold rawT at hln; simp only [List.length_append, List.length_cons] at hln; omega
  have z : (⟨#[114, 97, 119, 32]⟩ : ByteArray).size = 4 := rfl
  have e1 : (⟨#[114, 97, 119, 32]⟩ : ByteArray) ++ ofL (joinW ((rawI r).map Lib.itoa)) = ofL (rawT r) := ofL_app pRaw _
  refine ev_of_awp tysOk mixed (fn := Tryz.f7) Tryz.func7 rfl rfl rfl ?_
  conv => whnf
  repeat' (first|((with_reducible refine Split.of_true ?_);conv=>whnf)|(with_reducible refine Split.neg ?_)|((with_reducible refine Need.mk ?_ ?_);(first|omega|rfl|decide|(refine ⟨?_,?_⟩<;>simp<;>omega)|(simp;omega));conv=>whnf)|((with_reducible refine AltK.l ?_);(conv=>whnf);(first|(refine CallK.mk _ (h1) ?_)|(refine CallK.mk _ (hJ) ?_));conv=>whnf)|fail)
  show D.tup [.str ((⟨#[114, 97, 119, 32]⟩ : ByteArray) ++ ofL (joinW ((rawI r).map Lib.itoa))), .int .i64 0] = _
  rw [e1]; rfl
 ·rw [if_neg hb]
  have hb : rawB r = false := by simpa using hb
  rw [hb] at h1
  refine ev_of_awp tysOk mixed (fn := Tryz.f7) Tryz.func7 rfl rfl rfl ?_
  conv => whnf
  repeat' (first|((with_reducible refine Split.of_false ?_);conv=>whnf)|(with_reducible refine Split.neg ?_)|((with_reducible refine AltK.l ?_);(conv=>whnf);(first|(refine CallK.mk _ (h1) ?_));conv=>whnf)|fail)
  rfl
theorem ev_numbersN (s : List UInt8) (k : Nat) (hs : s.length ≤ 90000) (hk : k ≤ (spl 32 s).length) : Ev Tryz.prog 26 [wD s, iD (k : Int)] (.sl 1 ((((spl 32 s).drop k).map numR).map iD)) := by
 have hC : Ev Tryz.prog 34 [wD s, .int .u8 32] (.sl 1 ((spl 32 s).map wD)) := ev_BaseCut (ofL s) 32 (by rw [ofL_size]; omega)
 have hsz := spl_size 32 s
 have hea := spl_each 32 s
 generalize spl 32 s = ws at *
 have hlw : (ws.map wD).length = ws.length := List.length_map _
 refine ev_of_awp tysOk mixed (fn := Tryz.f26) Tryz.func26 rfl rfl rfl ?_
 conv => whnf
 repeat' (first|((with_reducible refine AltK.l ?_);(conv=>whnf);(first|(refine CallK.mk _ (hC) ?_));conv=>whnf)|fail)
 refine LoopK.o2 (fun q : Nat × List Int => k ≤ q.1 ∧ q.1 ≤ ws.length ∧ q.2 ++ ((ws.drop q.1).map numR) = (ws.drop k).map numR ∧ q.2.length ≤ q.1) (fun q => [(7, .d (.int .i64 q.1)), (6, .own 200 1 q.2.length)]) (fun q => [(200, .row 3 1 (q.2.map iD) false)]) (fun q => ws.length - q.1) (k, [])
  ⟨Nat.le_refl _, hk, rfl, Nat.zero_le _⟩ (by refine ⟨?_, ?_, rfl⟩<;>(repeat' (first|exact True.intro|exact rfl|(refine ⟨?_,?_⟩)|fail));done) ?_
 rintro ⟨i, l⟩ ⟨hki, hi, hI, hll⟩
 have hki : k ≤ i := hki
 have hi : i ≤ ws.length := hi
 have hll : l.length ≤ i := hll
 have hI : l ++ (ws.drop i).map numR = (ws.drop k).map numR := hI
 have hlm : (l.map iD).length = l.length := List.length_map _
 by_cases hil : i < ws.length
 ·obtain ⟨w, hx⟩ := some_of_lt (l := ws) (i := i) hil
  have hxw := hea w (List.mem_of_getElem? hx)
  have hN := ev_number w (by omega)
  rw [drop_of hx, List.map_cons] at hI
  have hI : (l ++ [numR w]) ++ (ws.drop (i + 1)).map numR = (ws.drop k).map numR := by rw [← hI]; simp
  have hmp1 : l.map iD ++ [iD (numR w)] = (l ++ [numR w]).map iD := by rw [List.map_append]; rfl
  conv => whnf
  repeat' (first|((refine PickE.map i hx (by omega) ?_);conv=>whnf)|((with_reducible refine Split.dec (fun _=>?_) (fun _=>?_))<;>conv=>whnf)|((with_reducible refine Need.mk ?_ ?_);(first|omega|rfl|decide|(refine ⟨?_,?_⟩<;>simp<;>omega)|(simp;omega));conv=>whnf)|((with_reducible refine Wr.inr ?_ ?_);(first|omega|(simp;omega));conv=>whnf)|((with_reducible refine AltK.l ?_);(conv=>whnf);(first|(refine CallK.mk _ (hN) ?_));conv=>whnf)|(exfalso;first|omega|contradiction)|fail)
  exact Again.au (i + 1, l ++ [numR w]) ⟨by show k ≤ i + 1;omega, by show i + 1 ≤ _;omega, hI, by show (l ++ [numR w]).length ≤ i + 1;rw [List.length_append];simp;omega⟩ (by show ws.length - (i + 1) < ws.length - i;omega) (by refine ⟨?_, ?_, rfl⟩<;>(repeat' (first|exact True.intro|exact rfl|(refine ⟨?_,?_⟩)|(intro h;cases h;done)|exact map_snoc|(refine own_congr ?_;simp;done)|fail));done)
 ·rw [List.drop_eq_nil_of_le (by omega), List.map_nil, List.append_nil] at hI
  conv => whnf
  repeat' (first|((with_reducible refine Split.dec (fun _=>?_) (fun _=>?_))<;>conv=>whnf)|((with_reducible refine Need.mk ?_ ?_);(first|omega|rfl|decide|(refine ⟨?_,?_⟩<;>simp<;>omega)|(simp;omega));conv=>whnf)|(exfalso;first|omega|contradiction)|fail)
  rw [← hI]; rfl
theorem ev_ParseRawR (s : List UInt8) (hs : s.length ≤ 1000) : Ev Tryz.prog 9 [wD s] (prR (rdRaw s)) := by
 have hz := ofL_size s
 rw [← refRaw_eq]
 by_cases hl : 200 < s.length
 ·have hr : refRaw s = none := by unfold refRaw; rw [if_pos hl]
  rw [hr]
  refine ev_of_awp tysOk mixed (fn := Tryz.f9) Tryz.func9 rfl rfl rfl ?_
  conv => whnf
  repeat' (first|((with_reducible refine Split.dec (fun _=>?_) (fun _=>?_))<;>conv=>whnf)|((with_reducible refine Need.mk ?_ ?_);(first|omega|rfl|decide|(refine ⟨?_,?_⟩<;>simp<;>omega)|(simp;omega));conv=>whnf)|(exfalso;first|omega|contradiction)|fail)
  all_goals first
   |(exfalso; omega)
   | rfl
 have hN := ev_numbersN s 1 (by omega) (Nat.pos_of_ne_zero fun e => spl_ne 32 s (List.eq_nil_of_length_eq_zero e))
 have hr : refRaw s = match rwOf (((spl 32 s).drop 1).map numR) with
  | some r => if rawT r = s then some r else none
  | none => none := by
  unfold refRaw
  rw [if_neg hl]
  try (cases rwOf (((spl 32 s).drop 1).map numR) <;> rfl)
 generalize ((spl 32 s).drop 1).map numR = l at *
 have hlm : (l.map iD).length = l.length := List.length_map _
 by_cases h7 : l.length = 7
 ·match l, h7 with
  | [a, b, c, d, e, f, g], _ =>
  have hF := ev_FormatRawR ⟨a, b, c, d, e, f, g⟩
  by_cases hb : rawB ⟨a, b, c, d, e, f, g⟩ = true
  ·have ho : rwOf [a, b, c, d, e, f, g] = some ⟨a, b, c, d, e, f, g⟩ := by show (if _ then _ else _) = _; rw [if_pos hb]
   rw [if_pos hb] at hF
   rw [ho] at hr
   by_cases ht : rawT ⟨a, b, c, d, e, f, g⟩ = s
   ·have hr : refRaw s = some ⟨a, b, c, d, e, f, g⟩ := by rw [hr]; show (if _ then _ else _) = _; rw [if_pos ht]
    rw [hr]
    rw [ht] at hF
    refine ev_of_awp tysOk mixed (fn := Tryz.f9) Tryz.func9 rfl rfl rfl ?_
    conv => whnf
    repeat' (first|((refine PickE.mk _ rfl ?_);conv=>whnf)|(with_reducible refine Split.neg ?_)|((with_reducible refine Split.is_false ?_ ?_);decide;conv=>whnf)|((with_reducible refine Split.nez (fun _=>?_) (fun _=>?_))<;>conv=>whnf)|((with_reducible refine Split.streq (fun _=>?_) (fun _=>?_))<;>conv=>whnf)|((with_reducible refine Split.dec (fun _=>?_) (fun _=>?_))<;>conv=>whnf)|((with_reducible refine Need.mk ?_ ?_);(first|omega|rfl|decide|(refine ⟨?_,?_⟩<;>simp<;>omega)|(simp;omega));conv=>whnf)|((with_reducible refine AltK.l ?_);(conv=>whnf);(first|(refine CallK.mk _ (hN) ?_)|(refine CallK.mk _ (hF) ?_));conv=>whnf)|(exfalso;first|omega|contradiction)|fail)
    all_goals first
     |(exfalso; omega)
     | rfl
   ·have hr : refRaw s = none := by rw [hr]; show (if _ then _ else _) = _; rw [if_neg ht]
    rw [hr]
    have htn : ofL (rawT ⟨a, b, c, d, e, f, g⟩) ≠ ofL s := fun e => ht (ofL_inj e)
    refine ev_of_awp tysOk mixed (fn := Tryz.f9) Tryz.func9 rfl rfl rfl ?_
    conv => whnf
    repeat' (first|((refine PickE.mk _ rfl ?_);conv=>whnf)|(with_reducible refine Split.neg ?_)|((with_reducible refine Split.is_false ?_ ?_);decide;conv=>whnf)|((with_reducible refine Split.nez (fun _=>?_) (fun _=>?_))<;>conv=>whnf)|((with_reducible refine Split.streq (fun _=>?_) (fun _=>?_))<;>conv=>whnf)|((with_reducible refine Split.dec (fun _=>?_) (fun _=>?_))<;>conv=>whnf)|((with_reducible refine Need.mk ?_ ?_);(first|omega|rfl|decide|(refine ⟨?_,?_⟩<;>simp<;>omega)|(simp;omega));conv=>whnf)|((with_reducible refine AltK.l ?_);(conv=>whnf);(first|(refine CallK.mk _ (hN) ?_)|(refine CallK.mk _ (hF) ?_));conv=>whnf)|(exfalso;first|omega|contradiction)|fail)
    all_goals first
     |(exfalso; omega)
     | rfl
     |(exfalso; contradiction)
  ·have ho : rwOf [a, b, c, d, e, f, g] = none := by show (if _ then _ else _) = _; rw [if_neg hb]
   rw [if_neg hb] at hF
   rw [ho] at hr
   have hr : refRaw s = none := hr
   rw [hr]
   refine ev_of_awp tysOk mixed (fn := Tryz.f9) Tryz.func9 rfl rfl rfl ?_
   conv => whnf
   repeat' (first|((refine PickE.mk _ rfl ?_);conv=>whnf)|((with_reducible refine Split.of_true ?_);conv=>whnf)|((with_reducible refine Split.is_true ?_ ?_);decide;conv=>whnf)|((with_reducible refine Split.nez (fun _=>?_) (fun _=>?_))<;>conv=>whnf)|((with_reducible refine Split.dec (fun _=>?_) (fun _=>?_))<;>conv=>whnf)|((with_reducible refine Need.mk ?_ ?_);(first|omega|rfl|decide|(refine ⟨?_,?_⟩<;>simp<;>omega)|(simp;omega));conv=>whnf)|((with_reducible refine AltK.l ?_);(conv=>whnf);(first|(refine CallK.mk _ (hN) ?_)|(refine CallK.mk _ (hF) ?_));conv=>whnf)|(exfalso;first|omega|contradiction)|fail)
   all_goals first
    |(exfalso; omega)
    | rfl
 ·have hr : refRaw s = none := by
   rw [hr]
   match l, h7 with
   | [_, _, _, _, _, _, _], h7 => exact absurd rfl h7
   | [], _ | [_], _ | [_, _], _ | [_, _, _], _ | [_, _, _, _], _ | [_, _, _, _, _], _ | [_, _, _, _, _, _], _ => rfl
   | _ :: _ :: _ :: _ :: _ :: _ :: _ :: _ :: _, _ => rfl
  rw [hr]
  refine ev_of_awp tysOk mixed (fn := Tryz.f9) Tryz.func9 rfl rfl rfl ?_
  conv => whnf
  repeat' (first|((with_reducible refine Split.nez (fun _=>?_) (fun _=>?_))<;>conv=>whnf)|((with_reducible refine Split.dec (fun _=>?_) (fun _=>?_))<;>conv=>whnf)|((with_reducible refine Need.mk ?_ ?_);(first|omega|rfl|decide|(refine ⟨?_,?_⟩<;>simp<;>omega)|(simp;omega));conv=>whnf)|((with_reducible refine AltK.l ?_);(conv=>whnf);(first|(refine CallK.mk _ (hN) ?_));conv=>whnf)|(exfalso;first|omega|contradiction)|fail)
  all_goals first
   |(exfalso; omega)
   | rfl
theorem ev_lineS (x : Sg) (h : sgB x = true) : Ev Tryz.prog 31 [sgD x] (wD (sgT x)) := by
 have hJ := ev_row (sgZs x) (by simp [sgZs]) (fun n hn => by have := sg_bd h n hn; omega)
 refine ev_of_awp tysOk mixed (fn := Tryz.f31) Tryz.func31 rfl rfl rfl ?_
 conv => whnf
 repeat' (first|((with_reducible refine AltK.l ?_);(conv=>whnf);(first|(refine CallK.mk _ (hJ) ?_));conv=>whnf)|fail)
 rfl
end Go.Proofs.Tryz
end

section
namespace Go.Proofs.Tryz
open Go Go.Vm Go.Plain
set_option maxRecDepth 20000
set_option maxHeartbeats 8000000
theorem ev_SheetRNo (l : List Sg) (h0 : chkErr sgB Sg.n l ≠ 0) : Ev Tryz.prog 11 [.sl 5 (l.map sgD)] (.tup [.str ⟨#[]⟩, iD (chkErr sgB Sg.n l)]) := by
 have hC := ev_CheckSR l
 refine ev_of_awp tysOk mixed (fn := Tryz.f11) Tryz.func11 rfl rfl rfl ?_
 conv => whnf
 repeat' (first|((with_reducible refine Split.nez (fun _=>?_) (fun _=>?_))<;>conv=>whnf)|((with_reducible refine AltK.l ?_);(conv=>whnf);(first|(refine CallK.mk _ (hC) ?_));conv=>whnf)|(exfalso;first|omega|contradiction)|fail)
 rfl
theorem ev_SheetR (l : List Sg) (h0 : chkErr sgB Sg.n l = 0) : Ev Tryz.prog 11 [.sl 5 (l.map sgD)] (.tup [wD (shT l), iD 0]) := by
 have hC := ev_CheckSR l
 rw [h0] at hC
 obtain ⟨hl5, hall, -⟩ := chk_zero h0
 have hll : (l.map sgD).length = l.length := List.length_map _
 refine ev_of_awp tysOk mixed (fn := Tryz.f11) Tryz.func11 rfl rfl rfl ?_
 conv => whnf
 repeat' (first|((with_reducible refine Split.is_false ?_ ?_);decide;conv=>whnf)|((with_reducible refine AltK.l ?_);(conv=>whnf);(first|(refine CallK.mk _ (hC) ?_));conv=>whnf)|fail)
 refine LoopK.o2 (fun q : Nat × List UInt8 => q.1 ≤ l.length ∧ q.2 ++ shT (l.drop q.1) = shT l ∧ q.2.length ≤ 56 * q.1) (fun q => [(6, .d (.int .i64 q.1)), (5, .d (wD q.2))]) (fun _ => []) (fun q => l.length - q.1) (0, [])
  ⟨Nat.zero_le _, rfl, Nat.zero_le _⟩ (by refine ⟨?_, ?_, rfl⟩<;>(repeat' (first|exact True.intro|exact rfl|(refine ⟨?_,?_⟩)|fail));done) ?_
 rintro ⟨i, t⟩ ⟨hi, hI, htl⟩
 have hi : i ≤ l.length := hi
 have htl : t.length ≤ 56 * i := htl
 have hts : (ofL (i, t).2).size ≤ 56 * i := by rw [ofL_size]; exact htl
 have hts2 : (ofL t).size ≤ 56 * i := hts
 have hI : t ++ shT (l.drop i) = shT l := hI
 by_cases hil : i < l.length
 ·obtain ⟨x, hx⟩ := some_of_lt (l := l) (i := i) hil
  have hgx := hall x (List.mem_of_getElem? hx)
  have hJ := ev_lineS x hgx
  have hln := sgT_len hgx
  have hjs : (ofL (sgT x)).size ≤ 55 := by rw [ofL_size]; exact hln
  have z3 : (⟨#[10]⟩ : ByteArray).size = 1 := rfl
  have e1 : ofL t ++ ofL (sgT x) ++ (⟨#[10]⟩ : ByteArray) = ofL (t ++ (sgT x ++ [10])) := ba_ext (by simp only [ba_app, ofL_list, List.append_assoc])
  have hmp1 := congrArg D.str e1
  have hmp2 := congrArg AV.d hmp1
  have hsz : (ofL (i, t).2 ++ ofL (sgT x)).size ≤ 56 * i + 55 := by rw [ByteArray.size_append]; omega
  rw [drop_of hx, shT] at hI
  have hI : (t ++ (sgT x ++ [10])) ++ shT (l.drop (i + 1)) = shT l := by rw [← hI]; simp
  conv => whnf
  repeat' (first|((refine PickE.map i hx (by omega) ?_);conv=>whnf)|((with_reducible refine Split.dec (fun _=>?_) (fun _=>?_))<;>conv=>whnf)|((with_reducible refine Need.mk ?_ ?_);(first|omega|rfl|decide|(refine ⟨?_,?_⟩<;>simp<;>omega)|(simp;omega));conv=>whnf)|((with_reducible refine Wr.inr ?_ ?_);(first|omega|(simp;omega));conv=>whnf)|((with_reducible refine AltK.l ?_);(conv=>whnf);(first|(refine CallK.mk _ (hJ) ?_));conv=>whnf)|(exfalso;first|omega|contradiction)|fail)
  all_goals first
   |(exfalso; omega)
   | exact Again.au (i + 1, t ++ (sgT x ++ [10])) ⟨by show i + 1 ≤ _;omega, hI, by show (t ++ (sgT x ++ [10])).length ≤ 56 * (i + 1);simp only [List.length_append, List.length_singleton];omega⟩ (by show l.length - (i + 1) < l.length - i;omega) (by refine ⟨?_, ?_, rfl⟩<;>(repeat' (first|exact True.intro|exact rfl|(refine ⟨?_,?_⟩)|exact hmp2|fail));done)
 ·have hte : t = shT l := by
   rw [← hI, List.drop_eq_nil_of_le (by omega), shT, List.append_nil]
  conv => whnf
  repeat' (first|((with_reducible refine Split.dec (fun _=>?_) (fun _=>?_))<;>conv=>whnf)|((with_reducible refine Need.mk ?_ ?_);(first|omega|rfl|decide|(refine ⟨?_,?_⟩<;>simp<;>omega)|(simp;omega));conv=>whnf)|(exfalso;first|omega|contradiction)|fail)
  rw [← hte]; rfl
def psK : Except Nat (List Sg) → D
 | .ok l => if chkErr sgB Sg.n l = 0 then .tup [.sl 5 (l.map sgD), iD 0, iD 0] else .tup [.sl 5 [], iD 0, iD (chkErr sgB Sg.n l)]
 | .error n => .tup [.sl 5 [], iD (n : Int), iD 7]
theorem psK_ok {l : List Sg} (h : chkErr sgB Sg.n l = 0) : psK (.ok l) = .tup [.sl 5 (l.map sgD), iD 0, iD 0] := by
 show (if chkErr sgB Sg.n l = 0 then D.tup [.sl 5 (l.map sgD), iD 0, iD 0] else .tup [.sl 5 [], iD 0, iD (chkErr sgB Sg.n l)]) = _
 rw [if_pos h]
theorem psK_no {l : List Sg} (h : chkErr sgB Sg.n l ≠ 0) : psK (.ok l) = .tup [.sl 5 [], iD 0, iD (chkErr sgB Sg.n l)] := by
 show (if chkErr sgB Sg.n l = 0 then D.tup [.sl 5 (l.map sgD), iD 0, iD 0] else .tup [.sl 5 [], iD 0, iD (chkErr sgB Sg.n l)]) = _
 rw [if_neg h]
theorem runS_more {n : Nat} {o : List Sg} {x : List UInt8} {l : List (List UInt8)} (h : l ≠ []) : runS n o (x :: l) = match rdSg x with
 | some v => runS (n + 1) (o ++ [v]) l
 | none => .error n := by
 cases l with
 | nil => exact absurd rfl h
 | cons z l => rw [runS]; try (cases rdSg x <;> rfl)
theorem drop_last {α : Type} {l : List α} {i : Nat} {x : α} (h : l[i]? = some x) (he : i + 1 = l.length) : l.drop i = [x] := by
 rw [drop_of h, List.drop_eq_nil_of_le (by omega)]
theorem ev_ParseSheetR (s : List UInt8) (hs : s.length ≤ 60000) : Ev Tryz.prog 13 [wD s] (psK (runS 1 [] (spl 10 s))) := by
 have hz := ofL_size s
 have hC : Ev Tryz.prog 34 [wD s, .int .u8 10] (.sl 1 ((spl 10 s).map wD)) := ev_BaseCut (ofL s) 10 (by rw [ofL_size]; omega)
 have hsz := spl_size 10 s
 have hea := spl_each 10 s
 have hne := spl_ne 10 s
 generalize spl 10 s = L at *
 have hlL : (L.map wD).length = L.length := List.length_map _
 have hL0 : L.length ≠ 0 := fun e => hne (List.length_eq_zero_iff.1 e)
 refine ev_of_awp tysOk mixed (fn := Tryz.f13) Tryz.func13 rfl rfl rfl ?_
 conv => whnf
 repeat' (first|((with_reducible refine Split.dec (fun _=>?_) (fun _=>?_))<;>conv=>whnf)|((with_reducible refine AltK.l ?_);(conv=>whnf);(first|(refine CallK.mk _ (hC) ?_));conv=>whnf)|(exfalso;first|omega|contradiction)|fail)
 all_goals try (exfalso; omega)
 refine LoopK.o2 (fun q : Nat × List Sg => q.1 < L.length ∧ runS (q.1 + 1) q.2 (L.drop q.1) = runS 1 [] L ∧ q.2.length ≤ q.1) (fun q => [(7, .d (.int .i64 q.1)), (6, .own 200 5 q.2.length)]) (fun q => [(200, .row 52 5 (q.2.map sgD) false)]) (fun q => L.length - q.1) (0, [])
  ⟨by show 0 < L.length;omega, rfl, Nat.zero_le _⟩ (by refine ⟨?_, ?_, rfl⟩<;>(repeat' (first|exact True.intro|exact rfl|(refine ⟨?_,?_⟩)|fail));done) ?_
 rintro ⟨i, o⟩ ⟨hi, hR, hol⟩
 have hi : i < L.length := hi
 have hol : o.length ≤ i := hol
 have hR : runS (i + 1) o (L.drop i) = runS 1 [] L := hR
 rw [← hR]
 have hom : (o.map sgD).length = o.length := List.length_map _
 obtain ⟨x, hx⟩ := some_of_lt (l := L) (i := i) hi
 have hxl := hea x (List.mem_of_getElem? hx)
 have hxz := ofL_size x
 have hN : Ev Tryz.prog 26 [wD x, iD 0] (.sl 1 (((spl 32 x).map numR).map iD)) := ev_numbersN x 0 (by omega) (Nat.zero_le _)
 by_cases hlast : i + 1 = L.length
 ·rw [drop_last hx hlast]
  by_cases hx0 : x = []
  ·subst hx0
   have hrun : runS (i + 1) o [[]] = .ok o := by rw [runS, if_pos rfl]
   rw [hrun]
   have hK := ev_CheckSR o
   by_cases h0 : chkErr sgB Sg.n o = 0
   ·rw [h0] at hK
    conv => whnf
    repeat' (first|((refine PickE.map i hx (by omega) ?_);conv=>whnf)|((with_reducible refine Split.of_false ?_);conv=>whnf)|((with_reducible refine Split.is_false ?_ ?_);decide;conv=>whnf)|((with_reducible refine Split.eqz (fun _=>?_) (fun _=>?_))<;>conv=>whnf)|((with_reducible refine Split.streq (fun _=>?_) (fun _=>?_))<;>conv=>whnf)|((with_reducible refine Split.dec (fun _=>?_) (fun _=>?_))<;>conv=>whnf)|((with_reducible refine Need.mk ?_ ?_);(first|omega|rfl|decide|(refine ⟨?_,?_⟩<;>simp<;>omega)|(simp;omega));conv=>whnf)|((with_reducible refine Wr.inr ?_ ?_);(first|omega|(simp;omega));conv=>whnf)|((with_reducible refine AltK.l ?_);(conv=>whnf);(first|(refine CallK.mk _ (hK) ?_));conv=>whnf)|(exfalso;first|omega|contradiction)|fail)
    all_goals first
     |(exfalso; omega)
     |(exfalso; contradiction)
     |(rw [psK_ok h0]; rfl)
   ·conv => whnf
    repeat' (first|((refine PickE.map i hx (by omega) ?_);conv=>whnf)|((with_reducible refine Split.of_false ?_);conv=>whnf)|((with_reducible refine Split.nez (fun _=>?_) (fun _=>?_))<;>conv=>whnf)|((with_reducible refine Split.eqz (fun _=>?_) (fun _=>?_))<;>conv=>whnf)|((with_reducible refine Split.streq (fun _=>?_) (fun _=>?_))<;>conv=>whnf)|((with_reducible refine Split.dec (fun _=>?_) (fun _=>?_))<;>conv=>whnf)|((with_reducible refine Need.mk ?_ ?_);(first|omega|rfl|decide|(refine ⟨?_,?_⟩<;>simp<;>omega)|(simp;omega));conv=>whnf)|((with_reducible refine Wr.inr ?_ ?_);(first|omega|(simp;omega));conv=>whnf)|((with_reducible refine AltK.l ?_);(conv=>whnf);(first|(refine CallK.mk _ (hK) ?_));conv=>whnf)|(exfalso;first|omega|contradiction)|fail)
    all_goals first
     |(exfalso; omega)
     |(exfalso; contradiction)
     |(rw [psK_no h0]; rfl)
  ·have hrun : runS (i + 1) o [x] = .error (i + 1) := by rw [runS, if_neg hx0]
   rw [hrun]
   have hxn : ofL x ≠ ⟨#[]⟩ := fun e => hx0 (ofL_inj e)
   conv => whnf
   repeat' (first|((refine PickE.map i hx (by omega) ?_);conv=>whnf)|((with_reducible first|refine Split.of_true ?_|refine Split.of_false ?_);conv=>whnf)|((with_reducible refine Split.nez (fun _=>?_) (fun _=>?_))<;>conv=>whnf)|((with_reducible refine Split.eqz (fun _=>?_) (fun _=>?_))<;>conv=>whnf)|((with_reducible refine Split.streq (fun _=>?_) (fun _=>?_))<;>conv=>whnf)|((with_reducible refine Split.dec (fun _=>?_) (fun _=>?_))<;>conv=>whnf)|((with_reducible refine Need.mk ?_ ?_);(first|omega|rfl|decide|(refine ⟨?_,?_⟩<;>simp<;>omega)|(simp;omega));conv=>whnf)|((with_reducible refine Wr.inr ?_ ?_);(first|omega|(simp;omega));conv=>whnf)|((with_reducible refine AltK.l ?_);(conv=>whnf);(first|(refine CallK.mk _ (hN) ?_));conv=>whnf)|(exfalso;first|omega|contradiction)|fail)
   all_goals first
    |(exfalso; omega)
    |(exfalso; contradiction)
    | rfl
 rw [drop_of hx]
 have hdn : L.drop (i + 1) ≠ [] := fun e => by have := List.drop_eq_nil_iff.1 e; omega
 rw [runS_more hdn]
 have hrf := refSg_eq x
 unfold refSg at hrf
 by_cases hbig : 200 < x.length
 ·rw [if_pos hbig] at hrf
  rw [← hrf]
  conv => whnf
  repeat' (first|((refine PickE.map i hx (by omega) ?_);conv=>whnf)|((with_reducible first|refine Split.of_true ?_|refine Split.of_false ?_);conv=>whnf)|((with_reducible refine Split.nez (fun _=>?_) (fun _=>?_))<;>conv=>whnf)|((with_reducible refine Split.eqz (fun _=>?_) (fun _=>?_))<;>conv=>whnf)|((with_reducible refine Split.streq (fun _=>?_) (fun _=>?_))<;>conv=>whnf)|((with_reducible refine Split.dec (fun _=>?_) (fun _=>?_))<;>conv=>whnf)|((with_reducible refine Need.mk ?_ ?_);(first|omega|rfl|decide|(refine ⟨?_,?_⟩<;>simp<;>omega)|(simp;omega));conv=>whnf)|((with_reducible refine Wr.inr ?_ ?_);(first|omega|(simp;omega));conv=>whnf)|((with_reducible refine AltK.l ?_);(conv=>whnf);(first|(refine CallK.mk _ (hN) ?_));conv=>whnf)|(exfalso;first|omega|contradiction)|fail)
  all_goals first
   |(exfalso; omega)
   |(exfalso; contradiction)
   | rfl
 rw [if_neg hbig] at hrf
 generalize (spl 32 x).map numR = l at *
 have hlm : (l.map iD).length = l.length := List.length_map _
 by_cases h5 : l.length = 5
 ·match l, h5 with
  | [a, b, c, d, e], _ =>
  have hV := ev_ValidR ⟨a, b, c, d, e⟩
  by_cases hb : sgB ⟨a, b, c, d, e⟩ = true
  ·have ho : sgOf [a, b, c, d, e] = some ⟨a, b, c, d, e⟩ := by show (if _ then _ else _) = _; rw [if_pos hb]
   rw [ho] at hrf
   rw [hb] at hV
   have hJ := ev_lineS ⟨a, b, c, d, e⟩ hb
   by_cases ht : sgT ⟨a, b, c, d, e⟩ = x
   ·have hrf : some (⟨a, b, c, d, e⟩ : Sg) = rdSg x := by rw [← hrf]; show _ = (if _ then _ else _); rw [if_pos ht]
    rw [← hrf]
    rw [ht] at hJ
    have hmp1 : o.map sgD ++ D.agg [iD a, iD b, iD c, iD d, iD e] :: List.replicate 0 (D.agg [iD 0, iD 0, iD 0, iD 0, iD 0]) = (o ++ [(⟨a, b, c, d, e⟩ : Sg)]).map sgD := by rw [List.map_append]; rfl
    conv => whnf
    repeat' (first|((refine PickE.mk (iD e) rfl ?_);conv=>whnf)|((refine PickE.mk (iD d) rfl ?_);conv=>whnf)|((refine PickE.mk (iD c) rfl ?_);conv=>whnf)|((refine PickE.mk (iD b) rfl ?_);conv=>whnf)|((refine PickE.mk (iD a) rfl ?_);conv=>whnf)|((refine PickE.map i hx (by omega) ?_);conv=>whnf)|((with_reducible first|refine Split.of_true ?_|refine Split.of_false ?_);conv=>whnf)|(with_reducible refine Split.neg ?_)|((with_reducible refine Split.nez (fun _=>?_) (fun _=>?_))<;>conv=>whnf)|((with_reducible refine Split.eqz (fun _=>?_) (fun _=>?_))<;>conv=>whnf)|((with_reducible refine Split.streq (fun _=>?_) (fun _=>?_))<;>conv=>whnf)|((with_reducible refine Split.dec (fun _=>?_) (fun _=>?_))<;>conv=>whnf)|((with_reducible refine Need.mk ?_ ?_);(first|omega|rfl|decide|(refine ⟨?_,?_⟩<;>simp<;>omega)|(simp;omega));conv=>whnf)|((with_reducible refine Wr.inr ?_ ?_);(first|omega|(simp;omega));conv=>whnf)|((with_reducible refine AltK.l ?_);(conv=>whnf);(first|(refine CallK.mk _ (hN) ?_)|(refine CallK.mk _ (hV) ?_)|(refine CallK.mk _ (hJ) ?_));conv=>whnf)|(exfalso;first|omega|contradiction)|fail)
    all_goals first
     |(exfalso; omega)
     |(exfalso; contradiction)
     | exact Again.au (i + 1, o ++ [(⟨a, b, c, d, e⟩ : Sg)]) ⟨by show i + 1 < L.length;omega, rfl, by show (o ++ [(⟨a, b, c, d, e⟩ : Sg)]).length ≤ i + 1;simp;omega⟩ (by show L.length - (i + 1) < L.length - i;omega) (by refine ⟨?_, ?_, rfl⟩<;>(repeat' (first|exact True.intro|exact rfl|(refine ⟨?_,?_⟩)|(intro h;cases h;done)|(refine own_congr ?_;simp;done)|exact hmp1|fail));done)
   ·have hrf : none = rdSg x := by rw [← hrf]; show _ = (if _ then _ else _); rw [if_neg ht]
    rw [← hrf]
    have htn : ofL (sgT ⟨a, b, c, d, e⟩) ≠ ofL x := fun e => ht (ofL_inj e)
    conv => whnf
    repeat' (first|((refine PickE.mk (iD e) rfl ?_);conv=>whnf)|((refine PickE.mk (iD d) rfl ?_);conv=>whnf)|((refine PickE.mk (iD c) rfl ?_);conv=>whnf)|((refine PickE.mk (iD b) rfl ?_);conv=>whnf)|((refine PickE.mk (iD a) rfl ?_);conv=>whnf)|((refine PickE.map i hx (by omega) ?_);conv=>whnf)|((with_reducible first|refine Split.of_true ?_|refine Split.of_false ?_);conv=>whnf)|(with_reducible refine Split.neg ?_)|((with_reducible refine Split.nez (fun _=>?_) (fun _=>?_))<;>conv=>whnf)|((with_reducible refine Split.eqz (fun _=>?_) (fun _=>?_))<;>conv=>whnf)|((with_reducible refine Split.streq (fun _=>?_) (fun _=>?_))<;>conv=>whnf)|((with_reducible refine Split.dec (fun _=>?_) (fun _=>?_))<;>conv=>whnf)|((with_reducible refine Need.mk ?_ ?_);(first|omega|rfl|decide|(refine ⟨?_,?_⟩<;>simp<;>omega)|(simp;omega));conv=>whnf)|((with_reducible refine Wr.inr ?_ ?_);(first|omega|(simp;omega));conv=>whnf)|((with_reducible refine AltK.l ?_);(conv=>whnf);(first|(refine CallK.mk _ (hN) ?_)|(refine CallK.mk _ (hV) ?_)|(refine CallK.mk _ (hJ) ?_));conv=>whnf)|(exfalso;first|omega|contradiction)|fail)
    all_goals first
     |(exfalso; omega)
     |(exfalso; contradiction)
     | rfl
  ·have ho : sgOf [a, b, c, d, e] = none := by show (if _ then _ else _) = _; rw [if_neg hb]
   rw [ho] at hrf
   have hrf : none = rdSg x := hrf
   rw [← hrf]
   have hb : sgB ⟨a, b, c, d, e⟩ = false := by simpa using hb
   rw [hb] at hV
   conv => whnf
   repeat' (first|((refine PickE.mk (iD e) rfl ?_);conv=>whnf)|((refine PickE.mk (iD d) rfl ?_);conv=>whnf)|((refine PickE.mk (iD c) rfl ?_);conv=>whnf)|((refine PickE.mk (iD b) rfl ?_);conv=>whnf)|((refine PickE.mk (iD a) rfl ?_);conv=>whnf)|((refine PickE.map i hx (by omega) ?_);conv=>whnf)|((with_reducible first|refine Split.of_true ?_|refine Split.of_false ?_);conv=>whnf)|(with_reducible refine Split.neg ?_)|((with_reducible refine Split.nez (fun _=>?_) (fun _=>?_))<;>conv=>whnf)|((with_reducible refine Split.eqz (fun _=>?_) (fun _=>?_))<;>conv=>whnf)|((with_reducible refine Split.streq (fun _=>?_) (fun _=>?_))<;>conv=>whnf)|((with_reducible refine Split.dec (fun _=>?_) (fun _=>?_))<;>conv=>whnf)|((with_reducible refine Need.mk ?_ ?_);(first|omega|rfl|decide|(refine ⟨?_,?_⟩<;>simp<;>omega)|(simp;omega));conv=>whnf)|((with_reducible refine Wr.inr ?_ ?_);(first|omega|(simp;omega));conv=>whnf)|((with_reducible refine AltK.l ?_);(conv=>whnf);(first|(refine CallK.mk _ (hN) ?_)|(refine CallK.mk _ (hV) ?_));conv=>whnf)|(exfalso;first|omega|contradiction)|fail)
   all_goals first
    |(exfalso; omega)
    |(exfalso; contradiction)
    | rfl
 ·have ho : sgOf l = none := by
   match l, h5 with
   | [_, _, _, _, _], h5 => exact absurd rfl h5
   | [], _ | [_], _ | [_, _], _ | [_, _, _], _ | [_, _, _, _], _ => rfl
   | _ :: _ :: _ :: _ :: _ :: _ :: _, _ => rfl
  rw [ho] at hrf
  have hrf : none = rdSg x := hrf
  rw [← hrf]
  conv => whnf
  repeat' (first|((refine PickE.map i hx (by omega) ?_);conv=>whnf)|((with_reducible first|refine Split.of_true ?_|refine Split.of_false ?_);conv=>whnf)|((with_reducible refine Split.nez (fun _=>?_) (fun _=>?_))<;>conv=>whnf)|((with_reducible refine Split.eqz (fun _=>?_) (fun _=>?_))<;>conv=>whnf)|((with_reducible refine Split.streq (fun _=>?_) (fun _=>?_))<;>conv=>whnf)|((with_reducible refine Split.dec (fun _=>?_) (fun _=>?_))<;>conv=>whnf)|((with_reducible refine Need.mk ?_ ?_);(first|omega|rfl|decide|(refine ⟨?_,?_⟩<;>simp<;>omega)|(simp;omega));conv=>whnf)|((with_reducible refine Wr.inr ?_ ?_);(first|omega|(simp;omega));conv=>whnf)|((with_reducible refine AltK.l ?_);(conv=>whnf);(first|(refine CallK.mk _ (hN) ?_));conv=>whnf)|(exfalso;first|omega|contradiction)|fail)
  all_goals first
   |(exfalso; omega)
   |(exfalso; contradiction)
   | rfl
end Go.Proofs.Tryz
end

section
namespace Go.Proofs.Tryz
open Go Go.Vm Go.Plain
open Go.RowKit (Below)
set_option maxRecDepth 20000
set_option maxHeartbeats 4000000
def lnOf : List (List UInt8) → List (List UInt8 × Bool)
 | [] => []
 | [x] => if x = [] then [] else [(x, false)]
 | x :: z :: l => (x, true) :: lnOf (z :: l)
theorem ln_cut {u : List UInt8} (hu : u ≠ []) : lnOf (spl 10 u) = ((cutL 10 u).1, (cutL 10 u).2.2) :: lnOf (spl 10 (cutL 10 u).2.1) := by
 rw [spl_cut]
 cases hf : (cutL 10 u).2.2 with
 | true =>
  rw [if_pos rfl]
  cases hz : spl 10 (cutL 10 u).2.1 with
  | nil => exact absurd hz (Go.Proofs.Tryz.spl_ne _ _)
  | cons z l => rfl
 | false =>
  rw [if_neg (by decide), cut_miss 10 u hf]
  show (if u = [] then [] else [(u, false)]) = _
  rw [if_neg hu]
  rfl
theorem cut_len1 (u : List UInt8) : (cutL 10 u).1.length ≤ u.length := by
 cases hf : (cutL 10 u).2.2 with
 | true => exact Nat.le_of_lt (cut_len 10 u hf).2
 | false => rw [cut_miss 10 u hf]; exact Nat.le_refl _
def encL (x : List UInt8 × Bool) : Array Value := #[.string (ofL x.1), .bool x.2]
def boxS (W : World) (b : Nat) (u : List UInt8) : Prop := ∃ t, W.heap[b]? = some (.cells #[.string (ofL u)] t (0, 0))
def KpB (b : Nat) (W W' : World) : Prop := ∀ u, boxS W b u → boxS W' b u
def VpS (v : Value) : Prop := ∃ u : List UInt8, v = .string (ofL u)
theorem boxS_cell {W : World} {b : Nat} {u : List UInt8} (h : boxS W b u) : W.cell? ⟨b, 0, none⟩ = some (.string (ofL u)) ∧ W.frozen? ⟨b, 0, none⟩ = false := by
 obtain ⟨t, h⟩ := h
 constructor <;> simp [World.cell?, World.frozen?, h]
theorem box_set {W : World} {b : Nat} {u rest : List UInt8} (h : boxS W b u) : boxS (W.setCell ⟨b, 0, none⟩ (.string (ofL rest))) b rest := by
 obtain ⟨t, h⟩ := h
 refine ⟨t, ?_⟩
 obtain ⟨hlt, hk⟩ := Array.getElem?_eq_some_iff.1 h
 show (W.heap.modify b _)[b]? = _
 rw [Array.getElem?_eq_getElem (by rw [Array.size_modify]; exact hlt), Array.getElem_modify_self, hk]
 rfl
theorem grown_of {W W' : World} (h : BelowD W W') : W.grownBy W' none := ⟨h.os, h.tape, h.output, h.size, fun k hk _ => h.block k hk⟩
theorem cut_calls (u : List UInt8) (hu : u.length ≤ 1000000) (W : World) (hG : GOk W.heap.size W) : Calls Tryz.prog 63 #[.string (ofL u), .string ⟨#[10]⟩] W fun e W' =>
 e = .returned (.tuple #[.string (ofL (cutL 10 u).1), .string (ofL (cutL 10 u).2.1), .bool (cutL 10 u).2.2]) ∧ BelowD W W' := by
 obtain ⟨-, hrun⟩ := ev_CutNl u hu
 refine (hrun W (fun _ _ => False) #[.string (ofL u), .string ⟨#[10]⟩] hG (fun _ _ h => h.elim) rfl fun j d v hd hv => ?_).mono fun e W' he => ?_
 ·match j, hd, hv with
  | 0, hd, hv => cases hd; cases hv; constructor
  | 1, hd, hv => cases hd; cases hv; constructor
  | j + 2, hd, hv => simp at hd
 ·obtain ⟨v, A', rfl, hr, hb, -⟩ := he
  refine ⟨?_, hb⟩
  cases hr with
  | @tup _ vs hl hr =>
   match vs, hl, hr with
   | ⟨[a, b, c]⟩, _, hr =>
    have h1 := hr 0 _ a rfl rfl
    have h2 := hr 1 _ b rfl rfl
    have h3 := hr 2 _ c rfl rfl
    cases h1; cases h2; cases h3
    rfl
   | ⟨[]⟩, hl, _ => simp at hl
   | ⟨[_]⟩, hl, _ => simp at hl
   | ⟨[_, _]⟩, hl, _ => simp at hl
   | ⟨_ :: _ :: _ :: _ :: _⟩, hl, _ => simp at hl
theorem lines_in (n l b : Nat) (hn : 1 ≤ n) (s0 : List UInt8) (hs0 : s0.length ≤ 60000) (J Jx : List (List UInt8 × Bool) → World → Prop) (hJ : AbidesAt b VpS J) (hg : ∀ pre W, J pre W → GOk W.heap.size W)
 (hY : ∀ pre x W1, x.1.length ≤ s0.length → J pre W1 → pre.length < (lnOf (spl 10 s0)).length → YieldAt Fence.wide (n - 1) Tryz.prog l (encL x) W1 fun e W' => (e = .returned (.bool true) ∧ J (pre ++ [x]) W' ∧ KpB b W1 W') ∨ (e = .returned (.bool false) ∧ Jx (pre ++ [x]) W'))
 (W : World) (hb : boxS W b s0) (h0 : J [] W) :
 CallsIn Fence.wide n Tryz.prog 62 #[.func (.yield l) #[] #[], .pointer (some ⟨b, 0, none⟩)] W fun e W' => (∃ v, e = .returned v) ∧ ((∃ xs, xs = lnOf (spl 10 s0) ∧ J xs W') ∨ (∃ pre, pre <+: lnOf (spl 10 s0) ∧ Jx pre W')) := by
 refine callsIn_of_wp Tryz.func62 rfl trivial ?_ rfl
 simp only [Tryz.ntmps62, List.size_toArray, List.length_cons, List.length_nil, Nat.reduceAdd, Nat.reduceSub, Array.replicate_succ, Array.replicate_zero, List.push_toArray, List.append_toArray, List.nil_append, List.cons_append]
 gi_wp2
 gi_loopw [3] (fun _ wr => ∃ (pre : List (List UInt8 × Bool)) (u : List UInt8), u.length ≤ s0.length ∧ lnOf (spl 10 s0) = pre ++ lnOf (spl 10 u) ∧ boxS wr b u ∧ J pre wr)
  (fun _ wr => match wr.cell? ⟨b, 0, none⟩ with
    | some (.string x) => x.size
    | _ => 0)
 case atStart => exact ⟨[], s0, Nat.le_refl _, rfl, hb, h0⟩
 case round =>
  obtain ⟨pre, u, hul, hL, hbu, hJu⟩ := hrel
  obtain ⟨hc, hfz⟩ := boxS_cell hbu
  have hsz := ofL_size u
  by_cases hu : u = []
  ·subst hu
   gi_wp2
   ·have h' : (!(ofL []).toList.isEmpty) = true := by assumption
    rw [toList_eq] at h'
    exact absurd h' (by simp [ofL])
   ·go_end0
    refine ⟨⟨_, rfl⟩, .inl ⟨pre, ?_, hJu⟩⟩
    rw [hL]
    exact (List.append_nil pre).symm
  ·have he : (ofL u).toList.isEmpty = false := by
    rw [toList_eq]
    cases u with
    | nil => exact absurd rfl hu
    | cons a r => rfl
   have hlc := ln_cut hu
   have hlt : pre.length < (lnOf (spl 10 s0)).length := by
    rw [hL, hlc, List.length_append, List.length_cons]; omega
   have hcut := cut_calls u (by omega) wr (hg pre wr hJu)
   have hblt : b < wr.heap.size := (Array.getElem?_eq_some_iff.1 hbu.choose_spec).1
   gi_wp2
   ·refine ⟨trivial, (callsIn_wide.2 hcut).mono ?_⟩
    rintro e w1 ⟨rfl, hbel⟩
    dsimp only
    try go_frame
    have hJ1 := hJ.new _ _ _ hJu (grown_of hbel)
    have hb1 : boxS w1 b u := ⟨_, (hbel.block b hblt).trans hbu.choose_spec⟩
    obtain ⟨fn, tmps, assign, body, hy, hR⟩ := hY pre ((cutL 10 u).1, (cutL 10 u).2.2) w1 (Nat.le_trans (cut_len1 u) hul) hJ1 hlt
    simp only [encL] at hy
    gi_wp2
    refine hR.mono ?_
    rintro e W3 (⟨rfl, hJ3, hk3⟩ | ⟨rfl, hJx3⟩)
    ·have hb3 := hk3 u hb1
     obtain ⟨hc3, hf3⟩ := boxS_cell hb3
     have hb4 := box_set (rest := (cutL 10 u).2.1) hb3
     have hJ4 := hJ.put _ _ (.string (ofL (cutL 10 u).2.1)) ⟨_, rfl⟩ hJ3
     have hlen : (cutL 10 u).2.1.length < u.length := by
      cases hf : (cutL 10 u).2.2 with
      | true => exact (cut_len 10 u hf).1
      | false =>
       rw [cut_miss 10 u hf]
       exact List.length_pos_iff.2 hu
     have hL' : lnOf (spl 10 s0) = (pre ++ [((cutL 10 u).1, (cutL 10 u).2.2)]) ++ lnOf (spl 10 (cutL 10 u).2.1) := by rw [hL, hlc]; simp
     gi_wp2
     refine ⟨⟨_, _, ?_, hL', hb4, hJ4⟩, ?_⟩
     ·omega
     ·rw [(boxS_cell hb4).1, hc]
      simp only [ofL_size]
      exact hlen
    ·gi_wp2
     refine bodyPost_ret (results_none rfl _ _ _) rfl ?_
     refine ⟨⟨_, rfl⟩, .inr ⟨_, ⟨lnOf (spl 10 (cutL 10 u).2.1), ?_⟩, hJx3⟩⟩
     rw [hL, hlc]; simp
end Go.Proofs.Tryz
end

section
namespace Go.Proofs.Tryz
open Go Go.Vm Go.Plain
set_option maxRecDepth 20000
set_option maxHeartbeats 4000000
def runL : Nat → List Sg → List (List UInt8 × Bool) → Except Nat (List Sg)
 | _, o, [] => .ok o
 | n, o, x :: r => match x.2, rdSg x.1 with
  | true, some v => runL (n + 1) (o ++ [v]) r
  | _, _ => .error n
theorem runL_ok {n : Nat} {o : List Sg} {x : List UInt8 × Bool} {r : List (List UInt8 × Bool)} {v : Sg} (h1 : x.2 = true) (h2 : rdSg x.1 = some v) : runL n o (x :: r) = runL (n + 1) (o ++ [v]) r := by
 rw [runL, h1, h2]
theorem runL_no {n : Nat} {o : List Sg} {x : List UInt8 × Bool} {r : List (List UInt8 × Bool)} (h : x.2 = false ∨ rdSg x.1 = none) : runL n o (x :: r) = .error n := by
 rw [runL]
 rcases h with h | h
 ·rw [h]
 ·rw [h]
  cases x.2 <;> rfl
theorem runL_ln : ∀ (l : List (List UInt8)) (n : Nat) (o : List Sg), runL n o (lnOf l) = runS n o l
 | [], n, o => rfl
 | [x], n, o => by
  rw [lnOf, runS]
  by_cases h : x = []
  ·rw [if_pos h, if_pos h]; rfl
  ·rw [if_neg h, if_neg h]; exact runL_no (.inl rfl)
 | x :: z :: l, n, o => by
  rw [lnOf]
  cases h : rdSg x with
  | none => rw [runL_no (.inr h), runS]; rw [h]
  | some v =>
   rw [runL_ok rfl h, runL_ln (z :: l)]
   conv => rhs; rw [runS]
   rw [h]
theorem ln_len : ∀ (l : List (List UInt8)), (lnOf l).length ≤ l.length
 | [] => Nat.le_refl _
 | [x] => by rw [lnOf]; split <;> simp
 | x :: z :: l => by have := ln_len (z :: l); rw [lnOf, List.length_cons, List.length_cons]; omega
theorem split5 (x : List UInt8) : ((if ((spl 32 x).length : Int) = 5 then numsA (spl 32 x) else none) = none ∧ rdSg x = none) ∨
 ∃ a b c d e, (if ((spl 32 x).length : Int) = 5 then numsA (spl 32 x) else none) = some [a, b, c, d, e] ∧ rdSg x = if sgB ⟨a, b, c, d, e⟩ = true then some ⟨a, b, c, d, e⟩ else none := by
 unfold rdSg
 cases h : numsA (spl 32 x) with
 | none => exact .inl ⟨by split <;> rfl, rfl⟩
 | some l =>
  have hl := congrArg List.length (numsA_some h)
  rw [List.length_map] at hl
  by_cases h5 : l.length = 5
  ·rw [if_pos (by omega)]
   match l, h5 with
   | [a, b, c, d, e], _ => exact .inr ⟨a, b, c, d, e, rfl, rfl⟩
  ·rw [if_neg (by omega)]
   refine .inl ⟨rfl, ?_⟩
   match l, h5 with
   | [_, _, _, _, _], h5 => exact absurd rfl h5
   | [], _ | [_], _ | [_, _], _ | [_, _, _], _ | [_, _, _, _], _ => rfl
   | _ :: _ :: _ :: _ :: _ :: _ :: _, _ => rfl
theorem xv_lines (s : List UInt8) : EvX Tryz.prog 32 [.d (wD s)] [] (.fnv 62 [.box 9]) [(9, .var [.d (wD s)] false)] := by
 refine evx_of_awp tysOk mixed (fn := Tryz.f32) Tryz.func32 rfl rfl rfl ?_
 conv => whnf
 skip
 exact ⟨⟨[(9, some 1)], (by refine ⟨?_, ?_, rfl⟩<;>(repeat' (first|exact True.intro|exact rfl|(refine ⟨?_,?_⟩)|(intro h;cases h;done)|fail));done)⟩, rfl⟩
theorem xv_linesB (s : List UInt8) (b : Nat) : EvX Tryz.prog 32 [.d (wD s)] [] (.fnv 62 [.box b]) [(b, .var [.d (wD s)] false)] := by
 have := (xv_lines s).rn [(9, b)] rfl
 exact this
noncomputable def sqL : Code → Code
 | .seq x _ => x
 | c => c
noncomputable def sqR : Code → Code
 | .seq _ x => x
 | c => c
noncomputable def psC : Code := (Tryz.f12.body).getD .skip
noncomputable def psPre : Code := .seq (sqL psC) (.seq (sqL (sqR psC)) (.seq (sqL (sqR (sqR psC))) (.seq (sqL (sqR (sqR (sqR psC)))) (sqL (sqL (sqR (sqR (sqR (sqR psC)))))))))
noncomputable def psPost : Code := sqR (sqR (sqR (sqR (sqR psC))))
noncomputable def psLoop : Code := sqR (sqL (sqR (sqR (sqR (sqR psC)))))
noncomputable def psBody : Code := match psLoop with
 | .block _ (.rangeFunc _ _ _ b) => b
 | c => c
noncomputable def psAsg : Code := match psLoop with
 | .block _ (.rangeFunc _ _ a _) => a
 | c => c
def tI : List (Nat × AV) := [(2, .ptr 2 0), (3, .ptr 3 0), (4, .ptr 4 0), (5, .ptr 5 0), (6, .ptr 6 0)]
def bI (ss : List Sg) (k : Nat) : List (Nat × Bx) := [(2, .var [.nil 5] false), (3, .var [.d (.int .i64 0)] false), (4, .var [.d (.int .i64 0)] false), (5, .var [.own 900 5 ss.length] false), (6, .var [.d (.int .i64 (k : Int))] false), (900, .row 52 5 (ss.map sgD) false)]
def σI (ss : List Sg) (k : Nat) : St := ⟨tI, bI ss k⟩
def σL (s : List UInt8) : St := ⟨tI ++ [(17, .fnv 62 [.box 17])], bI [] 0 ++ [(17, .var [.d (wD s)] false)]⟩
def σR (n f : Int) : St := ⟨[(2, .ptr 2 0), (3, .ptr 3 0), (4, .ptr 4 0)], [(2, .var [.nil 5] false), (3, .var [.d (.int .i64 n)] false), (4, .var [.d (.int .i64 f)] false)]⟩
def σK (ss : List Sg) : St := ⟨[(2, .ptr 2 0), (3, .ptr 3 0), (4, .ptr 4 0)], [(2, .var [.own 900 5 ss.length] false), (3, .var [.d (.int .i64 0)] false), (4, .var [.d (.int .i64 0)] false), (900, .row 52 5 (ss.map sgD) true)]⟩
def σB (ss : List Sg) (k : Nat) (x : List UInt8 × Bool) : St := ⟨(7, .d (wD x.1)) :: (8, .d (.bool x.2)) :: tI, bI ss k⟩
def finA (s : List UInt8) (e : Ex) (σ : St) : Prop := match e with
 | .normal => σ = σL s
 | _ => False
def finB (ss : List Sg) (k : Nat) (x : List UInt8 × Bool) (e : Ex) (σ : St) : Prop := match e with
 | .normal => ∃ v, x.2 = true ∧ rdSg x.1 = some v ∧ σ = σI (ss ++ [v]) (k + 1)
 | .ret => (x.2 = false ∨ rdSg x.1 = none) ∧ σ = σR (k + 1 : Nat) 7
 | _ => False
def finC (ss : List Sg) (e : Ex) (σ : St) : Prop := (e = .normal ∨ e = .ret) ∧ ((chkErr sgB Sg.n ss = 0 ∧ σ = σK ss) ∨ (chkErr sgB Sg.n ss ≠ 0 ∧ σ = σR 0 (chkErr sgB Sg.n ss)))
def endL (fin : Ex → St → Prop) (e : Ex) (σ : St) : Prop := ∃ τ rn, fin e τ ∧ Le σ τ rn
theorem pre_walk (s : List UInt8) (hs : s.length ≤ 60000) : awp Tryz.prog Tryz.S 66 psPre (endL (finA s)) ⟨numT 0 [wD s], []⟩ := by
 have hz := ofL_size s
 have hL := xv_linesB s
 conv => whnf
 repeat' (first|((with_reducible refine Split.dec (fun _=>?_) (fun _=>?_))<;>conv=>whnf)|((with_reducible refine Need.mk ?_ ?_);(first|omega|rfl|decide|(refine ⟨?_,?_⟩<;>simp<;>omega)|(simp;omega));conv=>whnf)|((with_reducible refine AltK.r ?_);(conv=>whnf);(first|(refine CallX.mk _ _ (hL 17) rfl ?_));conv=>whnf)|(exfalso;first|omega|contradiction)|fail)
 exact ⟨σL s, [(900, none)], rfl, (by refine ⟨?_, ?_, rfl⟩<;>(repeat' (first|exact True.intro|exact rfl|(refine ⟨?_,?_⟩)|(intro h;cases h;done)|fail));done)⟩
theorem post_walk (ss : List Sg) (k : Nat) : awp Tryz.prog Tryz.S 66 psPost (endL (finC ss)) (σI ss k) := by
 have hC := ev_CheckS ss
 have hom : (ss.map sgD).length = ss.length := List.length_map _
 by_cases h0 : chkErr sgB Sg.n ss = 0
 ·rw [h0] at hC
  conv => whnf
  repeat' (first|((with_reducible refine Split.is_false ?_ ?_);decide;conv=>whnf)|((with_reducible refine Need.mk ?_ ?_);(first|omega|rfl|decide|(refine ⟨?_,?_⟩<;>simp<;>omega)|(simp;omega));conv=>whnf)|((with_reducible refine AltK.l ?_);(conv=>whnf);(first|(refine CallK.mk _ (hC) ?_));conv=>whnf)|fail)
  exact ⟨σK ss, [], ⟨.inr rfl, .inl ⟨h0, rfl⟩⟩, (by refine ⟨?_, ?_, rfl⟩<;>(repeat' (first|exact True.intro|exact rfl|(refine ⟨?_,?_⟩)|(intro h;cases h;done)|(intro h;exact h)|fail));done)⟩
 ·conv => whnf
  repeat' (first|((with_reducible refine Split.nez (fun _=>?_) (fun _=>?_))<;>conv=>whnf)|((with_reducible refine Need.mk ?_ ?_);(first|omega|rfl|decide|(refine ⟨?_,?_⟩<;>simp<;>omega)|(simp;omega));conv=>whnf)|((with_reducible refine AltK.l ?_);(conv=>whnf);(first|(refine CallK.mk _ (hC) ?_));conv=>whnf)|(exfalso;first|omega|contradiction)|fail)
  exact ⟨σR 0 (chkErr sgB Sg.n ss), [], ⟨.inr rfl, .inr ⟨h0, rfl⟩⟩, (by refine ⟨?_, ?_, rfl⟩<;>(repeat' (first|exact True.intro|exact rfl|(refine ⟨?_,?_⟩)|(intro h;cases h;done)|fail));done)⟩
theorem body_walk (ss : List Sg) (k : Nat) (x : List UInt8 × Bool) (hk : ss.length ≤ 70000) (hk2 : k ≤ 70000) (hx : x.1.length ≤ 60000) : awp Tryz.prog Tryz.S 66 psBody (endL (finB ss k x)) (σB ss k x) := by
 obtain ⟨x, fl⟩ := x
 have hx : x.length ≤ 60000 := hx
 have hz := ofL_size x
 have hom : (ss.map sgD).length = ss.length := List.length_map _
 have hS := ev_split x 5 (by omega)
 rcases split5 x with ⟨ho, hr⟩ | ⟨a, b, c, d, e, ho, hr⟩
 ·rw [ho] at hS
  have hS : Ev Tryz.prog 25 [wD x, iD 5] (.tup [.sl 1 [], .bool false]) := hS
  have hV := ev_valid ⟨0, 0, 0, 0, 0⟩
  conv => whnf
  repeat' (first|((with_reducible first|refine Split.of_true ?_|refine Split.of_false ?_);conv=>whnf)|(with_reducible refine Split.neg ?_)|((with_reducible refine Need.mk ?_ ?_);(first|omega|rfl|decide|(refine ⟨?_,?_⟩<;>simp<;>omega)|(simp;omega));conv=>whnf)|((with_reducible refine Wr.inr ?_ ?_);(first|omega|(simp;omega));conv=>whnf)|((with_reducible refine AltK.l ?_);(conv=>whnf);(first|(refine CallK.mk _ (hS) ?_)|(refine CallK.mk _ (hV) ?_));conv=>whnf)|fail)
  all_goals first
   |(exfalso; omega)
   |(exfalso; contradiction)
   | exact ⟨σR (k + 1 : Nat) 7, [], ⟨.inr hr, rfl⟩, (by refine ⟨?_, ?_, rfl⟩<;>(repeat' (first|exact True.intro|exact rfl|(refine ⟨?_,?_⟩)|(intro h;cases h;done)|fail));done)⟩
 ·rw [ho] at hS
  have hS : Ev Tryz.prog 25 [wD x, iD 5] (.tup [.sl 1 [iD a, iD b, iD c, iD d, iD e], .bool true]) := hS
  have hV := ev_valid ⟨a, b, c, d, e⟩
  by_cases hb : sgB ⟨a, b, c, d, e⟩ = true
  ·rw [if_pos hb] at hr
   rw [hb] at hV
   cases fl with
   | true =>
    have hmp1 : ss.map sgD ++ D.agg [iD a, iD b, iD c, iD d, iD e] :: List.replicate 0 (D.agg [iD 0, iD 0, iD 0, iD 0, iD 0]) = (ss ++ [(⟨a, b, c, d, e⟩ : Sg)]).map sgD := by rw [List.map_append]; rfl
    conv => whnf
    repeat' (first|((refine PickE.mk (iD e) rfl ?_);conv=>whnf)|((refine PickE.mk (iD d) rfl ?_);conv=>whnf)|((refine PickE.mk (iD c) rfl ?_);conv=>whnf)|((refine PickE.mk (iD b) rfl ?_);conv=>whnf)|((refine PickE.mk (iD a) rfl ?_);conv=>whnf)|((with_reducible refine Split.of_true ?_);conv=>whnf)|(with_reducible refine Split.neg ?_)|((with_reducible refine Need.mk ?_ ?_);(first|omega|rfl|decide|(refine ⟨?_,?_⟩<;>simp<;>omega)|(simp;omega));conv=>whnf)|((with_reducible refine Wr.inr ?_ ?_);(first|omega|(simp;omega));conv=>whnf)|((with_reducible refine AltK.l ?_);(conv=>whnf);(first|(refine CallK.mk _ (hS) ?_)|(refine CallK.mk _ (hV) ?_));conv=>whnf)|fail)
    all_goals first
     |(exfalso; omega)
     |(exfalso; contradiction)
     | exact ⟨σI (ss ++ [⟨a, b, c, d, e⟩]) (k + 1), [(900, some 59)], ⟨_, rfl, hr, rfl⟩, (by refine ⟨?_, ?_, rfl⟩<;>(repeat' (first|exact True.intro|exact rfl|(refine ⟨?_,?_⟩)|(intro h;cases h;done)|(refine own_congr ?_;simp;done)|exact hmp1|fail));done)⟩
   | false =>
    conv => whnf
    repeat' (first|((refine PickE.mk (iD e) rfl ?_);conv=>whnf)|((refine PickE.mk (iD d) rfl ?_);conv=>whnf)|((refine PickE.mk (iD c) rfl ?_);conv=>whnf)|((refine PickE.mk (iD b) rfl ?_);conv=>whnf)|((refine PickE.mk (iD a) rfl ?_);conv=>whnf)|((with_reducible first|refine Split.of_true ?_|refine Split.of_false ?_);conv=>whnf)|(with_reducible refine Split.neg ?_)|((with_reducible refine Need.mk ?_ ?_);(first|omega|rfl|decide|(refine ⟨?_,?_⟩<;>simp<;>omega)|(simp;omega));conv=>whnf)|((with_reducible refine Wr.inr ?_ ?_);(first|omega|(simp;omega));conv=>whnf)|((with_reducible refine AltK.l ?_);(conv=>whnf);(first|(refine CallK.mk _ (hS) ?_)|(refine CallK.mk _ (hV) ?_));conv=>whnf)|fail)
    all_goals first
     |(exfalso; omega)
     |(exfalso; contradiction)
     | exact ⟨σR (k + 1 : Nat) 7, [], ⟨.inl rfl, rfl⟩, (by refine ⟨?_, ?_, rfl⟩<;>(repeat' (first|exact True.intro|exact rfl|(refine ⟨?_,?_⟩)|(intro h;cases h;done)|fail));done)⟩
  ·rw [if_neg hb] at hr
   have hb' : sgB ⟨a, b, c, d, e⟩ = false := by simpa using hb
   rw [hb'] at hV
   conv => whnf
   repeat' (first|((refine PickE.mk (iD e) rfl ?_);conv=>whnf)|((refine PickE.mk (iD d) rfl ?_);conv=>whnf)|((refine PickE.mk (iD c) rfl ?_);conv=>whnf)|((refine PickE.mk (iD b) rfl ?_);conv=>whnf)|((refine PickE.mk (iD a) rfl ?_);conv=>whnf)|((with_reducible first|refine Split.of_true ?_|refine Split.of_false ?_);conv=>whnf)|(with_reducible refine Split.neg ?_)|((with_reducible refine Split.mk (fun _=>?_) (fun _=>?_))<;>conv=>whnf)|((with_reducible refine Need.mk ?_ ?_);(first|omega|rfl|decide|(refine ⟨?_,?_⟩<;>simp<;>omega)|(simp;omega));conv=>whnf)|((with_reducible refine Wr.inr ?_ ?_);(first|omega|(simp;omega));conv=>whnf)|((with_reducible refine AltK.l ?_);(conv=>whnf);(first|(refine CallK.mk _ (hS) ?_)|(refine CallK.mk _ (hV) ?_));conv=>whnf)|fail)
   all_goals first
    |(exfalso; omega)
    |(exfalso; contradiction)
    | exact ⟨σR (k + 1 : Nat) 7, [], ⟨.inr hr, rfl⟩, (by refine ⟨?_, ?_, rfl⟩<;>(repeat' (first|exact True.intro|exact rfl|(refine ⟨?_,?_⟩)|(intro h;cases h;done)|fail));done)⟩
end Go.Proofs.Tryz
end

section
namespace Go.Proofs.Tryz
open Go Go.Vm Go.Plain
open Go.RowKit (Below)
set_option maxRecDepth 20000
set_option maxHeartbeats 4000000
theorem free_sgs (ss : List Sg) : ∀ e ∈ ss.map sgD, ∀ c ∈ e.cells, FreeD c := by
 intro e he c hc
 obtain ⟨g, -, rfl⟩ := List.mem_map.1 he
 have hc : c ∈ [iD g.n, iD g.x, iD g.y, iD g.lo, iD g.hi] := hc
 simp only [List.mem_cons, List.not_mem_nil, or_false] at hc
 rcases hc with rfl | rfl | rfl | rfl | rfl <;> exact @free_int _ _
theorem free_var (c : AV) (h : FreeV c) : FreeX (.var [c] false) := fun x hx => by
 obtain rfl := List.mem_singleton.1 hx
 exact h
theorem calm_I (ss : List Sg) (k : Nat) : CalmS (σI ss k) := by
 refine ⟨fun p hp => ?_, fun p hp => ?_⟩
 ·simp only [σI, tI, List.mem_cons, List.not_mem_nil, or_false] at hp
  rcases hp with rfl | rfl | rfl | rfl | rfl <;> exact @free_ptr _ _
 ·simp only [σI, bI, List.mem_cons, List.not_mem_nil, or_false] at hp
  rcases hp with rfl | rfl | rfl | rfl | rfl | rfl
  ·exact ⟨free_var _ (@free_nil _), rfl⟩
  ·exact ⟨free_var _ (@free_d _ (@free_int _ _)), rfl⟩
  ·exact ⟨free_var _ (@free_d _ (@free_int _ _)), rfl⟩
  ·exact ⟨free_var _ (@free_own _ _ _), rfl⟩
  ·exact ⟨free_var _ (@free_d _ (@free_int _ _)), rfl⟩
  ·exact ⟨free_sgs ss, rfl⟩
theorem calm_R (n f : Int) : CalmS (σR n f) := by
 refine ⟨fun p hp => ?_, fun p hp => ?_⟩
 ·simp only [σR, List.mem_cons, List.not_mem_nil, or_false] at hp
  rcases hp with rfl | rfl | rfl <;> exact @free_ptr _ _
 ·simp only [σR, List.mem_cons, List.not_mem_nil, or_false] at hp
  rcases hp with rfl | rfl | rfl
  ·exact ⟨free_var _ (@free_nil _), rfl⟩
  ·exact ⟨free_var _ (@free_d _ (@free_int _ _)), rfl⟩
  ·exact ⟨free_var _ (@free_d _ (@free_int _ _)), rfl⟩
theorem calm_K (ss : List Sg) : CalmS (σK ss) := by
 refine ⟨fun p hp => ?_, fun p hp => ?_⟩
 ·simp only [σK, List.mem_cons, List.not_mem_nil, or_false] at hp
  rcases hp with rfl | rfl | rfl <;> exact @free_ptr _ _
 ·simp only [σK, List.mem_cons, List.not_mem_nil, or_false] at hp
  rcases hp with rfl | rfl | rfl | rfl
  ·exact ⟨free_var _ (@free_own _ _ _), rfl⟩
  ·exact ⟨free_var _ (@free_d _ (@free_int _ _)), rfl⟩
  ·exact ⟨free_var _ (@free_d _ (@free_int _ _)), rfl⟩
  ·exact ⟨free_sgs ss, rfl⟩
theorem calm_L (s : List UInt8) : CalmS (σL s) := by
 have hI := calm_I [] 0
 refine ⟨fun p hp => ?_, fun p hp => ?_⟩
 ·rcases List.mem_append.1 (show p ∈ tI ++ _ from hp) with hp | hp
  ·exact hI.T p hp
  ·obtain rfl := List.mem_singleton.1 hp
   exact @free_box1 _ _
 ·rcases List.mem_append.1 (show p ∈ bI [] 0 ++ _ from hp) with hp | hp
  ·exact hI.X p hp
  ·obtain rfl := List.mem_singleton.1 hp
   exact ⟨free_var _ (@free_d _ (@free_str _)), rfl⟩
theorem ps_shape : psC = .seq (sqL psC) (.seq (sqL (sqR psC)) (.seq (sqL (sqR (sqR psC))) (.seq (sqL (sqR (sqR (sqR psC)))) (.seq (.seq (sqL (sqL (sqR (sqR (sqR (sqR psC)))))) psLoop) psPost)))) := rfl
theorem ps_loop : ∃ i, psLoop = .block i (.rangeFunc (.tmp 17) #[18, 19] psAsg psBody) := ⟨_, rfl⟩
theorem ret_R (n f : Int) : retP Tryz.S Tryz.f12 (.tup [.sl 5 [], iD n, iD f]) (σR n f) := rfl
theorem ret_K (ss : List Sg) : retP Tryz.S Tryz.f12 (.tup [.sl 5 (ss.map sgD), iD 0, iD 0]) (σK ss) := rfl
theorem calm_body : calm (fun t => decide (7 ≤ t)) psBody = true := rfl
theorem calm_post : calm (fun _ => true) psPost = true := rfl
theorem calm_pre : calm (fun _ => true) psPre = true := rfl
theorem assign_in {r : Option Nat} {n : Nat} {Q : Exit → Act → World → Prop} {a : Act} {w : World} {id : Nat} {d t : Nat} {ty : TypeId} {pos : String} (h : Q .normal (a.put (some d) (a.tmps.getD t undef)) w) :
 (Code.region id #[{ dst := some d, op := .assign (.tmp t), type := ty, pos := pos, after := #[], guard := none }] false).wpIn (Vm.Fr r) n Tryz.prog Q a w := by
 refine wpIn_region ?_
 show wpOpsIn (Vm.Fr r) n Tryz.prog _ Q [0] a w
 rw [wpOpsIn_cons]
 refine ⟨fun _ _ => trivial, ?_⟩
 rw [Oper.semAt_plain _ _ _ (fun c hc => by cases hc)]
 exact h
theorem asg_in {r : Option Nat} {n : Nat} {Q : Exit → Act → World → Prop} {a : Act} {w : World} (h : Q .normal ((a.put (some 7) (a.tmps.getD 18 undef)).put (some 8) ((a.put (some 7) (a.tmps.getD 18 undef)).tmps.getD 19 undef)) w) : psAsg.wpIn (Vm.Fr r) n Tryz.prog Q a w :=
 wpIn_seq (assign_in (assign_in h))
end Go.Proofs.Tryz
end

section
namespace Go.Proofs.Tryz
open Go Go.Vm Go.Plain
open Go.RowKit (Below)
set_option maxRecDepth 20000
set_option maxHeartbeats 4000000
section
variable {w : World} {A : Sta} {hg : GOk w.heap.size w}
theorem ps_start {s : List UInt8} {a : Act} {W : World} (hr : Rel (Ent.plain w lay0 hg) A 66 (σL s) (strip a) W) :
 ∃ b, a.tmps.getD 17 undef = .func (.func 62) #[] #[.pointer (some ⟨b, 0, none⟩)] ∧ w.heap.size ≤ b ∧ b < W.heap.size ∧ boxS W b s ∧ At (Ent.plain w lay0 hg) A 66 a b (σI [] 0) W := by
 obtain ⟨L, A1, hI⟩ := hr
 have hI := hI.shrink (fun t => (calm_L s).get t) (fun b x hx => (calm_L s).box hx)
 have hbx : lk (σL s).bx 17 = some (.var [.d (wD s)] false) := rfl
 have hlo := hI.lo 17 _ (L.ι 17) hbx rfl
 refine ⟨L.ι 17, ?_, ?_, hlo.2, ?_, L, ?_, hlo.2, ?_⟩
 ·have h17 : RV L W A (.fnv 62 [.box 17]) (a.tmps.getD 17 undef) := hI.tm 17
  generalize a.tmps.getD 17 undef = v at h17
  cases h17 with
  | @fnv _ _ vs hl hr =>
   match vs, hl, hr with
   | ⟨[x]⟩, _, hr =>
    have := hr 0 _ x rfl rfl
    cases this
    rfl
   | ⟨[]⟩, hl, _ => simp at hl
   | ⟨_ :: _ :: _⟩, hl, _ => simp at hl
 ·rcases hlo.1 with h | h
  ·exact h
  ·exact h.elim
 ·obtain ⟨C, t, h1, h2, h3, -⟩ := hI.bxs 17 _ hbx
  match C, h2, h3, h1 with
  | ⟨[x]⟩, _, h3, h1 =>
   have := h3 0 _ x rfl rfl
   cases this with
   | d h => cases h; exact ⟨t, h1⟩
  | ⟨[]⟩, h2, _, _ => simp at h2
  | ⟨_ :: _ :: _⟩, h2, _, _ => simp at h2
 ·refine hI.drop (fun t => ?_) (fun b x hx => lk_app hx) (St.clT rfl) (St.clB rfl)
  unfold St.get
  cases e : lk (σI [] 0).T t with
  | none => exact .inr rfl
  | some v =>
   have e2 : lk (σL s).T t = some v := lk_app e
   rw [e2]; exact .inl rfl
 ·intro b' x hx ho
  have := hI.inj b' 17 x _ (L.ι 17) (lk_app hx) hbx ho rfl
  subst this
  cases hx
def PsI (a : Act) (b : Nat) (hg : GOk w.heap.size w) (A : Sta) (pre : List (List UInt8 × Bool)) (W : World) : Prop :=
 ∃ ss, At (Ent.plain w lay0 hg) A 66 a b (σI ss pre.length) W ∧ ss.length ≤ pre.length ∧ ∀ r, runL 1 [] (pre ++ r) = runL (pre.length + 1) ss r
def PsX (a : Act) (b : Nat) (hg : GOk w.heap.size w) (A : Sta) (c : Code) (pre : List (List UInt8 × Bool)) (W : World) : Prop :=
 c = .ret ∧ ∃ k : Nat, At (Ent.plain w lay0 hg) A 66 a b (σR k 7) W ∧ ∀ r, runL 1 [] (pre ++ r) = .error k
def asg1 (a : Act) (x : List UInt8 × Bool) : Act :=
 { tmps := (((a.tmps.setIfInBounds 18 (.string (ofL x.1))).setIfInBounds 19 (.bool x.2)).setIfInBounds 7 (.string (ofL x.1))).setIfInBounds 8 (.bool x.2), defers := [] }
theorem asg1_old (a : Act) (x : List UInt8 × Bool) (t : Nat) (ht : t < 7) : (asg1 a x).tmps.getD t undef = a.tmps.getD t undef := by
 unfold asg1
 simp only [Array.getD_eq_getD_getElem?]
 rw [Array.getElem?_setIfInBounds_ne (by omega), Array.getElem?_setIfInBounds_ne (by omega), Array.getElem?_setIfInBounds_ne (by omega), Array.getElem?_setIfInBounds_ne (by omega)]
theorem asg1_size (a : Act) (x : List UInt8 × Bool) : (asg1 a x).tmps.size = a.tmps.size := by simp [asg1]
theorem asg1_7 (a : Act) (x : List UInt8 × Bool) (h : a.tmps.size = 66) : (asg1 a x).tmps.getD 7 undef = .string (ofL x.1) ∧ (asg1 a x).tmps.getD 8 undef = .bool x.2 := by
 unfold asg1
 simp only [Array.getD_eq_getD_getElem?]
 constructor
 ·rw [Array.getElem?_setIfInBounds_ne (by omega), Array.getElem?_setIfInBounds_self_of_lt (by simp [h])]; rfl
 ·rw [Array.getElem?_setIfInBounds_self_of_lt (by simp [h])]; rfl
theorem asg1_eq (a : Act) (x : List UInt8 × Bool) (h : a.tmps.size = 66) (a0 : Act) (h0 : a0 = { tmps := (a.tmps.setIfInBounds 18 (.string (ofL x.1))).setIfInBounds 19 (.bool x.2), defers := [] }) :
 (a0.put (some 7) (a0.tmps.getD 18 undef)).put (some 8) ((a0.put (some 7) (a0.tmps.getD 18 undef)).tmps.getD 19 undef) = asg1 a x := by
 subst h0
 have e1 : ((a.tmps.setIfInBounds 18 (.string (ofL x.1))).setIfInBounds 19 (.bool x.2)).getD 18 undef = .string (ofL x.1) := by
  simp only [Array.getD_eq_getD_getElem?]
  rw [Array.getElem?_setIfInBounds_ne (by omega), Array.getElem?_setIfInBounds_self_of_lt (by simp [h])]; rfl
 have e2 : (((a.tmps.setIfInBounds 18 (.string (ofL x.1))).setIfInBounds 19 (.bool x.2)).setIfInBounds 7 (.string (ofL x.1))).getD 19 undef = .bool x.2 := by
  simp only [Array.getD_eq_getD_getElem?]
  rw [Array.getElem?_setIfInBounds_ne (by omega), Array.getElem?_setIfInBounds_self_of_lt (by simp [h])]; rfl
 simp only [Act.put, e1, e2]
 rfl
theorem tI_lt {t : Nat} (h : lk tI t ≠ none) : t < 7 := by
 rcases Nat.lt_or_ge t 7 with h1 | h1
 ·exact h1
 ·exfalso; apply h
  simp only [tI, lk_cons]
  repeat rw [if_neg (by omega)]
  rfl
theorem tR_lt {n f : Int} {t : Nat} (h : lk (σR n f).T t ≠ none) : t < 7 := by
 rcases Nat.lt_or_ge t 7 with h1 | h1
 ·exact h1
 ·exfalso; apply h
  simp only [σR, lk_cons]
  repeat rw [if_neg (by omega)]
  rfl
theorem calm_B (ss : List Sg) (k : Nat) (x : List UInt8 × Bool) : CalmS (σB ss k x) := by
 refine ⟨fun p hp => ?_, (calm_I ss k).X⟩
 simp only [σB, List.mem_cons] at hp
 rcases hp with rfl | rfl | hp
 ·exact @free_d _ (@free_str _)
 ·exact @free_d _ (@free_bool _)
 ·exact (calm_I ss k).T p hp
theorem ps_body {s : List UInt8} (hs : s.length ≤ 60000) {a : Act} {b : Nat} (l : Nat) (pre : List (List UInt8 × Bool)) (x : List UInt8 × Bool) (W : World) (hx : x.1.length ≤ s.length) (hi : PsI a b hg A pre W) (hlen : pre.length < (lnOf (spl 10 s)).length) (hpl : (lnOf (spl 10 s)).length ≤ 70000) :
 psBody.wpIn (Vm.Fr (some l)) 4 Tryz.prog (ownPostK (fun W W' => KpB b W W' ∧ W.heap.size ≤ W'.heap.size ∧ (GOk w.heap.size W → GOk w.heap.size W')) (PsI a b hg A) (PsX a b hg A) (pre ++ [x]) W) (asg1 a x) W := by
 obtain ⟨ss, hat, hsl, hrun⟩ := hi
 have hN := hat.size
 have hat1 : At (Ent.plain w lay0 hg) A 66 (asg1 a x) b (σB ss pre.length x) W := by
  obtain ⟨L, hI, hlt, ho⟩ := hat
  refine ⟨L, hI.acts (a' := strip (asg1 a x)) ((asg1_size a x).trans hN) rfl (fun t => ?_) (St.clT (σ := σB ss pre.length x) rfl), hlt, ho⟩
  obtain ⟨h7, h8⟩ := asg1_7 a x hN
  unfold St.get
  simp only [σB, lk_cons]
  by_cases e7 : t = 7
  ·subst e7; rw [if_pos rfl]
   show RV _ _ _ _ ((asg1 a x).tmps.getD 7 undef)
   rw [h7]; exact .d (by constructor)
  ·rw [if_neg e7]
   by_cases e8 : t = 8
   ·subst e8; rw [if_pos rfl]
    show RV _ _ _ _ ((asg1 a x).tmps.getD 8 undef)
    rw [h8]; exact .d (by constructor)
   ·rw [if_neg e8]
    cases e : lk tI t with
    | none => exact .junk _
    | some v =>
     have ht := hI.tm t
     unfold St.get at ht
     rw [show lk (σI ss pre.length).T t = some v from e] at ht
     show RV _ _ _ _ ((asg1 a x).tmps.getD t undef)
     rw [asg1_old a x t (tI_lt (by rw [e]; simp))]
     exact ht
 refine round_in tysOk mixed hat1 (calm_B _ _ _) (ds := []) rfl calm_body (body_walk ss pre.length x (by omega) (by omega) (by omega)) ?_ ?_
 ·intro ex τ hf
  cases ex with
  | normal => obtain ⟨v, -, -, rfl⟩ := hf; exact calm_I _ _
  | ret => obtain ⟨-, rfl⟩ := hf; exact calm_R _ _
  | exit i => exact hf.elim
 ·intro ex a' W' hR
  obtain ⟨⟨ex', σ, rfl, hf, hat'⟩, hk, hoth, hbe⟩ := hR
  have hkeep : ∀ t, t < 7 → a.tmps.getD t undef = a'.tmps.getD t undef := fun t ht => by
   rw [hk.same t (by simp; omega)]
   exact (asg1_old a x t ht).symm
  have hel : (pre ++ [x]).length = pre.length + 1 := by simp
  cases ex' with
  | normal =>
   obtain ⟨v, h2, h1, rfl⟩ := hf
   refine ⟨hoth, ⟨fun u hu => ?_, hoth.size, fun _ => hat'.gl⟩, ss ++ [v], ?_, by simp; omega, fun r => ?_⟩
   ·obtain ⟨t, hu⟩ := hu
    exact ⟨t, hbe.trans hu⟩
   ·rw [hel]
    exact hat'.tmps hN fun t ht => hkeep t (tI_lt ht)
   ·rw [List.append_assoc, hrun, hel]
    exact runL_ok h2 h1
  | ret =>
   obtain ⟨h1, rfl⟩ := hf
   refine ⟨hoth, rfl, pre.length + 1, hat'.tmps hN fun t ht => hkeep t (tR_lt ht), fun r => ?_⟩
   rw [List.append_assoc, hrun]
   exact runL_no h1
  | exit i => exact hf.elim
end
end Go.Proofs.Tryz
end

section
namespace Go.Proofs.Tryz
open Go Go.Vm Go.Plain
open Go.RowKit (Below)
set_option maxRecDepth 20000
set_option maxHeartbeats 4000000
section
variable {w : World} {A : Sta} {hg : GOk w.heap.size w}
theorem psI_own {a : Act} {b B : Nat} (hA : ∀ g o, A g o → g < w.heap.size) (hB : w.heap.size ≤ B) : OwnFrom B (PsI a b hg A) := by
 rintro pre W W' row ⟨ss, hat, h1, h2⟩ hgr hr
 exact ⟨ss, hat.grown hA (calm_I _ _) hgr fun k e => ⟨Nat.le_trans hB (hr k e).1, (hr k e).2⟩, h1, h2⟩
theorem psX_own {a : Act} {b B : Nat} (hA : ∀ g o, A g o → g < w.heap.size) (hB : w.heap.size ≤ B) (c : Code) : OwnFrom B (PsX a b hg A c) := by
 rintro pre W W' row ⟨hc, k, hat, h2⟩ hgr hr
 exact ⟨hc, k, hat.grown hA (calm_R _ _) hgr fun k e => ⟨Nat.le_trans hB (hr k e).1, (hr k e).2⟩, h2⟩
theorem lines_seq {b : Nat} {s : List UInt8} {n l : Nat} {WL W : World} {Jx J : List (List UInt8 × Bool) → World → Prop} (hs : s.length ≤ 60000) (hn : 1 ≤ n) (hwb : w.heap.size ≤ b) (hbL : b < WL.heap.size) (hwL : w.heap.size ≤ WL.heap.size) (hgL : GOk w.heap.size WL) (hbox : boxS WL b s) (hbel : Below WL.heap.size WL W) (hJ : AbidesAt b VpS J)
 (hY : ∀ pre x W1, x.1.length ≤ s.length → J pre W1 → pre.length < (lnOf (spl 10 s)).length → YieldAt Fence.wide (n - 1) Tryz.prog l (encL x) W1 fun e W' =>
   (e = .returned (.bool true) ∧ J (pre ++ [x]) W' ∧ (KpB b W1 W' ∧ W1.heap.size ≤ W'.heap.size ∧ (GOk w.heap.size W1 → GOk w.heap.size W'))) ∨ (e = .returned (.bool false) ∧ Jx (pre ++ [x]) W')) (h0 : J [] W) :
 CallsIn Fence.wide n Tryz.prog 62 (#[.func (.yield l) #[] #[]] ++ #[.pointer (some ⟨b, 0, none⟩)]) W fun e W' => (∃ v, e = .returned v) ∧ ((∃ xs, xs = lnOf (spl 10 s) ∧ J xs W') ∨ (∃ pre, pre <+: lnOf (spl 10 s) ∧ Jx pre W')) := by
 have hbW : boxS W b s := by
  obtain ⟨t, h⟩ := hbox
  exact ⟨t, (hbel.block b hbL).trans h⟩
 have hgW : GOk w.heap.size W := hgL.keep fun k hk => hbel.block k (by omega)
 refine (lines_in n l b hn s hs (fun pre W => J pre W ∧ w.heap.size ≤ W.heap.size ∧ GOk w.heap.size W) Jx ⟨?_, ?_⟩ (fun pre W h => h.2.2.mono h.2.1) ?_ W hbW ⟨h0, Nat.le_trans hwL hbel.size, hgW⟩).mono ?_
 ·rintro pre W W' ⟨h1, h2, h3⟩ hgr
  exact ⟨hJ.new _ _ _ h1 hgr, Nat.le_trans h2 hgr.size, h3.keep fun k hk => hgr.block k (by omega) (by simp)⟩
 ·rintro pre W v hv ⟨h1, h2, h3⟩
  refine ⟨hJ.put _ _ _ hv h1, ?_, h3.keep fun k hk => heap_setCell_ne v (by omega)⟩
  show w.heap.size ≤ (W.heap.modify b _).size
  rw [Array.size_modify]; exact h2
 ·rintro pre x W1 hx ⟨h1, h2, h3⟩ hlen
  obtain ⟨fn, tmps, asg, body, hy, hR⟩ := hY pre x W1 hx h1 hlen
  refine ⟨fn, tmps, asg, body, hy, hR.mono ?_⟩
  rintro e W' (⟨rfl, k1, k2, k3, k4⟩ | h)
  ·exact .inl ⟨rfl, ⟨k1, Nat.le_trans h2 k3, k4 h3⟩, k2⟩
  ·exact .inr h
 ·rintro e W' ⟨h1, (⟨xs, h2, h3⟩ | h)⟩
  ·exact ⟨h1, .inl ⟨xs, h2, h3.1⟩⟩
  ·exact ⟨h1, .inr h⟩
theorem ps_end {a : Act} {W : World} {b d : Nat} {σ : St} {ret : D} (hA : ∀ g o, A g o → g < w.heap.size) (hat : At (Ent.plain w lay0 hg) A 66 a b σ W) (hσ : CalmS σ) (h : retP Tryz.S Tryz.f12 ret σ)
 (hd : a.defers = [{ target := .collected d, args := #[] }]) (hl : w.heap.size ≤ d) (hD : W.heap[d]? = some (.deferred (some []))) : LeavesInM Fence.wide 6 Tryz.prog Tryz.f12 a.tmps (EvEnd w A ret) a.defers .returning W := by
 obtain ⟨L, hI, -⟩ := hat
 exact leave1 tysOk hA hI hσ h hd hl hD
theorem ps_loop_in {s : List UInt8} (hs : s.length ≤ 60000) (hA : ∀ g o, A g o → g < w.heap.size) {a : Act} {W : World} (hd : a.defers = []) (hr : Rel (Ent.plain w lay0 hg) A 66 (σL s) (strip a) W) :
 psLoop.wpIn (Vm.Fr none) 6 Tryz.prog (Exit.then (psPost.wpIn (Vm.Fr none) 6 Tryz.prog (bodyPostM Fence.wide 6 Tryz.prog Tryz.f12 (EvEnd w A (psK (runL 1 [] (lnOf (spl 10 s))))))) (bodyPostM Fence.wide 6 Tryz.prog Tryz.f12 (EvEnd w A (psK (runL 1 [] (lnOf (spl 10 s))))))) a W := by
 have hwW : w.heap.size ≤ W.heap.size := by obtain ⟨L, A1, hI⟩ := hr; exact hI.below.size
 obtain ⟨b, h17, hwb, hbW, hbox, hat⟩ := ps_start hr
 have hpl : (lnOf (spl 10 s)).length ≤ 70000 := by
  have h1 := ln_len (spl 10 s)
  have h2 := spl_size 10 s
  omega
 obtain ⟨i, hsh⟩ := ps_loop
 rw [hsh]
 refine wpIn_block ?_
 refine wpIn_rangeFunc_cell b VpS hbW rfl (by decide) (gf := 62) (lb := #[.pointer (some ⟨b, 0, none⟩)]) h17 trivial (fun args w => enters_of Tryz.func62 rfl rfl args w) (encs := encL) (Px := fun x => x.1.length ≤ s.length)
  (Kp := fun W1 W' => KpB b W1 W' ∧ W1.heap.size ≤ W'.heap.size ∧ (GOk w.heap.size W1 → GOk w.heap.size W')) (S := fun xs => xs = lnOf (spl 10 s)) (Sp := fun pre => pre <+: lnOf (spl 10 s)) (N := (lnOf (spl 10 s)).length)
  ?hseq ?hKt ?hKb (fun _ => rfl) (PsI a b hg A) (PsX a b hg A) (psI_own hA hwW) (psX_own hA hwW) ?hIb ?hIxb ?h0 (asg1 a) ?hassign ?hbody ?hdone ?hstop
 case hseq => exact fun l J Jx W1 hbel hJ hJx hY h0 => lines_seq hs (by decide) hwb hbW hwW hat.gl hbox hbel hJ hY h0
 case hKt => exact fun h1 h2 => ⟨fun u hu => h2.1 u (h1.1 u hu), Nat.le_trans h1.2.1 h2.2.1, fun h => h2.2.2 (h1.2.2 h)⟩
 case hKb =>
  intro W1 l o o' hl ho hoc how
  refine ⟨fun u hu => ?_, by simp, fun h => h.keep fun k hk => World.putObj_heap_other (by omega)⟩
  obtain ⟨t, hu⟩ := hu
  exact ⟨t, (World.putObj_heap_other (by omega)).trans hu⟩
 case hIb => 
  rintro pre W1 v hv ⟨ss, h1, h2, h3⟩
  exact ⟨ss, h1.put hA hwb v, h2, h3⟩
 case hIxb =>
  rintro c pre W1 v hv ⟨hc, k, h1, h2⟩
  exact ⟨hc, k, h1.put hA hwb v, h2⟩
 case h0 => exact ⟨[], hat, Nat.le_refl _, fun r => rfl⟩
 case hassign =>
  intro l x W1 K hK
  refine asg_in (r := some l) ?_
  refine Eq.mpr (congrArg (fun y => K y W1) (asg1_eq a x hat.size _ ?_)) hK
  simp [encL]
 case hbody =>
  intro l pre x W1 hx hi hlen
  exact ps_body hs l pre x W1 hx hi hlen hpl
 case hdone =>
  rintro D xs W1 hD hxs ⟨ss, h1, h2, h3⟩ hDm
  have h3 := h3 []
  rw [List.append_nil, hxs] at h3
  rw [hxs] at h1 h2
  rw [h3]
  show psPost.wpIn (Vm.Fr none) 6 Tryz.prog _ _ W1
  have hat1 : At (Ent.plain w lay0 hg) A 66 { a with defers := { target := .collected D, args := #[] } :: a.defers } b (σI ss (lnOf (spl 10 s)).length) W1 := h1
  refine round_in tysOk mixed hat1 (calm_I _ _) (ds := [{ target := .collected D, args := #[] }]) (by rw [hd]) calm_post (post_walk ss _) ?_ ?_
  ·rintro ex τ ⟨-, (⟨-, rfl⟩ | ⟨-, rfl⟩)⟩
   ·exact calm_K _
   ·exact calm_R _ _
  ·rintro ex a' W' ⟨⟨ex', σ, rfl, hf, hat'⟩, hk, hoth, -⟩
   have hD' := hoth.same D _ hDm rfl
   have hfin : LeavesInM Fence.wide 6 Tryz.prog Tryz.f12 a'.tmps (EvEnd w A (psK (.ok ss))) a'.defers .returning W' := by
    rcases hf.2 with ⟨h0, rfl⟩ | ⟨h0, rfl⟩
    ·rw [psK_ok h0]
     exact ps_end hA hat' (calm_K _) (ret_K ss) hk.df (Nat.le_trans hwW hD) hD'
    ·rw [psK_no h0]
     exact ps_end hA hat' (calm_R _ _) (ret_R 0 _) hk.df (Nat.le_trans hwW hD) hD'
   rcases hf.1 with rfl | rfl
   ·exact hfin
   ·exact hfin
 case hstop =>
  rintro D c pre W1 hD hpre ⟨rfl, k, h1, h2⟩ hDm
  refine wpIn_ret ?_
  obtain ⟨r, hr⟩ := hpre
  have := h2 r
  rw [hr] at this
  rw [this]
  have hat1 : At (Ent.plain w lay0 hg) A 66 { a with defers := { target := .collected D, args := #[] } :: a.defers } b (σR k 7) W1 := h1
  exact ps_end hA hat1 (calm_R _ _) (ret_R k 7) (by rw [hd]) (Nat.le_trans hwW hD) hDm
end
theorem ev_ParseSheet (s : List UInt8) (hs : s.length ≤ 60000) : Ev Tryz.prog 12 [wD s] (psK (runS 1 [] (spl 10 s))) := by
 rw [← runL_ln]
 refine ⟨⟨_, Tryz.func12, rfl, rfl⟩, fun w A vals hg hA hsz hreps => (callsIn_wide (n := 6)).1 ?_⟩
 refine callsIn_of_wp_marks (fn := Tryz.f12) (c := psC) Tryz.func12 rfl trivial ?_
 have hst := start_plain (hg := hg) (N := 66) (args := [wD s]) (by simp) hA hsz hreps
 rw [ps_shape]
 refine pre_in tysOk mixed (r := none) (ds := []) (e := Ent.plain w lay0 hg) (D := fun _ => true) (tm := #[]) calm_pre (pre_walk s hs) ⟨lay0, A, hst⟩ ⟨rfl, fun t h => by cases h⟩ ?_ ?_
 ·rintro σ' a' w' hr hk ⟨τ, rn, hf, hle⟩
  have hf : τ = σL s := hf
  subst hf
  exact ps_loop_in hs hA hk.df (le_sound hle hr)
 ·rintro ex σ' hne ⟨τ, rn, hf, -⟩
  cases ex with
  | normal => exact hne rfl
  | ret => exact hf
  | exit i => exact hf
end Go.Proofs.Tryz
end

section
namespace Go.Proofs.Tryz
open Go Go.Vm
theorem int_of {k : IntKind} {d : D} (h : Ty (.int k) d) : ∃ n, d = .int k n ∧ (Lit.int k n).wf = true := by cases h; exact ⟨_, rfl, by assumption⟩
theorem str_of {d : D} (h : Ty .str d) : ∃ s, d = .str s ∧ s.size ≤ 9223372036854775807 := by
 cases h with
 | str s h => exact ⟨_, rfl, h⟩
theorem sl_of {agg : Bool} {cs : List Cs} {d : D} (h : Ty (.sl agg cs) d) : ∃ es, d = .sl cs.length es ∧ (∀ e ∈ es, TyV (agg, cs) e) ∧ es.length ≤ 9223372036854775807 := by
 cases h with
 | sl hk hl h hn => exact ⟨_, rfl, fun e he => ⟨hk e he, hl e he, h e he⟩, hn⟩
theorem agg_of {cs : List Cs} {d : D} (h : TyV (true, cs) d) : ∃ ds, d = .agg ds ∧ ds.length = cs.length ∧ ∀ (j : Nat) c e, cs[j]? = some c → ds[j]? = some e → Ty c e := by
 obtain ⟨ds, rfl⟩ := h.1.1 rfl
 exact ⟨ds, rfl, h.2.1, h.2.2⟩
theorem one_of {c : Cs} {d : D} (h : TyV (false, [c]) d) : Ty c d := by
 have h1 := h.1.2 rfl
 have := h.2.2 0 c d rfl
 rw [(one_cells h1).1] at this
 exact this rfl
theorem map_of {α : Type} {f : α → D} {Q : D → Prop} (hf : ∀ d, Q d → ∃ a, d = f a) : ∀ {es : List D}, (∀ e ∈ es, Q e) → ∃ l : List α, es = l.map f
 | [], _ => ⟨[], rfl⟩
 | e :: es, h => by
  obtain ⟨a, rfl⟩ := hf e (h e (List.mem_cons_self ..))
  obtain ⟨l, rfl⟩ := map_of hf (fun e he => h e (List.mem_cons_of_mem _ he))
  exact ⟨a :: l, rfl⟩
end Go.Proofs.Tryz
end
