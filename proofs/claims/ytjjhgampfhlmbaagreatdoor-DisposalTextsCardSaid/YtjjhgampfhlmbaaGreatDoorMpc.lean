/- Texts TyP TyS TyT TyU TyQ TyV, joined; what is not needed is left out. -/
import Derived.Test.YtjjhgampfhlmbaaGreatDoorMgI
import Derived.Test.YtjjhgampfhlmbaaGreatDoorProg
import Derived.Shelf.Lays
import Derived.Lib.AtoiAllCases
import Derived.Lib.MakeNoZero
import Derived.Laws.IdiomCopy
import Derived.Lib.CutLaws
import Derived.Test.YtjjhgampfhlmbaaGreatDoorMgH
import Derived.Shelf.Strings.Builder1
import Derived.Lib.ItoaLen
import Derived.Lib.AtoiTie
import Derived.Lib.SplitLaws
import Derived.Shelf.LaysM
import Derived.Shelf.LaysC
import Derived.Test.YtjjhgampfhlmbaaGreatDoorMpb
section
namespace Go.Proofs.Tryz
open Go Go.Vm Go.Plain
set_option maxRecDepth 20000
set_option maxHeartbeats 4000000
def rdD (y : Yd) (w1 : List UInt8) : List (List UInt8) → Option Yd
 | [w2, w3] => if w2 = [] then none else
  match numsOf [w1, w3] with
  | some [a, b] => some { y with deps := y.deps ++ [⟨a, ofL w2, b⟩] }
  | _ => none
 | _ => none
def rdY (y : Yd) : List (List UInt8) → Option Yd
 | w0 :: w1 :: r =>
  if w1 = [] then none
  else if w0 = sPit then
   if y.bulk.length + y.deps.length = 0 then
    match numsOf r with
    | some (a :: b :: c :: d :: l) => some { y with pits := y.pits ++ [⟨ofL w1, a, b, c, l, d⟩] }
    | _ => none
   else none
  else if w0 = sBulk then
   if y.deps.length = 0 then
    match numsOf r with
    | some [a, b, c] => some { y with bulk := y.bulk ++ [⟨ofL w1, a, b⟩], carry := y.carry ++ [c] }
    | _ => none
   else none
  else if w0 = sDep then rdD y w1 r
  else none
 | _ => none
def runY (n : Nat) (y : Yd) : List (List UInt8) → Except Nat Yd
 | [] => .ok y
 | [x] => if x = [] then .ok y else .error n
 | x :: z :: l => match rdY y (spl 32 x) with
  | some y' => runY (n + 1) y' (z :: l)
  | none => .error n
def rdAll (y : Yd) : List (List (List UInt8)) → Option Yd
 | [] => some y
 | w :: r => match rdY y w with
  | some y' => rdAll y' r
  | none => none
theorem rdAll_app : ∀ (a b : List (List (List UInt8))) (y y' : Yd), rdAll y a = some y' → rdAll y (a ++ b) = rdAll y' b
 | [], b, y, y', h => by cases h; rfl
 | w :: a, b, y, y', h => by
  rw [List.cons_append, rdAll]
  rw [rdAll] at h
  split at h
  ·rename_i y1 h1
   exact rdAll_app a b y1 y' h
  ·cases h
theorem run_all : ∀ (ls : List (List (List UInt8))) (n : Nat) (y y' : Yd), (∀ w ∈ ls, spl 32 (joinW w) = w) → rdAll y ls = some y' → runY n y (ls.map joinW ++ [[]]) = .ok y'
 | [], n, y, y', _, h => by cases h; rfl
 | w :: ls, n, y, y', hw, h => by
  rw [rdAll] at h
  split at h
  ·rename_i y1 h1
   have ih := run_all ls (n + 1) y1 y' (fun x hx => hw x (List.mem_cons_of_mem _ hx)) h
   have e : ∃ z l, ls.map joinW ++ [[]] = z :: l := by
    cases ls with
    | nil => exact ⟨_, _, rfl⟩
    | cons a b => exact ⟨_, _, rfl⟩
   obtain ⟨z, l, e⟩ := e
   rw [List.map_cons, List.cons_append, e, runY, hw w List.mem_cons_self, h1, ← e]
   exact ih
  ·cases h
theorem zB_lt {n : Int} (h : zB n) : n.natAbs < 1000000000000000 := by unfold zB at h; omega
theorem nm_ne {s : ByteArray} (h : nameB s = true) : s.data.toList ≠ [] := fun e => nm_pos h (ba_ext e)
theorem rd_pit (P : List Pt) (C : List Int) {p : Pt} (h : PitOk p) : rdY ⟨P, [], [], C⟩ (pitW p) = some ⟨P ++ [p], [], [], C⟩ := by
 have h1 := numsOf_itoa (l := [p.area, p.base, p.top, p.price] ++ p.cls) fun n hn => zB_lt (h.z n hn)
 simp only [List.cons_append, List.nil_append] at h1
 have h2 := nm_ne h.nm
 simp only [pitW, List.cons_append, List.nil_append]
 have h0 : (Yd.mk P [] [] C).bulk.length + (Yd.mk P [] [] C).deps.length = 0 := rfl
 rw [rdY, if_neg h2, if_pos rfl, if_pos h0, h1]
 simp only [ofL_data]
theorem rd_bulk (P : List Pt) (B : List Bk) (C : List Int) {b : Bk} {c : Int} (h : BulkOk b c) : rdY ⟨P, B, [], C⟩ (bulkW b c) = some ⟨P, B ++ [b], [], C ++ [c]⟩ := by
 have h1 := numsOf_itoa (l := [b.num, b.den, c]) fun n hn => zB_lt (h.z n hn)
 have h2 := nm_ne h.nm
 simp only [bulkW, List.cons_append, List.nil_append]
 have h0 : (Yd.mk P B [] C).deps.length = 0 := rfl
 rw [rdY, if_neg h2, if_neg (by decide), if_pos rfl, if_pos h0, h1]
 simp only [ofL_data]
theorem rd_dep (P : List Pt) (B : List Bk) (D : List Dp) (C : List Int) {d : Dp} (h : DepOk d) : rdY ⟨P, B, D, C⟩ (depW d) = some ⟨P, B, D ++ [d], C⟩ := by
 have h1 := numsOf_itoa (l := [d.batch, d.vol]) fun n hn => by
  simp only [List.mem_cons, List.not_mem_nil, or_false] at hn
  rcases hn with rfl | rfl
  ·exact zB_lt h.zb
  ·exact zB_lt h.zv
 have h2 := nm_ne h.nm
 have h3 : Lib.itoa d.batch ≠ [] := by
  rw [itoa_sign]
  intro e
  exact dig_ne _ (List.append_eq_nil_iff.1 e).2
 simp only [List.map_cons, List.map_nil] at h1
 simp only [depW]
 rw [rdY, if_neg h3, if_neg (by decide), if_neg (by decide), if_pos rfl, rdD, if_neg h2, h1]
 simp only [ofL_data]
theorem rd_pits : ∀ (ps P : List Pt) (C : List Int), (∀ p ∈ ps, PitOk p) → rdAll ⟨P, [], [], C⟩ (ps.map pitW) = some ⟨P ++ ps, [], [], C⟩
 | [], P, C, _ => by rw [List.append_nil]; rfl
 | p :: ps, P, C, h => by
  rw [List.map_cons, rdAll, rd_pit P C (h p List.mem_cons_self)]
  show rdAll ⟨P ++ [p], [], [], C⟩ (ps.map pitW) = _
  rw [rd_pits ps _ C fun x hx => h x (List.mem_cons_of_mem _ hx)]
  simp
theorem rd_bulks : ∀ (bs : List Bk) (cs : List Int) (P : List Pt) (B : List Bk) (C : List Int), cs.length = bs.length → (∀ (i : Nat) b c, bs[i]? = some b → cs[i]? = some c → BulkOk b c) →
 rdAll ⟨P, B, [], C⟩ (List.zipWith bulkW bs cs) = some ⟨P, B ++ bs, [], C ++ cs⟩
 | [], [], P, B, C, _, _ => by rw [List.append_nil, List.append_nil]; rfl
 | b :: bs, c :: cs, P, B, C, hl, h => by
  rw [List.zipWith_cons_cons, rdAll, rd_bulk P B C (h 0 b c rfl rfl)]
  show rdAll ⟨P, B ++ [b], [], C ++ [c]⟩ _ = _
  rw [rd_bulks bs cs P _ _ (by simpa using hl) fun i x z hx hz => h (i + 1) x z (by simpa using hx) (by simpa using hz)]
  simp
 | [], _ :: _, _, _, _, hl, _ => by cases hl
 | _ :: _, [], _, _, _, hl, _ => by cases hl
theorem rd_deps : ∀ (ds : List Dp) (P : List Pt) (B : List Bk) (D : List Dp) (C : List Int), (∀ d ∈ ds, DepOk d) → rdAll ⟨P, B, D, C⟩ (ds.map depW) = some ⟨P, B, D ++ ds, C⟩
 | [], P, B, D, C, _ => by rw [List.append_nil]; rfl
 | d :: ds, P, B, D, C, h => by
  rw [List.map_cons, rdAll, rd_dep P B D C (h d List.mem_cons_self)]
  show rdAll ⟨P, B, D ++ [d], C⟩ _ = _
  rw [rd_deps ds P B _ C fun x hx => h x (List.mem_cons_of_mem _ hx)]
  simp
theorem rd_yard {y : Yd} (h : PrOk y) : rdAll y0 (ydW y) = some y := by
 have h1 := rd_pits y.pits [] [] h.pit
 have h2 := rd_bulks y.bulk y.carry ([] ++ y.pits) [] [] h.carL h.bk
 have h3 := rd_deps y.deps ([] ++ y.pits) ([] ++ y.bulk) [] ([] ++ y.carry) h.dp
 unfold ydW y0
 rw [rdAll_app _ _ _ _ h1, rdAll_app _ _ _ _ h2, h3]
 rfl
def okW (W : List (List UInt8)) : Prop := W ≠ [] ∧ ∀ w ∈ W, (32 : UInt8) ∉ w ∧ (10 : UInt8) ∉ w
theorem okI (n : Int) : (32 : UInt8) ∉ Lib.itoa n ∧ (10 : UInt8) ∉ Lib.itoa n := ⟨itoa_no _ _ (by decide), itoa_no _ _ (by decide)⟩
theorem ok_pit {p : Pt} (h : PitOk p) : okW (pitW p) := by
 refine ⟨by simp [pitW], fun w hw => ?_⟩
 unfold pitW at hw
 rcases List.mem_append.1 hw with hw | hw
 ·rcases List.mem_cons.1 hw with rfl | hw
  ·decide
  ·rw [List.mem_singleton] at hw; rw [hw]; exact okN h.nm
 ·obtain ⟨n, -, rfl⟩ := List.mem_map.1 hw
  exact okI n
theorem ok_bulk {b : Bk} {c : Int} (h : BulkOk b c) : okW (bulkW b c) := by
 refine ⟨by simp [bulkW], fun w hw => ?_⟩
 unfold bulkW at hw
 rcases List.mem_append.1 hw with hw | hw
 ·rcases List.mem_cons.1 hw with rfl | hw
  ·decide
  ·rw [List.mem_singleton] at hw; rw [hw]; exact okN h.nm
 ·obtain ⟨n, -, rfl⟩ := List.mem_map.1 hw
  exact okI n
theorem ok_dep {d : Dp} (h : DepOk d) : okW (depW d) := by
 refine ⟨by simp [depW], fun w hw => ?_⟩
 simp only [depW, List.mem_cons, List.not_mem_nil, or_false] at hw
 rcases hw with rfl | rfl | rfl | rfl
 ·decide
 ·exact okI _
 ·exact okN h.nm
 ·exact okI _
theorem zip_at {α β γ : Type} {f : α → β → γ} : ∀ {xs : List α} {ys : List β} {x : γ}, x ∈ List.zipWith f xs ys → ∃ (i : Nat) (a : α) (b : β), xs[i]? = some a ∧ ys[i]? = some b ∧ x = f a b
 | [], _, x, h => by simp at h
 | _ :: _, [], x, h => by simp at h
 | a :: xs, b :: ys, x, h => by
  rw [List.zipWith_cons_cons] at h
  rcases List.mem_cons.1 h with rfl | h
  ·exact ⟨0, a, b, rfl, rfl, rfl⟩
  ·obtain ⟨i, a', b', h1, h2, h3⟩ := zip_at h
   exact ⟨i + 1, a', b', by simpa using h1, by simpa using h2, h3⟩
theorem ok_yard {y : Yd} (h : PrOk y) : ∀ W ∈ ydW y, okW W ∧ (joinW W ++ [10]).length ≤ 900 := by
 intro W hW
 unfold ydW at hW
 rcases List.mem_append.1 hW with hW | hW
 ·obtain ⟨p, hp, rfl⟩ := List.mem_map.1 hW
  have := h.pit p hp
  exact ⟨ok_pit this, pit_len p (nm_le this.nm) this.cl fun n hn => zB_bd (this.z n hn)⟩
 rcases List.mem_append.1 hW with hW | hW
 ·obtain ⟨i, b, c, h1, h2, rfl⟩ := zip_at hW
  have := h.bk i b c h1 h2
  exact ⟨ok_bulk this, bulk_len b c (nm_le this.nm) fun n hn => zB_bd (this.z n hn)⟩
 ·obtain ⟨d, hd, rfl⟩ := List.mem_map.1 hW
  have := h.dp d hd
  exact ⟨ok_dep this, dep_len d (nm_le this.nm) (zB_bd this.zb) (zB_bd this.zv)⟩
theorem catL_len : ∀ (ls : List (List (List UInt8))) (s : List UInt8), (∀ w ∈ ls, (joinW w ++ [10]).length ≤ 900) → (catL s ls).length ≤ s.length + 900 * ls.length
 | [], s, _ => by simp [catL]
 | w :: ls, s, h => by
  have h1 := h w List.mem_cons_self
  have h2 := catL_len ls (s ++ (joinW w ++ [10])) fun x hx => h x (List.mem_cons_of_mem _ hx)
  rw [catL]
  rw [List.length_append] at h2
  rw [List.length_cons]
  omega
theorem ydT_len {y : Yd} (h : PrOk y) : (ydT y).length ≤ 900 * (y.pits.length + y.bulk.length + y.deps.length) := by
 have := catL_len (ydW y) [] fun w hw => (ok_yard h w hw).2
 have e : (ydW y).length = y.pits.length + y.bulk.length + y.deps.length := by
  have := h.carL
  unfold ydW
  simp only [List.length_append, List.length_map, List.length_zipWith]
  omega
 rw [e] at this
 simpa [ydT] using this
theorem read_back {y : Yd} (h : PrOk y) : runY 1 y0 (spl 10 (ydT y)) = .ok y := by
 have hok := ok_yard h
 unfold ydT
 rw [catL_flat, List.nil_append, lines_all]
 ·exact run_all _ _ _ _ (fun w hw => spl_join w (hok w hw).1.1 fun x hx => ((hok w hw).1.2 x hx).1) (rd_yard h)
 ·intro x hx
  obtain ⟨w, hw, rfl⟩ := List.mem_map.1 hx
  exact joinW_no (by decide) w fun x hx => ((hok w hw).1.2 x hx).2
end Go.Proofs.Tryz
end

section
namespace Go.Proofs.Tryz
open Go Go.Vm Go.Plain
set_option maxRecDepth 20000
set_option maxHeartbeats 4000000
theorem numsOf_len : ∀ {ws : List (List UInt8)} {l : List Int}, numsOf ws = some l → l.length = ws.length
 | [], l, h => by cases h; rfl
 | w :: r, l, h => by
  rw [numsOf] at h
  split at h
  ·rename_i n l' h1 h2
   cases h
   rw [List.length_cons, List.length_cons, numsOf_len h2]
  ·cases h
theorem numOf_ne {w : List UInt8} {n : Int} (h : numOf w = some n) : w ≠ [] := by
 obtain ⟨rfl, -, -⟩ := numOf_some h
 rw [itoa_sign]
 intro e
 exact dig_ne _ (List.append_eq_nil_iff.1 e).2
def rdX (y : Yd) : List (Nat × Bx) :=
 [(1004, .row 3 1 (y.carry.map iD) false), (1003, .row 64 3 (y.deps.map dpD) false), (1002, .row 62 3 (y.bulk.map bkD) false), (1001, .row 58 6 (y.pits.map ptD) false),
  (1000, .var [.own 1001 6 y.pits.length, .own 1002 3 y.bulk.length, .own 1003 3 y.deps.length, .own 1004 1 y.carry.length] false)]
theorem xv_pit (y : Yd) (hy : RdOk y) (w1 : List UInt8) (r : List (List UInt8)) (a b c d : Int) (l : List Int) (hw : w1 ≠ []) (h0 : y.bulk.length + y.deps.length = 0) (hr : numsOf r = some (a :: b :: c :: d :: l))
 (hn : r.length ≤ 50000) (hx : ∀ x ∈ r, x.length ≤ 50000) :
 EvX Tryz.prog 67 [.ptr 1000 0, .d (.sl 1 ((w1 :: r).map wD))] (rdX y) (.d (.bool true))
  [(1004, .row 3 1 (y.carry.map iD) false), (1003, .row 64 3 (y.deps.map dpD) false), (1002, .row 62 3 (y.bulk.map bkD) false), (1001, .gone), (9, .row 58 6 ((y.pits ++ [(⟨ofL w1, a, b, c, l, d⟩ : Pt)]).map ptD) false),
   (1000, .var [.own 9 6 (y.pits.length + 1), .own 1002 3 y.bulk.length, .own 1003 3 y.deps.length, .own 1004 1 y.carry.length] false)] := by
 obtain ⟨q1, q2, q3, q4⟩ := hy
 have hrl := numsOf_len hr
 have hl1 : ((w1 :: r).map wD).length = r.length + 1 := by simp
 have hlp : (y.pits.map ptD).length = y.pits.length := List.length_map _
 have hlb : (y.bulk.map bkD).length = y.bulk.length := List.length_map _
 have hld : (y.deps.map dpD).length = y.deps.length := List.length_map _
 have hlc : (y.carry.map iD).length = y.carry.length := List.length_map _
 simp only [List.length_cons] at hrl
 have hN := ev_numbers r (by omega) (fun w hm => by have := hx w hm; omega)
 rw [hr] at hN
 have hd : (((w1 :: r).map wD).take (((w1 :: r).map wD).length : Int).toNat).drop (1 : Int).toNat = r.map wD := by rw [Int.toNat_natCast, List.take_length]; rfl
 rw [← hd] at hN
 have hC := ev_cloned l (by omega)
 have hd2 : (((a :: b :: c :: d :: l).map iD).take (((a :: b :: c :: d :: l).map iD).length : Int).toNat).drop (4 : Int).toNat = l.map iD := by rw [Int.toNat_natCast, List.take_length]; rfl
 rw [← hd2] at hC
 have hl2 : ((a :: b :: c :: d :: l).map iD).length = l.length + 4 := by simp
 have hwn : ofL w1 ≠ ⟨#[]⟩ := fun e => hw (ofL_inj e)
 refine evx_of_awp tysOk mixed (fn := Tryz.f67) Tryz.func67 rfl rfl rfl ?_
 conv => whnf
 repeat' (first|((refine PickE.mk (iD d) rfl ?_);conv=>whnf)|((refine PickE.mk (iD c) rfl ?_);conv=>whnf)|((refine PickE.mk (iD b) rfl ?_);conv=>whnf)|((refine PickE.mk (iD a) rfl ?_);conv=>whnf)|((refine PickE.mk (wD w1) rfl ?_);conv=>whnf)|((with_reducible refine Split.of_true ?_);conv=>whnf)|((with_reducible refine Split.streq (fun _=>?_) (fun _=>?_))<;>conv=>whnf)|((with_reducible refine Split.dec (fun _=>?_) (fun _=>?_))<;>conv=>whnf)|((with_reducible refine Need.mk ?_ ?_);(first|omega|rfl|decide|(refine ⟨?_,?_⟩<;>simp<;>omega)|(simp;omega));conv=>whnf)|((with_reducible refine AltK.l ?_);(conv=>whnf);(first|(refine CallK.mk _ (hN) ?_)|(refine CallK.mk _ (hC) ?_));conv=>whnf)|(exfalso;first|omega|contradiction)|fail)
 have hmp1 : y.pits.map ptD ++ D.agg [wD w1, iD a, iD b, iD c, .sl 1 ((((a :: b :: c :: d :: l).map iD).take (((a :: b :: c :: d :: l).map iD).length : Int).toNat).drop (4 : Int).toNat), iD d] :: List.replicate 0 (D.agg [.str ⟨#[]⟩, iD 0, iD 0, iD 0, .sl 1 [], iD 0]) = (y.pits ++ [(⟨ofL w1, a, b, c, l, d⟩ : Pt)]).map ptD := by rw [hd2, List.map_append]; rfl
 exact ⟨⟨[(9, some 67)], (by refine ⟨?_, ?_, rfl⟩<;>(repeat' (first|exact True.intro|exact rfl|(refine ⟨?_,?_⟩)|(intro h;cases h;done)|(refine own_congr ?_;simp;done)|exact hmp1|fail));done)⟩, rfl⟩
theorem xv_pit_no (y : Yd) (hy : RdOk y) (ws : List (List UInt8)) (h : rdY y (sPit :: ws) = none) (hn : ws.length ≤ 50000) (hx : ∀ x ∈ ws, x.length ≤ 50000) :
 EvX Tryz.prog 67 [.ptr 1000 0, .d (.sl 1 (ws.map wD))] (rdX y) (.d (.bool false)) (rdX y) := by
 obtain ⟨q1, q2, q3, q4⟩ := hy
 have hl1 : (ws.map wD).length = ws.length := List.length_map _
 have hlp : (y.pits.map ptD).length = y.pits.length := List.length_map _
 have hlb : (y.bulk.map bkD).length = y.bulk.length := List.length_map _
 have hld : (y.deps.map dpD).length = y.deps.length := List.length_map _
 have hlc : (y.carry.map iD).length = y.carry.length := List.length_map _
 by_cases h5 : ws.length < 5
 ·refine evx_of_awp tysOk mixed (fn := Tryz.f67) Tryz.func67 rfl rfl rfl ?_
  conv => whnf
  repeat' (first|((with_reducible refine Split.of_true ?_);conv=>whnf)|((with_reducible refine Split.dec (fun _=>?_) (fun _=>?_))<;>conv=>whnf)|((with_reducible refine Need.mk ?_ ?_);(first|omega|rfl|decide|(refine ⟨?_,?_⟩<;>simp<;>omega)|(simp;omega));conv=>whnf)|(exfalso;first|omega|contradiction)|fail)
  exact ⟨⟨[], (by refine ⟨?_, ?_, rfl⟩<;>(repeat' (first|exact True.intro|exact rfl|(refine ⟨?_,?_⟩)|(intro h;cases h;done)|fail));done)⟩, rfl⟩
 cases ws with
 | nil => exact absurd (show (0 : Nat) < 5 by decide) h5
 | cons w1 r =>
 simp only [List.length_cons] at h5 hn
 have hl1 : ((w1 :: r).map wD).length = r.length + 1 := by simp
 cases hr : numsOf r with
 | none =>
  have hN := ev_numbers r (by omega) (fun w hm => by have := hx w (List.mem_cons_of_mem _ hm); omega)
  rw [hr] at hN
  have hd : (((w1 :: r).map wD).take (((w1 :: r).map wD).length : Int).toNat).drop (1 : Int).toNat = r.map wD := by rw [Int.toNat_natCast, List.take_length]; rfl
  rw [← hd] at hN
  refine evx_of_awp tysOk mixed (fn := Tryz.f67) Tryz.func67 rfl rfl rfl ?_
  conv => whnf
  repeat' (first|((refine PickE.mk (wD w1) rfl ?_);conv=>whnf)|((with_reducible first|refine Split.of_true ?_|refine Split.of_false ?_);conv=>whnf)|((with_reducible refine Split.streq (fun _=>?_) (fun _=>?_))<;>conv=>whnf)|((with_reducible refine Split.dec (fun _=>?_) (fun _=>?_))<;>conv=>whnf)|((with_reducible refine Need.mk ?_ ?_);(first|omega|rfl|decide|(refine ⟨?_,?_⟩<;>simp<;>omega)|(simp;omega));conv=>whnf)|((with_reducible refine AltK.l ?_);(conv=>whnf);(first|(refine CallK.mk _ (hN) ?_));conv=>whnf)|(exfalso;first|omega|contradiction)|fail)
  all_goals first
   |(exfalso; omega)
   | exact ⟨⟨[], (by refine ⟨?_, ?_, rfl⟩<;>(repeat' (first|exact True.intro|exact rfl|(refine ⟨?_,?_⟩)|(intro h;cases h;done)|fail));done)⟩, rfl⟩
 | some l =>
  have hrl := numsOf_len hr
  have hbad : w1 = [] ∨ 0 < y.bulk.length + y.deps.length := by
   by_cases hw : w1 = []
   ·exact .inl hw
   refine .inr (Nat.pos_of_ne_zero fun e => ?_)
   match l, hrl with
   | a :: b :: c :: d :: l, _ => rw [rdY, if_neg hw, if_pos rfl, if_pos e, hr] at h; cases h
   | [], e => simp at e; omega
   | [_], e => simp at e; omega
   | [_, _], e => simp at e; omega
   | [_, _, _], e => simp at e; omega
  refine evx_of_awp tysOk mixed (fn := Tryz.f67) Tryz.func67 rfl rfl rfl ?_
  conv => whnf
  repeat' (first|((refine PickE.mk (wD w1) rfl ?_);conv=>whnf)|((with_reducible refine Split.of_true ?_);conv=>whnf)|((with_reducible refine Split.streq (fun _=>?_) (fun _=>?_))<;>conv=>whnf)|((with_reducible refine Split.dec (fun _=>?_) (fun _=>?_))<;>conv=>whnf)|((with_reducible refine Need.mk ?_ ?_);(first|omega|rfl|decide|(refine ⟨?_,?_⟩<;>simp<;>omega)|(simp;omega));conv=>whnf)|(exfalso;first|omega|contradiction)|fail)
  all_goals first
   | exact ⟨⟨[], (by refine ⟨?_, ?_, rfl⟩<;>(repeat' (first|exact True.intro|exact rfl|(refine ⟨?_,?_⟩)|(intro h;cases h;done)|fail));done)⟩, rfl⟩
   |(exfalso; omega)
   |(exfalso
     have hw : ofL w1 ≠ ⟨#[]⟩ := by assumption
     rcases hbad with e | e
     ·exact hw (by rw [e]; rfl)
     ·omega)
theorem xv_bulking (y : Yd) (hy : RdOk y) (w1 : List UInt8) (r : List (List UInt8)) (a b c : Int) (hw : w1 ≠ []) (h0 : y.deps.length = 0) (hr : numsOf r = some [a, b, c]) (hx : ∀ x ∈ r, x.length ≤ 50000) :
 EvX Tryz.prog 68 [.ptr 1000 0, .d (.sl 1 ((w1 :: r).map wD))] (rdX y) (.d (.bool true))
  [(1004, .gone), (1003, .row 64 3 (y.deps.map dpD) false), (1002, .gone), (1001, .row 58 6 (y.pits.map ptD) false), (9, .row 62 3 ((y.bulk ++ [(⟨ofL w1, a, b⟩ : Bk)]).map bkD) false), (2009, .row 3 1 ((y.carry ++ [c]).map iD) false),
   (1000, .var [.own 1001 6 y.pits.length, .own 9 3 (y.bulk.length + 1), .own 1003 3 y.deps.length, .own 2009 1 (y.carry.length + 1)] false)] := by
 obtain ⟨q1, q2, q3, q4⟩ := hy
 have hrl := numsOf_len hr
 simp only [List.length_cons, List.length_nil] at hrl
 have hl1 : ((w1 :: r).map wD).length = 4 := by simp; omega
 have hlp : (y.pits.map ptD).length = y.pits.length := List.length_map _
 have hlb : (y.bulk.map bkD).length = y.bulk.length := List.length_map _
 have hld : (y.deps.map dpD).length = y.deps.length := List.length_map _
 have hlc : (y.carry.map iD).length = y.carry.length := List.length_map _
 have hN := ev_numbers r (by omega) (fun w hm => by have := hx w hm; omega)
 rw [hr] at hN
 have hd : (((w1 :: r).map wD).take (((w1 :: r).map wD).length : Int).toNat).drop (1 : Int).toNat = r.map wD := by rw [Int.toNat_natCast, List.take_length]; rfl
 rw [← hd] at hN
 have hwn : ofL w1 ≠ ⟨#[]⟩ := fun e => hw (ofL_inj e)
 have hmp1 : y.bulk.map bkD ++ D.agg [wD w1, iD a, iD b] :: List.replicate 0 (D.agg [.str ⟨#[]⟩, iD 0, iD 0]) = (y.bulk ++ [(⟨ofL w1, a, b⟩ : Bk)]).map bkD := by rw [List.map_append]; rfl
 have hmp2 : y.carry.map iD ++ iD c :: List.replicate 0 (iD 0) = (y.carry ++ [c]).map iD := by rw [List.map_append]; rfl
 refine evx_of_awp tysOk mixed (fn := Tryz.f68) Tryz.func68 rfl rfl rfl ?_
 conv => whnf
 repeat' (first|((refine PickE.mk (iD c) rfl ?_);conv=>whnf)|((refine PickE.mk (iD b) rfl ?_);conv=>whnf)|((refine PickE.mk (iD a) rfl ?_);conv=>whnf)|((refine PickE.mk (wD w1) rfl ?_);conv=>whnf)|((with_reducible refine Split.of_true ?_);conv=>whnf)|((with_reducible refine Split.nez (fun _=>?_) (fun _=>?_))<;>conv=>whnf)|((with_reducible refine Split.streq (fun _=>?_) (fun _=>?_))<;>conv=>whnf)|((with_reducible refine Split.dec (fun _=>?_) (fun _=>?_))<;>conv=>whnf)|((with_reducible refine Need.mk ?_ ?_);(first|omega|rfl|decide|(refine ⟨?_,?_⟩<;>simp<;>omega)|(simp;omega));conv=>whnf)|((with_reducible refine AltK.l ?_);(conv=>whnf);(first|(refine CallK.mk _ (hN) ?_));conv=>whnf)|(exfalso;first|omega|contradiction)|fail)
 exact ⟨⟨[(9, some 50), (2009, some 64)], (by refine ⟨?_, ?_, rfl⟩<;>(repeat' (first|exact True.intro|exact rfl|(refine ⟨?_,?_⟩)|(intro h;cases h;done)|exact map_snoc|(refine own_congr ?_;simp;done)|exact hmp1|fail));done)⟩, rfl⟩
theorem xv_bulking_no (y : Yd) (hy : RdOk y) (ws : List (List UInt8)) (h : rdY y (sBulk :: ws) = none) (hn : ws.length ≤ 50000) (hx : ∀ x ∈ ws, x.length ≤ 50000) :
 EvX Tryz.prog 68 [.ptr 1000 0, .d (.sl 1 (ws.map wD))] (rdX y) (.d (.bool false)) (rdX y) := by
 obtain ⟨q1, q2, q3, q4⟩ := hy
 have hl1 : (ws.map wD).length = ws.length := List.length_map _
 have hlp : (y.pits.map ptD).length = y.pits.length := List.length_map _
 have hlb : (y.bulk.map bkD).length = y.bulk.length := List.length_map _
 have hld : (y.deps.map dpD).length = y.deps.length := List.length_map _
 have hlc : (y.carry.map iD).length = y.carry.length := List.length_map _
 by_cases h5 : ws.length ≠ 4
 ·refine evx_of_awp tysOk mixed (fn := Tryz.f68) Tryz.func68 rfl rfl rfl ?_
  conv => whnf
  repeat' (first|((with_reducible refine Split.of_true ?_);conv=>whnf)|((with_reducible refine Split.nez (fun _=>?_) (fun _=>?_))<;>conv=>whnf)|((with_reducible refine Need.mk ?_ ?_);(first|omega|rfl|decide|(refine ⟨?_,?_⟩<;>simp<;>omega)|(simp;omega));conv=>whnf)|(exfalso;first|omega|contradiction)|fail)
  all_goals first
   |(exfalso; omega)
   | exact ⟨⟨[], (by refine ⟨?_, ?_, rfl⟩<;>(repeat' (first|exact True.intro|exact rfl|(refine ⟨?_,?_⟩)|(intro h;cases h;done)|fail));done)⟩, rfl⟩
 cases ws with
 | nil => exact absurd (show (0 : Nat) ≠ 4 by decide) h5
 | cons w1 r =>
 simp only [List.length_cons] at h5 hn
 have hl1 : ((w1 :: r).map wD).length = 4 := by simp; omega
 cases hr : numsOf r with
 | none =>
  have hN := ev_numbers r (by omega) (fun w hm => by have := hx w (List.mem_cons_of_mem _ hm); omega)
  rw [hr] at hN
  have hd : (((w1 :: r).map wD).take (((w1 :: r).map wD).length : Int).toNat).drop (1 : Int).toNat = r.map wD := by rw [Int.toNat_natCast, List.take_length]; rfl
  rw [← hd] at hN
  refine evx_of_awp tysOk mixed (fn := Tryz.f68) Tryz.func68 rfl rfl rfl ?_
  conv => whnf
  repeat' (first|((refine PickE.mk (wD w1) rfl ?_);conv=>whnf)|((with_reducible first|refine Split.of_true ?_|refine Split.of_false ?_);conv=>whnf)|((with_reducible refine Split.nez (fun _=>?_) (fun _=>?_))<;>conv=>whnf)|((with_reducible refine Split.streq (fun _=>?_) (fun _=>?_))<;>conv=>whnf)|((with_reducible refine Split.dec (fun _=>?_) (fun _=>?_))<;>conv=>whnf)|((with_reducible refine Need.mk ?_ ?_);(first|omega|rfl|decide|(refine ⟨?_,?_⟩<;>simp<;>omega)|(simp;omega));conv=>whnf)|((with_reducible refine AltK.l ?_);(conv=>whnf);(first|(refine CallK.mk _ (hN) ?_));conv=>whnf)|(exfalso;first|omega|contradiction)|fail)
  all_goals first
   |(exfalso; omega)
   | exact ⟨⟨[], (by refine ⟨?_, ?_, rfl⟩<;>(repeat' (first|exact True.intro|exact rfl|(refine ⟨?_,?_⟩)|(intro h;cases h;done)|fail));done)⟩, rfl⟩
 | some l =>
  have hrl := numsOf_len hr
  have hbad : w1 = [] ∨ 0 < y.deps.length := by
   by_cases hw : w1 = []
   ·exact .inl hw
   refine .inr (Nat.pos_of_ne_zero fun e => ?_)
   have hl3 : l.length = 3 := by omega
   match l, hl3 with
   | [a, b, c], _ => rw [rdY, if_neg hw, if_neg (by decide), if_pos rfl, if_pos e, hr] at h; cases h
  refine evx_of_awp tysOk mixed (fn := Tryz.f68) Tryz.func68 rfl rfl rfl ?_
  conv => whnf
  repeat' (first|((refine PickE.mk (wD w1) rfl ?_);conv=>whnf)|((with_reducible refine Split.of_true ?_);conv=>whnf)|((with_reducible refine Split.nez (fun _=>?_) (fun _=>?_))<;>conv=>whnf)|((with_reducible refine Split.streq (fun _=>?_) (fun _=>?_))<;>conv=>whnf)|((with_reducible refine Split.dec (fun _=>?_) (fun _=>?_))<;>conv=>whnf)|((with_reducible refine Need.mk ?_ ?_);(first|omega|rfl|decide|(refine ⟨?_,?_⟩<;>simp<;>omega)|(simp;omega));conv=>whnf)|(exfalso;first|omega|contradiction)|fail)
  all_goals first
   | exact ⟨⟨[], (by refine ⟨?_, ?_, rfl⟩<;>(repeat' (first|exact True.intro|exact rfl|(refine ⟨?_,?_⟩)|(intro h;cases h;done)|fail));done)⟩, rfl⟩
   |(exfalso; omega)
   |(exfalso
     have hw : ofL w1 ≠ ⟨#[]⟩ := by assumption
     rcases hbad with e | e
     ·exact hw (by rw [e]; rfl)
     ·omega)
theorem xv_deposit (y : Yd) (hy : RdOk y) (w1 w2 w3 : List UInt8) (a b : Int) (hw : w2 ≠ []) (hr : numsOf [w1, w3] = some [a, b]) (h1 : w1.length ≤ 50000) (h3 : w3.length ≤ 50000) :
 EvX Tryz.prog 69 [.ptr 1000 0, .d (.sl 1 [wD w1, wD w2, wD w3])] (rdX y) (.d (.bool true))
  [(1004, .row 3 1 (y.carry.map iD) false), (1003, .gone), (1002, .row 62 3 (y.bulk.map bkD) false), (1001, .row 58 6 (y.pits.map ptD) false), (9, .row 64 3 ((y.deps ++ [(⟨a, ofL w2, b⟩ : Dp)]).map dpD) false),
   (1000, .var [.own 1001 6 y.pits.length, .own 1002 3 y.bulk.length, .own 9 3 (y.deps.length + 1), .own 1004 1 y.carry.length] false)] := by
 obtain ⟨q1, q2, q3, q4⟩ := hy
 have hlp : (y.pits.map ptD).length = y.pits.length := List.length_map _
 have hlb : (y.bulk.map bkD).length = y.bulk.length := List.length_map _
 have hld : (y.deps.map dpD).length = y.deps.length := List.length_map _
 have hlc : (y.carry.map iD).length = y.carry.length := List.length_map _
 have hN := ev_numbers [w1, w3] (by simp) (fun w hm => by
  simp only [List.mem_cons, List.not_mem_nil, or_false] at hm
  rcases hm with rfl | rfl <;> omega)
 rw [hr] at hN
 have hwn : ofL w2 ≠ ⟨#[]⟩ := fun e => hw (ofL_inj e)
 have hmp1 : y.deps.map dpD ++ D.agg [iD a, wD w2, iD b] :: List.replicate 0 (D.agg [iD 0, .str ⟨#[]⟩, iD 0]) = (y.deps ++ [(⟨a, ofL w2, b⟩ : Dp)]).map dpD := by rw [List.map_append]; rfl
 refine evx_of_awp tysOk mixed (fn := Tryz.f69) Tryz.func69 rfl rfl rfl ?_
 conv => whnf
 repeat' (first|((refine PickE.mk (iD b) rfl ?_);conv=>whnf)|((refine PickE.mk (iD a) rfl ?_);conv=>whnf)|((refine PickE.mk (wD w3) rfl ?_);conv=>whnf)|((refine PickE.mk (wD w1) rfl ?_);conv=>whnf)|((refine PickE.mk (wD w2) rfl ?_);conv=>whnf)|((with_reducible refine Split.of_true ?_);conv=>whnf)|((with_reducible refine Split.nez (fun _=>?_) (fun _=>?_))<;>conv=>whnf)|((with_reducible refine Split.streq (fun _=>?_) (fun _=>?_))<;>conv=>whnf)|((with_reducible refine Need.mk ?_ ?_);(first|omega|rfl|decide|(refine ⟨?_,?_⟩<;>simp<;>omega)|(simp;omega));conv=>whnf)|((with_reducible refine AltK.l ?_);(conv=>whnf);(first|(refine CallK.mk _ (hN) ?_));conv=>whnf)|(exfalso;first|omega|contradiction)|fail)
 exact ⟨⟨[(9, some 45)], (by refine ⟨?_, ?_, rfl⟩<;>(repeat' (first|exact True.intro|exact rfl|(refine ⟨?_,?_⟩)|(intro h;cases h;done)|(refine own_congr ?_;simp;done)|exact hmp1|fail));done)⟩, rfl⟩
theorem xv_deposit_no (y : Yd) (hy : RdOk y) (ws : List (List UInt8)) (h : rdY y (sDep :: ws) = none) (hn : ws.length ≤ 50000) (hx : ∀ x ∈ ws, x.length ≤ 50000) :
 EvX Tryz.prog 69 [.ptr 1000 0, .d (.sl 1 (ws.map wD))] (rdX y) (.d (.bool false)) (rdX y) := by
 obtain ⟨q1, q2, q3, q4⟩ := hy
 have hl1 : (ws.map wD).length = ws.length := List.length_map _
 have hlp : (y.pits.map ptD).length = y.pits.length := List.length_map _
 have hlb : (y.bulk.map bkD).length = y.bulk.length := List.length_map _
 have hld : (y.deps.map dpD).length = y.deps.length := List.length_map _
 have hlc : (y.carry.map iD).length = y.carry.length := List.length_map _
 by_cases h5 : ws.length ≠ 3
 ·refine evx_of_awp tysOk mixed (fn := Tryz.f69) Tryz.func69 rfl rfl rfl ?_
  conv => whnf
  repeat' (first|((with_reducible refine Split.of_true ?_);conv=>whnf)|((with_reducible refine Split.nez (fun _=>?_) (fun _=>?_))<;>conv=>whnf)|((with_reducible refine Need.mk ?_ ?_);(first|omega|rfl|decide|(refine ⟨?_,?_⟩<;>simp<;>omega)|(simp;omega));conv=>whnf)|(exfalso;first|omega|contradiction)|fail)
  all_goals first
   |(exfalso; omega)
   | exact ⟨⟨[], (by refine ⟨?_, ?_, rfl⟩<;>(repeat' (first|exact True.intro|exact rfl|(refine ⟨?_,?_⟩)|(intro h;cases h;done)|fail));done)⟩, rfl⟩
 match ws, (show ws.length = 3 by omega) with
 | [w1, w2, w3], _ =>
 have h1 := hx w1 (by simp)
 have h3 := hx w3 (by simp)
 by_cases hw : w2 = []
 ·subst hw
  refine evx_of_awp tysOk mixed (fn := Tryz.f69) Tryz.func69 rfl rfl rfl ?_
  conv => whnf
  repeat' (first|((refine PickE.mk (wD []) rfl ?_);conv=>whnf)|((with_reducible refine Split.of_true ?_);conv=>whnf)|((with_reducible refine Split.nez (fun _=>?_) (fun _=>?_))<;>conv=>whnf)|((with_reducible refine Split.streq (fun _=>?_) (fun _=>?_))<;>conv=>whnf)|((with_reducible refine Need.mk ?_ ?_);(first|omega|rfl|decide|(refine ⟨?_,?_⟩<;>simp<;>omega)|(simp;omega));conv=>whnf)|(exfalso;first|omega|contradiction)|fail)
  all_goals first
   | exact ⟨⟨[], (by refine ⟨?_, ?_, rfl⟩<;>(repeat' (first|exact True.intro|exact rfl|(refine ⟨?_,?_⟩)|(intro h;cases h;done)|fail));done)⟩, rfl⟩
   |(exfalso; contradiction)
 have hwn : ofL w2 ≠ ⟨#[]⟩ := fun e => hw (ofL_inj e)
 have hN := ev_numbers [w1, w3] (by simp) (fun w hm => by
  simp only [List.mem_cons, List.not_mem_nil, or_false] at hm
  rcases hm with rfl | rfl <;> omega)
 have hr : numsOf [w1, w3] = none := by
  cases hr : numsOf [w1, w3] with
  | none => rfl
  | some l =>
   exfalso
   have hw1 : w1 ≠ [] := fun e => by
    rw [numsOf] at hr
    split at hr
    ·rename_i n l' hn _
     rw [e] at hn
     exact numOf_ne hn rfl
    ·cases hr
   match l, numsOf_len hr with
   | [a, b], _ => rw [rdY, if_neg hw1, if_neg (by decide), if_neg (by decide), if_pos rfl, rdD, if_neg hw, hr] at h; cases h
 rw [hr] at hN
 refine evx_of_awp tysOk mixed (fn := Tryz.f69) Tryz.func69 rfl rfl rfl ?_
 conv => whnf
 repeat' (first|((refine PickE.mk (wD w3) rfl ?_);conv=>whnf)|((refine PickE.mk (wD w1) rfl ?_);conv=>whnf)|((refine PickE.mk (wD w2) rfl ?_);conv=>whnf)|((with_reducible first|refine Split.of_true ?_|refine Split.of_false ?_);conv=>whnf)|((with_reducible refine Split.nez (fun _=>?_) (fun _=>?_))<;>conv=>whnf)|((with_reducible refine Split.streq (fun _=>?_) (fun _=>?_))<;>conv=>whnf)|((with_reducible refine Need.mk ?_ ?_);(first|omega|rfl|decide|(refine ⟨?_,?_⟩<;>simp<;>omega)|(simp;omega));conv=>whnf)|((with_reducible refine AltK.l ?_);(conv=>whnf);(first|(refine CallK.mk _ (hN) ?_));conv=>whnf)|(exfalso;first|omega|contradiction)|fail)
 all_goals first
  | exact ⟨⟨[], (by refine ⟨?_, ?_, rfl⟩<;>(repeat' (first|exact True.intro|exact rfl|(refine ⟨?_,?_⟩)|(intro h;cases h;done)|fail));done)⟩, rfl⟩
  |(exfalso; contradiction)
end Go.Proofs.Tryz
end

section
namespace Go.Proofs.Tryz
open Go Go.Vm Go.Plain
set_option maxRecDepth 20000
set_option maxHeartbeats 4000000
theorem spl_ne (c : UInt8) (l : List UInt8) : spl c l ≠ [] := by
 cases l with
 | nil => simp [spl]
 | cons b r =>
  rw [spl]
  split
  ·simp
  ·split <;> simp
/-! The first word of a line, compared. -/
theorem w_yes {l : List UInt8} {b : ByteArray} (h : ofL l = b) : ((ofL l).toList == b.toList) = true := by rw [h]; exact beq_self_eq_true _
theorem w_no {l m : List UInt8} {b : ByteArray} (h : ofL m = b) (hn : l ≠ m) : ((ofL l).toList == b.toList) = false := by
 rw [← h]; exact sEq_ne fun e => hn (ofL_inj e)
theorem w_pp : ((ofL sPit).toList == (⟨#[112, 105, 116]⟩ : ByteArray).toList) = true := w_yes rfl
theorem w_bp : ((ofL sBulk).toList == (⟨#[112, 105, 116]⟩ : ByteArray).toList) = false := w_no (m := sPit) rfl (by decide)
theorem w_bb : ((ofL sBulk).toList == (⟨#[98, 117, 108, 107, 105, 110, 103]⟩ : ByteArray).toList) = true := w_yes rfl
theorem w_dp : ((ofL sDep).toList == (⟨#[112, 105, 116]⟩ : ByteArray).toList) = false := w_no (m := sPit) rfl (by decide)
theorem w_db : ((ofL sDep).toList == (⟨#[98, 117, 108, 107, 105, 110, 103]⟩ : ByteArray).toList) = false := w_no (m := sBulk) rfl (by decide)
theorem w_dd : ((ofL sDep).toList == (⟨#[100, 101, 112, 111, 115, 105, 116]⟩ : ByteArray).toList) = true := w_yes rfl
theorem w_pb : ((ofL sPit).toList == (⟨#[98, 117, 108, 107, 105, 110, 103]⟩ : ByteArray).toList) = false := w_no (m := sBulk) rfl (by decide)
theorem w_pd : ((ofL sPit).toList == (⟨#[100, 101, 112, 111, 115, 105, 116]⟩ : ByteArray).toList) = false := w_no (m := sDep) rfl (by decide)
theorem w_bd : ((ofL sBulk).toList == (⟨#[100, 101, 112, 111, 115, 105, 116]⟩ : ByteArray).toList) = false := w_no (m := sDep) rfl (by decide)
def usP (y : Yd) (p : Pt) : List (Nat × Bx) :=
 [(1004, .row 3 1 (y.carry.map iD) false), (1003, .row 64 3 (y.deps.map dpD) false), (1002, .row 62 3 (y.bulk.map bkD) false), (1001, .gone), (9, .row 58 6 ((y.pits ++ [p]).map ptD) false),
  (1000, .var [.own 9 6 (y.pits.length + 1), .own 1002 3 y.bulk.length, .own 1003 3 y.deps.length, .own 1004 1 y.carry.length] false)]
def usB (y : Yd) (b : Bk) (c : Int) : List (Nat × Bx) :=
 [(1004, .gone), (1003, .row 64 3 (y.deps.map dpD) false), (1002, .gone), (1001, .row 58 6 (y.pits.map ptD) false), (9, .row 62 3 ((y.bulk ++ [b]).map bkD) false), (2009, .row 3 1 ((y.carry ++ [c]).map iD) false),
  (1000, .var [.own 1001 6 y.pits.length, .own 9 3 (y.bulk.length + 1), .own 1003 3 y.deps.length, .own 2009 1 (y.carry.length + 1)] false)]
def usD (y : Yd) (d : Dp) : List (Nat × Bx) :=
 [(1004, .row 3 1 (y.carry.map iD) false), (1003, .gone), (1002, .row 62 3 (y.bulk.map bkD) false), (1001, .row 58 6 (y.pits.map ptD) false), (9, .row 64 3 ((y.deps ++ [d]).map dpD) false),
  (1000, .var [.own 1001 6 y.pits.length, .own 1002 3 y.bulk.length, .own 9 3 (y.deps.length + 1), .own 1004 1 y.carry.length] false)]
theorem cut_words (w0 : List UInt8) (r : List (List UInt8)) : (((w0 :: r).map wD).take (((w0 :: r).map wD).length : Int).toNat).drop (1 : Int).toNat = r.map wD := by rw [Int.toNat_natCast, List.take_length]; rfl
theorem words_bd {l w0 : List UInt8} {r : List (List UInt8)} (hl : l.length ≤ 40000) (h : spl 32 l = w0 :: r) : r.length ≤ 50000 ∧ ∀ x ∈ r, x.length ≤ 50000 := by
 have h1 := spl_size 32 l
 rw [h, List.length_cons] at h1
 refine ⟨by omega, fun x hx => ?_⟩
 have := spl_each 32 l x (by rw [h]; exact List.mem_cons_of_mem _ hx)
 omega
theorem xv_line_no (y : Yd) (hy : RdOk y) (l : List UInt8) (hl : l.length ≤ 40000) (h : rdY y (spl 32 l) = none) :
 EvX Tryz.prog 33 [.ptr 1000 0, .d (wD l)] (rdX y) (.d (.bool false)) (rdX y) := by
 have hS := ev_SplitSp l (by omega)
 cases hw : spl 32 l with
 | nil => exact absurd hw (spl_ne _ _)
 | cons w0 r =>
 rw [hw] at hS h
 obtain ⟨b1, b2⟩ := words_bd hl hw
 have hl1 : ((w0 :: r).map wD).length = r.length + 1 := by simp
 have hd := cut_words w0 r
 by_cases h1 : w0 = sPit
 ·subst h1
  have hP := xv_pit_no y hy r h b1 b2
  rw [← hd] at hP
  refine evx_of_awp tysOk mixed (fn := Tryz.f33) Tryz.func33 rfl rfl rfl ?_
  conv => whnf
  repeat' (first|((refine Split.is_true w_pp ?_);conv=>whnf)|((refine PickE.mk (wD sPit) rfl ?_);conv=>whnf)|((with_reducible refine Need.mk ?_ ?_);(first|omega|rfl|decide|(refine ⟨?_,?_⟩<;>simp<;>omega)|(simp;omega));conv=>whnf)|((with_reducible refine AltK.r ?_);(conv=>whnf);(first|(refine CallX.mk _ _ (hP) rfl ?_));conv=>whnf)|((with_reducible refine AltK.l ?_);(conv=>whnf);(first|(refine CallK.mk _ (hS) ?_));conv=>whnf)|fail)
  all_goals first
   | exact ⟨⟨[], (by refine ⟨?_, ?_, rfl⟩<;>(repeat' (first|exact True.intro|exact rfl|(refine ⟨?_,?_⟩)|(intro h;cases h;done)|fail));done)⟩, rfl⟩
   |(exfalso; contradiction)
 by_cases h2 : w0 = sBulk
 ·subst h2
  have hP := xv_bulking_no y hy r h b1 b2
  rw [← hd] at hP
  refine evx_of_awp tysOk mixed (fn := Tryz.f33) Tryz.func33 rfl rfl rfl ?_
  conv => whnf
  repeat' (first|((refine Split.is_true w_bb ?_);conv=>whnf)|((refine Split.is_false w_bp ?_);conv=>whnf)|((refine PickE.mk (wD sBulk) rfl ?_);conv=>whnf)|((with_reducible refine Need.mk ?_ ?_);(first|omega|rfl|decide|(refine ⟨?_,?_⟩<;>simp<;>omega)|(simp;omega));conv=>whnf)|((with_reducible refine AltK.r ?_);(conv=>whnf);(first|(refine CallX.mk _ _ (hP) rfl ?_));conv=>whnf)|((with_reducible refine AltK.l ?_);(conv=>whnf);(first|(refine CallK.mk _ (hS) ?_));conv=>whnf)|fail)
  all_goals first
   | exact ⟨⟨[], (by refine ⟨?_, ?_, rfl⟩<;>(repeat' (first|exact True.intro|exact rfl|(refine ⟨?_,?_⟩)|(intro h;cases h;done)|fail));done)⟩, rfl⟩
   |(exfalso; contradiction)
 by_cases h3 : w0 = sDep
 ·subst h3
  have hP := xv_deposit_no y hy r h b1 b2
  rw [← hd] at hP
  refine evx_of_awp tysOk mixed (fn := Tryz.f33) Tryz.func33 rfl rfl rfl ?_
  conv => whnf
  repeat' (first|((refine Split.is_true w_dd ?_);conv=>whnf)|((refine Split.is_false w_db ?_);conv=>whnf)|((refine Split.is_false w_dp ?_);conv=>whnf)|((refine PickE.mk (wD sDep) rfl ?_);conv=>whnf)|((with_reducible refine Need.mk ?_ ?_);(first|omega|rfl|decide|(refine ⟨?_,?_⟩<;>simp<;>omega)|(simp;omega));conv=>whnf)|((with_reducible refine AltK.r ?_);(conv=>whnf);(first|(refine CallX.mk _ _ (hP) rfl ?_));conv=>whnf)|((with_reducible refine AltK.l ?_);(conv=>whnf);(first|(refine CallK.mk _ (hS) ?_));conv=>whnf)|fail)
  all_goals first
   | exact ⟨⟨[], (by refine ⟨?_, ?_, rfl⟩<;>(repeat' (first|exact True.intro|exact rfl|(refine ⟨?_,?_⟩)|(intro h;cases h;done)|fail));done)⟩, rfl⟩
   |(exfalso; contradiction)
 have n1 : ofL w0 ≠ ⟨#[112, 105, 116]⟩ := fun e => h1 (ofL_inj (b := sPit) e)
 have n2 : ofL w0 ≠ ⟨#[98, 117, 108, 107, 105, 110, 103]⟩ := fun e => h2 (ofL_inj (b := sBulk) e)
 have n3 : ofL w0 ≠ ⟨#[100, 101, 112, 111, 115, 105, 116]⟩ := fun e => h3 (ofL_inj (b := sDep) e)
 refine evx_of_awp tysOk mixed (fn := Tryz.f33) Tryz.func33 rfl rfl rfl ?_
 conv => whnf
 repeat' (first|((refine PickE.mk (wD w0) rfl ?_);conv=>whnf)|((with_reducible refine Split.streq (fun _=>?_) (fun _=>?_))<;>conv=>whnf)|((with_reducible refine Need.mk ?_ ?_);(first|omega|rfl|decide|(refine ⟨?_,?_⟩<;>simp<;>omega)|(simp;omega));conv=>whnf)|((with_reducible refine AltK.l ?_);(conv=>whnf);(first|(refine CallK.mk _ (hS) ?_));conv=>whnf)|(exfalso;first|omega|contradiction)|fail)
 all_goals first
  | exact ⟨⟨[], (by refine ⟨?_, ?_, rfl⟩<;>(repeat' (first|exact True.intro|exact rfl|(refine ⟨?_,?_⟩)|(intro h;cases h;done)|fail));done)⟩, rfl⟩
  |(exfalso; contradiction)
theorem xv_line_pit (y : Yd) (l : List UInt8) (hl : l.length ≤ 40000) (r : List (List UInt8)) (p : Pt) (hw : spl 32 l = sPit :: r)
 (hP : EvX Tryz.prog 67 [.ptr 1000 0, .d (.sl 1 (r.map wD))] (rdX y) (.d (.bool true)) (usP y p)) : EvX Tryz.prog 33 [.ptr 1000 0, .d (wD l)] (rdX y) (.d (.bool true)) (usP y p) := by
 have hS := ev_SplitSp l (by omega)
 rw [hw] at hS
 have hl1 : ((sPit :: r).map wD).length = r.length + 1 := by simp
 rw [← cut_words sPit r] at hP
 have hP := hP.rn [(9, 16)] rfl
 refine evx_of_awp tysOk mixed (fn := Tryz.f33) Tryz.func33 rfl rfl rfl ?_
 conv => whnf
 repeat' (first|((refine Split.is_true w_pp ?_);conv=>whnf)|((refine PickE.mk (wD sPit) rfl ?_);conv=>whnf)|((with_reducible refine Need.mk ?_ ?_);(first|omega|rfl|decide|(refine ⟨?_,?_⟩<;>simp<;>omega)|(simp;omega));conv=>whnf)|((with_reducible refine AltK.r ?_);(conv=>whnf);(first|(refine CallX.mk _ _ (hP) rfl ?_));conv=>whnf)|((with_reducible refine AltK.l ?_);(conv=>whnf);(first|(refine CallK.mk _ (hS) ?_));conv=>whnf)|fail)
 all_goals first
  | exact ⟨⟨[(9, some 16)], (by refine ⟨?_, ?_, rfl⟩<;>(repeat' (first|exact True.intro|exact rfl|(refine ⟨?_,?_⟩)|(intro h;cases h;done)|fail));done)⟩, rfl⟩
  |(exfalso; contradiction)
theorem xv_line_bulk (y : Yd) (l : List UInt8) (hl : l.length ≤ 40000) (r : List (List UInt8)) (b : Bk) (c : Int) (hw : spl 32 l = sBulk :: r)
 (hP : EvX Tryz.prog 68 [.ptr 1000 0, .d (.sl 1 (r.map wD))] (rdX y) (.d (.bool true)) (usB y b c)) : EvX Tryz.prog 33 [.ptr 1000 0, .d (wD l)] (rdX y) (.d (.bool true)) (usB y b c) := by
 have hS := ev_SplitSp l (by omega)
 rw [hw] at hS
 have hl1 : ((sBulk :: r).map wD).length = r.length + 1 := by simp
 rw [← cut_words sBulk r] at hP
 have hP := hP.rn [(9, 22), (2009, 2022)] rfl
 refine evx_of_awp tysOk mixed (fn := Tryz.f33) Tryz.func33 rfl rfl rfl ?_
 conv => whnf
 repeat' (first|((refine Split.is_true w_bb ?_);conv=>whnf)|((refine Split.is_false w_bp ?_);conv=>whnf)|((refine PickE.mk (wD sBulk) rfl ?_);conv=>whnf)|((with_reducible refine Need.mk ?_ ?_);(first|omega|rfl|decide|(refine ⟨?_,?_⟩<;>simp<;>omega)|(simp;omega));conv=>whnf)|((with_reducible refine AltK.r ?_);(conv=>whnf);(first|(refine CallX.mk _ _ (hP) rfl ?_));conv=>whnf)|((with_reducible refine AltK.l ?_);(conv=>whnf);(first|(refine CallK.mk _ (hS) ?_));conv=>whnf)|fail)
 all_goals first
  | exact ⟨⟨[(9, some 22), (2009, some 2022)], (by refine ⟨?_, ?_, rfl⟩<;>(repeat' (first|exact True.intro|exact rfl|(refine ⟨?_,?_⟩)|(intro h;cases h;done)|fail));done)⟩, rfl⟩
  |(exfalso; contradiction)
theorem xv_line_dep (y : Yd) (l : List UInt8) (hl : l.length ≤ 40000) (r : List (List UInt8)) (d : Dp) (hw : spl 32 l = sDep :: r)
 (hP : EvX Tryz.prog 69 [.ptr 1000 0, .d (.sl 1 (r.map wD))] (rdX y) (.d (.bool true)) (usD y d)) : EvX Tryz.prog 33 [.ptr 1000 0, .d (wD l)] (rdX y) (.d (.bool true)) (usD y d) := by
 have hS := ev_SplitSp l (by omega)
 rw [hw] at hS
 have hl1 : ((sDep :: r).map wD).length = r.length + 1 := by simp
 rw [← cut_words sDep r] at hP
 have hP := hP.rn [(9, 28)] rfl
 refine evx_of_awp tysOk mixed (fn := Tryz.f33) Tryz.func33 rfl rfl rfl ?_
 conv => whnf
 repeat' (first|((refine Split.is_true w_dd ?_);conv=>whnf)|((refine Split.is_false w_db ?_);conv=>whnf)|((refine Split.is_false w_dp ?_);conv=>whnf)|((refine PickE.mk (wD sDep) rfl ?_);conv=>whnf)|((with_reducible refine Need.mk ?_ ?_);(first|omega|rfl|decide|(refine ⟨?_,?_⟩<;>simp<;>omega)|(simp;omega));conv=>whnf)|((with_reducible refine AltK.r ?_);(conv=>whnf);(first|(refine CallX.mk _ _ (hP) rfl ?_));conv=>whnf)|((with_reducible refine AltK.l ?_);(conv=>whnf);(first|(refine CallK.mk _ (hS) ?_));conv=>whnf)|fail)
 all_goals first
  | exact ⟨⟨[(9, some 28)], (by refine ⟨?_, ?_, rfl⟩<;>(repeat' (first|exact True.intro|exact rfl|(refine ⟨?_,?_⟩)|(intro h;cases h;done)|fail));done)⟩, rfl⟩
  |(exfalso; contradiction)
theorem xv_line (y : Yd) (hy : RdOk y) (l : List UInt8) (hl : l.length ≤ 40000) (y' : Yd) (h : rdY y (spl 32 l) = some y') :
 (∃ p, y' = { y with pits := y.pits ++ [p] } ∧ p.cls.length ≤ 50000 ∧ EvX Tryz.prog 33 [.ptr 1000 0, .d (wD l)] (rdX y) (.d (.bool true)) (usP y p)) ∨
 (∃ b c, y' = { y with bulk := y.bulk ++ [b], carry := y.carry ++ [c] } ∧ EvX Tryz.prog 33 [.ptr 1000 0, .d (wD l)] (rdX y) (.d (.bool true)) (usB y b c)) ∨
 (∃ d, y' = { y with deps := y.deps ++ [d] } ∧ EvX Tryz.prog 33 [.ptr 1000 0, .d (wD l)] (rdX y) (.d (.bool true)) (usD y d)) := by
 match hw : spl 32 l with
 | [] => exact absurd hw (spl_ne _ _)
 | [w0] => rw [hw] at h; cases h
 | w0 :: w1 :: r =>
  obtain ⟨b1, b2⟩ := words_bd hl hw
  have b3 : r.length ≤ 50000 := by rw [List.length_cons] at b1; omega
  have b4 : ∀ x ∈ r, x.length ≤ 50000 := fun x hx => b2 x (List.mem_cons_of_mem _ hx)
  rw [hw, rdY] at h
  by_cases e1 : w1 = []
  ·rw [if_pos e1] at h; cases h
  rw [if_neg e1] at h
  by_cases h1 : w0 = sPit
  ·subst h1
   rw [if_pos rfl] at h
   by_cases h0 : y.bulk.length + y.deps.length = 0
   ·rw [if_pos h0] at h
    split at h
    ·rename_i a b c d l' hr
     cases h
     have hln := numsOf_len hr
     exact .inl ⟨_, rfl, by show l'.length ≤ 50000; simp only [List.length_cons] at hln; omega, xv_line_pit y l hl _ _ hw (xv_pit y hy w1 r a b c d l' e1 h0 hr b3 b4)⟩
    ·cases h
   ·rw [if_neg h0] at h; cases h
  rw [if_neg h1] at h
  by_cases h2 : w0 = sBulk
  ·subst h2
   rw [if_pos rfl] at h
   by_cases h0 : y.deps.length = 0
   ·rw [if_pos h0] at h
    split at h
    ·rename_i a b c hr
     cases h
     exact .inr (.inl ⟨_, _, rfl, xv_line_bulk y l hl _ _ _ hw (xv_bulking y hy w1 r a b c e1 h0 hr b4)⟩)
    ·cases h
   ·rw [if_neg h0] at h; cases h
  rw [if_neg h2] at h
  by_cases h3 : w0 = sDep
  ·subst h3
   rw [if_pos rfl] at h
   match r, h with
   | [w2, w3], h =>
    rw [rdD] at h
    by_cases e2 : w2 = []
    ·rw [if_pos e2] at h; cases h
    rw [if_neg e2] at h
    split at h
    ·rename_i a b hr
     cases h
     exact .inr (.inr ⟨_, rfl, xv_line_dep y l hl _ _ hw (xv_deposit y hy w1 w2 w3 a b e2 hr (b2 w1 (by simp)) (b4 w3 (by simp)))⟩)
    ·cases h
   | [], h => cases h
   | [_], h => cases h
   | _ :: _ :: _ :: _, h => cases h
  ·rw [if_neg h3] at h; cases h
end Go.Proofs.Tryz
end

section
namespace Go.Proofs.Tryz
open Go Go.Vm Go.Plain
set_option maxRecDepth 20000
set_option maxHeartbeats 8000000
theorem RB.sp {k : Nat} {y : Yd} (h : RB k y) : smallP y := fun p hp => Nat.le_trans (h.cl p hp) (by decide)
theorem RB.dep {k : Nat} {y : Yd} (h : RB k y) (d : Dp) : RB (k + 1) { y with deps := y.deps ++ [d] } := by
 obtain ⟨h1, h2, h3, h4, h5⟩ := h
 exact ⟨by show y.pits.length ≤ k + 1; omega, by show y.bulk.length ≤ k + 1; omega, by show (y.deps ++ [d]).length ≤ k + 1; simp; omega, by show y.carry.length ≤ k + 1; omega, h5⟩
theorem rb0 : RB 1 y0 := ⟨by decide, by decide, by decide, by decide, fun x hx => by cases hx⟩
def psD : Except Nat Yd → D
 | .ok y => if ydErr y = 0 then .tup [ydD y, iD 0, iD 0] else .tup [ydD y0, iD 0, iD (ydErr y)]
 | .error n => .tup [ydD y0, iD (n : Int), iD 7]
theorem psD_ok {y : Yd} (h : ydErr y = 0) : psD (.ok y) = .tup [ydD y, iD 0, iD 0] := by
 show (if ydErr y = 0 then D.tup [ydD y, iD 0, iD 0] else D.tup [ydD y0, iD 0, iD (ydErr y)]) = _
 rw [if_pos h]
theorem psD_no {y : Yd} (h : ydErr y ≠ 0) : psD (.ok y) = .tup [ydD y0, iD 0, iD (ydErr y)] := by
 show (if ydErr y = 0 then D.tup [ydD y, iD 0, iD 0] else D.tup [ydD y0, iD 0, iD (ydErr y)]) = _
 rw [if_neg h]
theorem run_miss (n : Nat) (y : Yd) {u : List UInt8} (hu : u ≠ []) (h : (cutL 10 u).2.2 = false) : runY n y (spl 10 u) = .error n := by
 rw [spl_cut, if_neg (by rw [h]; decide), runY, if_neg hu]
theorem run_next (n : Nat) (y : Yd) {u : List UInt8} (h : (cutL 10 u).2.2 = true) : runY n y (spl 10 u) = match rdY y (spl 32 (cutL 10 u).1) with
 | some y' => runY (n + 1) y' (spl 10 (cutL 10 u).2.1)
 | none => .error n := by
 rw [spl_cut, if_pos h]
 cases hz : spl 10 (cutL 10 u).2.1 with
 | nil => exact absurd hz (spl_ne _ _)
 | cons z l => rw [runY]; try (cases rdY y (spl 32 (cutL 10 u).1) <;> rfl)
theorem ev_ParseBig (t : ByteArray) (ht : 20000 < t.size) (hs : t.size ≤ 1000000) : Ev Tryz.prog 9 [.str t] (.tup [ydD y0, .int .i64 0, .int .i64 8]) := by
 refine ev_of_awp tysOk mixed (fn := Tryz.f9) Tryz.func9 rfl rfl rfl ?_
 conv => whnf
 repeat' (first|((with_reducible refine Split.dec (fun _=>?_) (fun _=>?_))<;>conv=>whnf)|((with_reducible refine Need.mk ?_ ?_);(first|omega|rfl|decide|(refine ⟨?_,?_⟩<;>simp<;>omega)|(simp;omega));conv=>whnf)|(exfalso;first|omega|contradiction)|fail)
 rfl
def prX (k : Nat) (y : Yd) : List (Nat × Bx) :=
 [(903, .row 3 1 (y.carry.map iD) false), (902, .row 64 3 (y.deps.map dpD) false), (901, .row 62 3 (y.bulk.map bkD) false), (900, .row 58 6 (y.pits.map ptD) false),
  (k, .var [.own 900 6 y.pits.length, .own 901 3 y.bulk.length, .own 902 3 y.deps.length, .own 903 1 y.carry.length] false)]
theorem ev_Parse9 (t : List UInt8) (ht : t.length ≤ 20000) : Ev Tryz.prog 9 [wD t] (psD (runY 1 y0 (spl 10 t))) := by
 have hts : (ofL t).size ≤ 20000 := by rw [ofL_size]; exact ht
 refine ev_of_awp tysOk mixed (fn := Tryz.f9) Tryz.func9 rfl rfl rfl ?_
 conv => whnf
 repeat' (first|((with_reducible refine Split.dec (fun _=>?_) (fun _=>?_))<;>conv=>whnf)|((with_reducible refine Need.mk ?_ ?_);(first|omega|rfl|decide|(refine ⟨?_,?_⟩<;>simp<;>omega)|(simp;omega));conv=>whnf)|(exfalso;first|omega|contradiction)|fail)
 refine LoopK.o2 (fun q : Nat × Yd × List UInt8 => runY q.1 q.2.1 (spl 10 q.2.2) = runY 1 y0 (spl 10 t) ∧ RB q.1 q.2.1 ∧ q.1 + q.2.2.length ≤ 20001) (fun q => [(0, .d (wD q.2.2)), (6, .d (.int .i64 q.1))]) (fun q => prX 5 q.2.1) (fun q => q.2.2.length) (1, y0, t)
  ⟨rfl, rb0, by show 1 + t.length ≤ 20001;omega⟩ (by refine ⟨?_, ?_, rfl⟩<;>(repeat' (first|exact True.intro|exact rfl|(refine ⟨?_,?_⟩)|(intro h;cases h;done)|fail));done) ?_
 rintro ⟨n, y, u⟩ ⟨hR, hB, hn⟩
 have hn : n + u.length ≤ 20001 := hn
 have hB : RB n y := hB
 have hR : runY n y (spl 10 u) = runY 1 y0 (spl 10 t) := hR
 rw [← hR]
 have hy := hB.rd (by omega)
 have hlp : (y.pits.map ptD).length = y.pits.length := List.length_map _
 have hlb : (y.bulk.map bkD).length = y.bulk.length := List.length_map _
 have hld : (y.deps.map dpD).length = y.deps.length := List.length_map _
 have hlc : (y.carry.map iD).length = y.carry.length := List.length_map _
 have hus : (ofL u).size = u.length := ofL_size u
 by_cases hu : u = []
 ·subst hu
  have hC := ev_DCheck y hB.sp
  have hrun : runY n y (spl 10 []) = .ok y := rfl
  rw [hrun]
  by_cases he : ydErr y = 0
  ·rw [he] at hC
   conv => whnf
   repeat' (first|(with_reducible refine Split.neg ?_)|((with_reducible refine Split.is_false ?_ ?_);decide;conv=>whnf)|((with_reducible refine Split.streq (fun _=>?_) (fun _=>?_))<;>conv=>whnf)|((with_reducible refine Need.mk ?_ ?_);(first|omega|rfl|decide|(refine ⟨?_,?_⟩<;>simp<;>omega)|(simp;omega));conv=>whnf)|((with_reducible refine AltK.l ?_);(conv=>whnf);(first|(refine CallK.mk _ (hC) ?_));conv=>whnf)|(exfalso;first|omega|contradiction)|fail)
   rw [psD_ok he]; rfl
  ·conv => whnf
   repeat' (first|(with_reducible refine Split.neg ?_)|((with_reducible refine Split.nez (fun _=>?_) (fun _=>?_))<;>conv=>whnf)|((with_reducible refine Split.streq (fun _=>?_) (fun _=>?_))<;>conv=>whnf)|((with_reducible refine Need.mk ?_ ?_);(first|omega|rfl|decide|(refine ⟨?_,?_⟩<;>simp<;>omega)|(simp;omega));conv=>whnf)|((with_reducible refine AltK.l ?_);(conv=>whnf);(first|(refine CallK.mk _ (hC) ?_));conv=>whnf)|(exfalso;first|omega|contradiction)|fail)
   rw [psD_no he]; rfl
 have hun : ofL u ≠ ⟨#[]⟩ := fun e => hu (ofL_inj e)
 have hCut := ev_CutNl u (by omega)
 cases hf : (cutL 10 u).2.2 with
 | false =>
  rw [hf] at hCut
  rw [run_miss n y hu hf]
  conv => whnf
  repeat' (first|((with_reducible first|refine Split.of_true ?_|refine Split.of_false ?_);conv=>whnf)|(with_reducible refine Split.neg ?_)|((with_reducible refine Split.streq (fun _=>?_) (fun _=>?_))<;>conv=>whnf)|((with_reducible refine Need.mk ?_ ?_);(first|omega|rfl|decide|(refine ⟨?_,?_⟩<;>simp<;>omega)|(simp;omega));conv=>whnf)|((with_reducible refine AltK.l ?_);(conv=>whnf);(first|(refine CallK.mk _ (hCut) ?_));conv=>whnf)|(exfalso;first|omega|contradiction)|fail)
  rfl
 | true =>
 rw [hf] at hCut
 obtain ⟨c1, c2⟩ := cut_len 10 u hf
 have hnx := run_next n y hf
 cases hr : rdY y (spl 32 (cutL 10 u).1) with
 | none =>
  rw [hr] at hnx
  rw [hnx]
  have hL := (xv_line_no y hy (cutL 10 u).1 (by omega) hr).rn [(1000, 5), (1001, 900), (1002, 901), (1003, 902), (1004, 903)] rfl
  conv => whnf
  repeat' (first|((with_reducible first|refine Split.of_true ?_|refine Split.of_false ?_);conv=>whnf)|(with_reducible refine Split.neg ?_)|((with_reducible refine Split.streq (fun _=>?_) (fun _=>?_))<;>conv=>whnf)|((with_reducible refine Need.mk ?_ ?_);(first|omega|rfl|decide|(refine ⟨?_,?_⟩<;>simp<;>omega)|(simp;omega));conv=>whnf)|((with_reducible refine AltK.r ?_);(conv=>whnf);(first|(refine CallX.mk _ _ (hL) rfl ?_));conv=>whnf)|((with_reducible refine AltK.l ?_);(conv=>whnf);(first|(refine CallK.mk _ (hCut) ?_));conv=>whnf)|(exfalso;first|omega|contradiction)|fail)
  rfl
 | some y' =>
  rw [hr] at hnx
  have hnx : runY n y (spl 10 u) = runY (n + 1) y' (spl 10 (cutL 10 u).2.1) := hnx
  rw [hnx]
  rw [hnx] at hR
  rcases xv_line y hy (cutL 10 u).1 (by omega) y' hr with ⟨p, rfl, hp, hL⟩ | ⟨b, c, rfl, hL⟩ | ⟨d, rfl, hL⟩
  ·have hL := hL.rn [(1000, 5), (1001, 900), (1002, 901), (1003, 902), (1004, 903), (9, 29)] rfl
   have hl1 : (y.pits ++ [p]).length = y.pits.length + 1 := by simp
   conv => whnf
   repeat' (first|((with_reducible refine Split.of_true ?_);conv=>whnf)|(with_reducible refine Split.neg ?_)|((with_reducible refine Split.streq (fun _=>?_) (fun _=>?_))<;>conv=>whnf)|((with_reducible refine Wr.inr ?_ ?_);(first|omega|(simp;omega));conv=>whnf)|((with_reducible refine AltK.r ?_);(conv=>whnf);(first|(refine CallX.mk _ _ (hL) rfl ?_));conv=>whnf)|((with_reducible refine AltK.l ?_);(conv=>whnf);(first|(refine CallK.mk _ (hCut) ?_));conv=>whnf)|(exfalso;first|omega|contradiction)|fail)
   exact Again.au (n + 1, { y with pits := y.pits ++ [p] }, (cutL 10 u).2.1) ⟨rfl, hB.pit hp, by show n + 1 + (cutL 10 u).2.1.length ≤ 20001;omega⟩ c1 (by refine ⟨?_, ?_, rfl⟩<;>(repeat' (first|exact True.intro|exact rfl|(refine ⟨?_,?_⟩)|(intro h;cases h;done)|(refine own_congr ?_;simp;done)|fail));done)
  ·have hL := hL.rn [(1000, 5), (1001, 900), (1002, 901), (1003, 902), (1004, 903), (9, 29), (2009, 2029)] rfl
   have hl1 : (y.bulk ++ [b]).length = y.bulk.length + 1 := by simp
   have hl2 : (y.carry ++ [c]).length = y.carry.length + 1 := by simp
   conv => whnf
   repeat' (first|((with_reducible refine Split.of_true ?_);conv=>whnf)|(with_reducible refine Split.neg ?_)|((with_reducible refine Split.streq (fun _=>?_) (fun _=>?_))<;>conv=>whnf)|((with_reducible refine Wr.inr ?_ ?_);(first|omega|(simp;omega));conv=>whnf)|((with_reducible refine AltK.r ?_);(conv=>whnf);(first|(refine CallX.mk _ _ (hL) rfl ?_));conv=>whnf)|((with_reducible refine AltK.l ?_);(conv=>whnf);(first|(refine CallK.mk _ (hCut) ?_));conv=>whnf)|(exfalso;first|omega|contradiction)|fail)
   exact Again.au (n + 1, { y with bulk := y.bulk ++ [b], carry := y.carry ++ [c] }, (cutL 10 u).2.1) ⟨rfl, hB.bulk b c, by show n + 1 + (cutL 10 u).2.1.length ≤ 20001;omega⟩ c1 (by refine ⟨?_, ?_, rfl⟩<;>(repeat' (first|exact True.intro|exact rfl|(refine ⟨?_,?_⟩)|(intro h;cases h;done)|(refine own_congr ?_;simp;done)|fail));done)
  ·have hL := hL.rn [(1000, 5), (1001, 900), (1002, 901), (1003, 902), (1004, 903), (9, 29)] rfl
   have hl1 : (y.deps ++ [d]).length = y.deps.length + 1 := by simp
   conv => whnf
   repeat' (first|((with_reducible refine Split.of_true ?_);conv=>whnf)|(with_reducible refine Split.neg ?_)|((with_reducible refine Split.streq (fun _=>?_) (fun _=>?_))<;>conv=>whnf)|((with_reducible refine Wr.inr ?_ ?_);(first|omega|(simp;omega));conv=>whnf)|((with_reducible refine AltK.r ?_);(conv=>whnf);(first|(refine CallX.mk _ _ (hL) rfl ?_));conv=>whnf)|((with_reducible refine AltK.l ?_);(conv=>whnf);(first|(refine CallK.mk _ (hCut) ?_));conv=>whnf)|(exfalso;first|omega|contradiction)|fail)
   exact Again.au (n + 1, { y with deps := y.deps ++ [d] }, (cutL 10 u).2.1) ⟨rfl, hB.dep d, by show n + 1 + (cutL 10 u).2.1.length ≤ 20001;omega⟩ c1 (by refine ⟨?_, ?_, rfl⟩<;>(repeat' (first|exact True.intro|exact rfl|(refine ⟨?_,?_⟩)|(intro h;cases h;done)|(refine own_congr ?_;simp;done)|fail));done)
end Go.Proofs.Tryz
end

section
namespace Go.Proofs.Tryz
open Go Go.Vm Go.Plain
set_option maxRecDepth 20000
set_option maxHeartbeats 4000000
def sgn (w : List UInt8) : Nat := if w.head? = some 45 then 1 else 0
theorem sgn_le (w : List UInt8) : sgn w ≤ 1 ∧ sgn w ≤ w.length := by
 unfold sgn
 split
 ·cases w with
  | nil => rename_i h; cases h
  | cons a r => simp
 ·omega
theorem sgn_itoa (n : Int) : sgn (Lib.itoa n) = if n < 0 then 1 else 0 := by
 rw [itoa_sign]
 unfold sgn
 by_cases h : n < 0
 ·rw [if_pos h, if_pos h]; exact if_pos rfl
 ·rw [if_neg h, if_neg h, List.nil_append, if_neg]
  cases hd : Lib.decDigits n.natAbs with
  | nil => exact absurd hd (dig_ne _)
  | cons b r =>
   have hb := dig_mem n.natAbs b (by rw [hd]; exact List.mem_cons_self)
   intro e
   obtain rfl : b = 45 := by simpa using e
   revert hb; decide
theorem drop_itoa (n : Int) : (Lib.itoa n).drop (sgn (Lib.itoa n)) = Lib.decDigits n.natAbs := by
 rw [sgn_itoa, itoa_sign]
 by_cases h : n < 0
 ·rw [if_pos h, if_pos h]; rfl
 ·rw [if_neg h, if_neg h]; rfl
def valW (w : List UInt8) (j : Nat) (n : Nat) : Prop := Lib.decFrom 0 ((w.drop (sgn w)).take j) = some n ∧ n < 10 ^ j
theorem num_short {w : List UInt8} (h : w.length < sgn w + 1 ∨ sgn w + 15 < w.length) : numOf w = none := by
 cases hn : numOf w with
 | none => rfl
 | some m =>
  obtain ⟨rfl, h2, -⟩ := numOf_some hn
  have h3 := congrArg List.length (drop_itoa m)
  rw [List.length_drop] at h3
  have h4 : (Lib.decDigits m.natAbs).length ≠ 0 := fun e => dig_ne _ (List.length_eq_zero_iff.1 e)
  omega
theorem num_bad {w : List UInt8} {k : Nat} {b : UInt8} (hk : sgn w ≤ k) (hb : w[k]? = some b) (h : b.toNat < 48 ∨ 57 < b.toNat) : numOf w = none := by
 cases hn : numOf w with
 | none => rfl
 | some m =>
  obtain ⟨rfl, -, -⟩ := numOf_some hn
  have : b ∈ (Lib.itoa m).drop (sgn (Lib.itoa m)) := by
   refine List.mem_of_getElem? (i := k - sgn (Lib.itoa m)) ?_
   rw [List.getElem?_drop, show sgn (Lib.itoa m) + (k - sgn (Lib.itoa m)) = k by omega]; exact hb
  rw [drop_itoa] at this
  have := dig_mem _ _ this
  omega
theorem val_step {w : List UInt8} {j n : Nat} {b : UInt8} (h : valW w j n) (hb : w[sgn w + j]? = some b) (h1 : 48 ≤ b.toNat) (h2 : b.toNat ≤ 57) : valW w (j + 1) (10 * n + (b.toNat - 48)) := by
 obtain ⟨h3, h4⟩ := h
 have hd : (w.drop (sgn w))[j]? = some b := by rw [List.getElem?_drop]; exact hb
 refine ⟨?_, ?_⟩
 ·rw [take_one hd, Nat.mul_comm]
  refine decFrom_snoc _ _ _ _ _ h3 ?_
  unfold Lib.digitVal
  rw [if_pos ⟨h1, h2⟩]
 ·rw [Nat.pow_succ]; omega
theorem num_end {w : List UInt8} {n : Nat} (h : valW w (w.length - sgn w) n) (hl : w.length ≤ sgn w + 15) :
 n < 1000000000000000 ∧ ∀ v : Int, v = (if sgn w = 1 then -(n : Int) else n) → numOf w = if Lib.itoa v = w then some v else none := by
 obtain ⟨h1, h2⟩ := h
 have h3 : n < 10 ^ 15 := Nat.lt_of_lt_of_le h2 (Nat.pow_le_pow_right (by decide) (by omega))
 refine ⟨by simpa using h3, fun v hv => ?_⟩
 have hva : v.natAbs = n := by rw [hv]; split <;> omega
 by_cases he : Lib.itoa v = w
 ·rw [if_pos he, ← he, numOf_itoa (by rw [hva]; simpa using h3)]
 ·rw [if_neg he]
  cases hn : numOf w with
  | none => rfl
  | some m =>
   exfalso
   obtain ⟨rfl, -, -⟩ := numOf_some hn
   rw [List.take_of_length_le (by rw [List.length_drop]; omega), drop_itoa, decFrom_dig] at h1
   have h5 : m.natAbs = n := by simpa using h1
   rw [sgn_itoa] at hv
   refine he ?_
   have : v = m := by
    rw [hv]
    by_cases hm : m < 0
    ·rw [if_pos hm, if_pos rfl]; omega
    ·rw [if_neg hm, if_neg (by decide)]; omega
   rw [this]
theorem wr_u8 {n : Int} {k : Int → Prop} (h : 0 ≤ n) (h2 : n ≤ 255) (r : k n) : Wr .u8 n k := ⟨n, by
 simp only [IntKind.wrap, IntKind.bits, IntKind.signed]; simp; omega, r⟩
theorem bytAt_of {w : List UInt8} {k : Nat} {b : UInt8} (h : w[k]? = some b) : bAt (ofL w) k = (b.toNat : Int) := by
 show (match w[k]? with | some b => (b.toNat : Int) | none => _) = _
 rw [h]
theorem sgn_bat (w : List UInt8) : sgn w = 1 ∧ bAt (ofL w) (0 : Int).toNat = 45 ∧ 0 < w.length ∨ sgn w = 0 ∧ (0 < w.length → bAt (ofL w) (0 : Int).toNat ≠ 45) := by
 cases w with
 | nil => exact .inr ⟨rfl, fun h => absurd h (by decide)⟩
 | cons b r =>
  have hb : bAt (ofL (b :: r)) (0 : Int).toNat = (b.toNat : Int) := bytAt_of (k := 0) rfl
  by_cases e : b = 45
  ·subst e
   exact .inl ⟨rfl, hb, by simp⟩
  ·refine .inr ⟨?_, fun _ h => ?_⟩
   ·unfold sgn
    rw [if_neg]
    intro h
    exact e (by simpa using h)
   ·rw [hb] at h
    exact e (UInt8.toNat_inj.1 (by rw [show (45 : UInt8).toNat = 45 from rfl]; omega))
theorem ev_numbersR (ws : List (List UInt8)) (hn : ws.length ≤ 100000) (hw : ∀ w ∈ ws, w.length ≤ 100000) : Ev Tryz.prog 39 [.sl 1 (ws.map wD)] (numsD (numsOf ws)) := by
 have hl : (ws.map wD).length = ws.length := List.length_map _
 refine ev_of_awp tysOk mixed (fn := Tryz.f39) Tryz.func39 rfl rfl rfl ?_
 conv => whnf
 skip
 refine LoopK.o2 (fun q : Nat × List Int => q.1 ≤ ws.length ∧ numsOf ws = (numsOf (ws.drop q.1)).map (q.2 ++ ·) ∧ q.2.length ≤ q.1) (fun q => [(5, .d (.int .i64 q.1)), (4, .own 200 1 q.2.length)]) (fun q => [(200, .row 3 1 (q.2.map iD) false)]) (fun q => ws.length - q.1)
  (0, []) ⟨Nat.zero_le _, by show numsOf ws = (numsOf ws).map ([] ++ ·);simp, Nat.le_refl _⟩ (by refine ⟨?_, ?_, rfl⟩<;>(repeat' (first|exact True.intro|exact rfl|(refine ⟨?_,?_⟩)|fail));done) ?_
 rintro ⟨i, l⟩ ⟨hi, hI, hll⟩
 have hi : i ≤ ws.length := hi
 have hll : l.length ≤ i := hll
 have hlm : (l.map iD).length = l.length := List.length_map _
 by_cases hil : i < ws.length
 ·obtain ⟨w, hx⟩ := some_of_lt (l := ws) (i := i) hil
  have hxw := hw w (List.mem_of_getElem? hx)
  have hws : (ofL w).size = w.length := ofL_size w
  have hI : numsOf ws = (numsOf (ws.drop i)).map (l ++ ·) := hI
  rw [drop_of hx] at hI
  have hno : numOf w = none → numsOf ws = none := fun h => by rw [hI, numsOf_no _ h]; rfl
  have hs1 := sgn_le w
  have hb0 := sgn_bat w
  by_cases hsh : w.length < sgn w + 1 ∨ sgn w + 15 < w.length
  ·rw [hno (num_short hsh)]
   conv => whnf
   repeat' (first|((refine PickE.map i hx (by omega) ?_);conv=>whnf)|((with_reducible first|refine Split.of_true ?_|refine Split.of_false ?_);conv=>whnf)|((with_reducible refine Split.eqz (fun _=>?_) (fun _=>?_))<;>conv=>whnf)|((with_reducible refine Split.dec (fun _=>?_) (fun _=>?_))<;>conv=>whnf)|((with_reducible refine Need.mk ?_ ?_);(first|omega|rfl|decide|(refine ⟨?_,?_⟩<;>simp<;>omega)|(simp;omega));conv=>whnf)|((with_reducible refine Wr.inr ?_ ?_);(first|omega|(simp;omega));conv=>whnf)|(exfalso;first|omega|contradiction)|fail)
   all_goals first
    | rfl
    |(exfalso; rcases hb0 with ⟨h, h', h''⟩ | ⟨h, h'⟩ <;> omega)
  rcases hb0 with ⟨hs0, hb0, hp0⟩ | ⟨hs0, hb0⟩
  ·conv => whnf
   repeat' (first|((refine PickE.map i hx (by omega) ?_);conv=>whnf)|((with_reducible first|refine Split.of_true ?_|refine Split.of_false ?_);conv=>whnf)|((with_reducible refine Split.eqz (fun _=>?_) (fun _=>?_))<;>conv=>whnf)|((with_reducible refine Split.dec (fun _=>?_) (fun _=>?_))<;>conv=>whnf)|((with_reducible refine Need.mk ?_ ?_);(first|omega|rfl|decide|(refine ⟨?_,?_⟩<;>simp<;>omega)|(simp;omega));conv=>whnf)|((with_reducible refine Wr.inr ?_ ?_);(first|omega|(simp;omega));conv=>whnf)|(exfalso;first|omega|contradiction)|fail)
   all_goals try (exfalso; omega)
   refine LoopK.o2 (fun q : Nat × Nat => sgn w + q.1 ≤ w.length ∧ valW w q.1 q.2) (fun q => [(9, .d (.int .i64 ((q.1 : Int) + 1))), (7, .d (.int .i64 (q.2 : Int)))]) (fun _ => []) (fun q => w.length - q.1) (0, 0) ⟨by show sgn w + 0 ≤ w.length;omega, rfl, by decide⟩ (by refine ⟨?_, ?_, rfl⟩<;>(repeat' (first|exact True.intro|exact rfl|(refine ⟨?_,?_⟩)|(intro h;cases h;done)|fail));done) ?_
   rintro ⟨j, n⟩ ⟨hj, hv⟩
   have hj : sgn w + j ≤ w.length := hj
   have hv : valW w j n := hv
   by_cases hjl : sgn w + j < w.length
   ·obtain ⟨b, hb⟩ := some_of_lt (l := w) (i := sgn w + j) hjl
    have hn9 : n < 10 ^ 14 := Nat.lt_of_lt_of_le hv.2 (Nat.pow_le_pow_right (by decide) (by omega))
    have hn9 : n < 100000000000000 := hn9
    have hn8 : (j, n).2 < 100000000000000 := hn9
    have hba : bAt (ofL w) ((j : Int) + 1).toNat = (b.toNat : Int) := by
     have := bytAt_of hb
     rw [show sgn w + j = ((j : Int) + 1).toNat by omega] at this
     exact this
    by_cases hbad : b.toNat < 48 ∨ 57 < b.toNat
    ·rw [hno (num_bad (by omega) hb hbad)]
     conv => whnf
     repeat' (first|((with_reducible refine Split.of_true ?_);conv=>whnf)|((with_reducible refine Split.is_true ?_ ?_);decide;conv=>whnf)|((with_reducible refine Split.dec (fun _=>?_) (fun _=>?_))<;>conv=>whnf)|((with_reducible refine Need.mk ?_ ?_);(first|omega|rfl|decide|(refine ⟨?_,?_⟩<;>simp<;>omega)|(simp;omega));conv=>whnf)|((with_reducible refine Wr.inr ?_ ?_);(first|omega|(simp;omega));conv=>whnf)|(exfalso;first|omega|contradiction)|fail)
     all_goals first
      | rfl
      |(exfalso; have h1 : ¬ bAt (ofL w) ((j : Int) + 1).toNat < 48 := by assumption
        have h2 : ¬ bAt (ofL w) ((j : Int) + 1).toNat > 57 := by assumption
        omega)
    ·have hst := val_step hv hb (by omega) (by omega)
     have hz : (10 : Int) * (n : Int) + (bAt (ofL w) ((j : Int) + 1).toNat - 48) = ((10 * n + (b.toNat - 48) : Nat) : Int) := by rw [hba]; omega
     have hmp1 := congrArg (fun z => AV.d (.int .i64 z)) hz
     conv => whnf
     repeat' (first|((refine wr_u8 (by omega) (by omega) ?_);conv=>whnf)|((with_reducible refine Split.of_true ?_);conv=>whnf)|((with_reducible refine Split.is_true ?_ ?_);decide;conv=>whnf)|((with_reducible refine Split.dec (fun _=>?_) (fun _=>?_))<;>conv=>whnf)|((with_reducible refine Need.mk ?_ ?_);(first|omega|rfl|decide|(refine ⟨?_,?_⟩<;>simp<;>omega)|(simp;omega));conv=>whnf)|((with_reducible refine Wr.inr ?_ ?_);(first|omega|(simp;omega));conv=>whnf)|(exfalso;first|omega|contradiction)|fail)
     all_goals first
      |(exfalso; have h1 : bAt (ofL w) ((j : Int) + 1).toNat < 48 := by assumption
        omega)
      |(exfalso; have h2 : bAt (ofL w) ((j : Int) + 1).toNat > 57 := by assumption
        omega)
      | skip
     exact Again.au (j + 1, 10 * n + (b.toNat - 48)) ⟨by show sgn w + (j + 1) ≤ w.length;omega, hst⟩ (by show w.length - (j + 1) < w.length - j;omega) (by refine ⟨?_, ?_, rfl⟩<;>(repeat' (first|exact True.intro|exact rfl|(refine ⟨?_,?_⟩)|(intro h;cases h;done)|(refine int_congr ?_;(first|omega|(simp;omega)))|fail));done)
   ·obtain ⟨e1, e2⟩ := num_end (w := w) (n := n) (by rw [show w.length - sgn w = j by omega]; exact hv) (by omega)
    have e3 := e2 (0 - (n : Int)) (by rw [if_pos hs0]; omega)
    have hD := ev_Decimal (0 - (n : Int)) (by omega)
    have hn8 : (j, n).2 < 1000000000000000 := e1
    by_cases he : Lib.itoa (0 - (n : Int)) = w
    ·rw [if_pos he] at e3
     have he2 : itoaB (0 - (n : Int)) = ofL w := by rw [← ofL_itoa, he]
     rw [he2] at hD
     have hI2 := numsOf_app l (ws := ws.drop (i + 1)) e3
     rw [← hI] at hI2
     have hmp1 : l.map iD ++ iD (0 - (n : Int)) :: List.replicate 0 (iD 0) = (l ++ [(0 - (n : Int))]).map iD := by rw [List.map_append]; rfl
     conv => whnf
     repeat' (first|((with_reducible refine Split.of_true ?_);conv=>whnf)|(with_reducible refine Split.neg ?_)|((with_reducible refine Split.is_true ?_ ?_);decide;conv=>whnf)|((with_reducible refine Split.streq (fun _=>?_) (fun _=>?_))<;>conv=>whnf)|((with_reducible refine Split.dec (fun _=>?_) (fun _=>?_))<;>conv=>whnf)|((with_reducible refine Need.mk ?_ ?_);(first|omega|rfl|decide|(refine ⟨?_,?_⟩<;>simp<;>omega)|(simp;omega));conv=>whnf)|((with_reducible refine Wr.inr ?_ ?_);(first|omega|(simp;omega));conv=>whnf)|((with_reducible refine AltK.l ?_);(conv=>whnf);(first|(refine CallK.mk _ (hD) ?_));conv=>whnf)|(exfalso;first|omega|contradiction)|fail)
     exact Again.au (i + 1, l ++ [(0 - (n : Int))]) ⟨by show i + 1 ≤ _;omega, hI2, by show (l ++ [(0 - (n : Int))]).length ≤ i + 1;rw [List.length_append];simp;omega⟩ (by show ws.length - (i + 1) < ws.length - i;omega) (by refine ⟨?_, ?_, rfl⟩<;>(repeat' (first|exact True.intro|exact rfl|(refine ⟨?_,?_⟩)|(intro h;cases h;done)|exact map_snoc|(refine own_congr ?_;simp;done)|fail));done)
    ·rw [if_neg he] at e3
     rw [hno e3]
     have hne : itoaB (0 - (n : Int)) ≠ ofL w := fun e => he (ofL_inj e)
     conv => whnf
     repeat' (first|((with_reducible refine Split.of_true ?_);conv=>whnf)|(with_reducible refine Split.neg ?_)|((with_reducible refine Split.is_true ?_ ?_);decide;conv=>whnf)|((with_reducible refine Split.streq (fun _=>?_) (fun _=>?_))<;>conv=>whnf)|((with_reducible refine Split.dec (fun _=>?_) (fun _=>?_))<;>conv=>whnf)|((with_reducible refine Need.mk ?_ ?_);(first|omega|rfl|decide|(refine ⟨?_,?_⟩<;>simp<;>omega)|(simp;omega));conv=>whnf)|((with_reducible refine Wr.inr ?_ ?_);(first|omega|(simp;omega));conv=>whnf)|((with_reducible refine AltK.l ?_);(conv=>whnf);(first|(refine CallK.mk _ (hD) ?_));conv=>whnf)|(exfalso;first|omega|contradiction)|fail)
     all_goals first
      | rfl
      |(exfalso; contradiction)
  ·conv => whnf
   repeat' (first|((refine PickE.map i hx (by omega) ?_);conv=>whnf)|((with_reducible first|refine Split.of_true ?_|refine Split.of_false ?_);conv=>whnf)|((with_reducible refine Split.eqz (fun _=>?_) (fun _=>?_))<;>conv=>whnf)|((with_reducible refine Split.dec (fun _=>?_) (fun _=>?_))<;>conv=>whnf)|((with_reducible refine Need.mk ?_ ?_);(first|omega|rfl|decide|(refine ⟨?_,?_⟩<;>simp<;>omega)|(simp;omega));conv=>whnf)|((with_reducible refine Wr.inr ?_ ?_);(first|omega|(simp;omega));conv=>whnf)|(exfalso;first|omega|contradiction)|fail)
   all_goals try (exfalso; omega)
   refine LoopK.o2 (fun q : Nat × Nat => sgn w + q.1 ≤ w.length ∧ valW w q.1 q.2) (fun q => [(9, .d (.int .i64 (q.1 : Int))), (7, .d (.int .i64 (q.2 : Int)))]) (fun _ => []) (fun q => w.length - q.1) (0, 0) ⟨by show sgn w + 0 ≤ w.length;omega, rfl, by decide⟩ (by refine ⟨?_, ?_, rfl⟩<;>(repeat' (first|exact True.intro|exact rfl|(refine ⟨?_,?_⟩)|(intro h;cases h;done)|fail));done) ?_
   rintro ⟨j, n⟩ ⟨hj, hv⟩
   have hj : sgn w + j ≤ w.length := hj
   have hv : valW w j n := hv
   by_cases hjl : sgn w + j < w.length
   ·obtain ⟨b, hb⟩ := some_of_lt (l := w) (i := sgn w + j) hjl
    have hn9 : n < 10 ^ 14 := Nat.lt_of_lt_of_le hv.2 (Nat.pow_le_pow_right (by decide) (by omega))
    have hn9 : n < 100000000000000 := hn9
    have hn8 : (j, n).2 < 100000000000000 := hn9
    have hba : bAt (ofL w) (j : Int).toNat = (b.toNat : Int) := by
     have := bytAt_of hb
     rw [show sgn w + j = (j : Int).toNat by omega] at this
     exact this
    by_cases hbad : b.toNat < 48 ∨ 57 < b.toNat
    ·rw [hno (num_bad (by omega) hb hbad)]
     conv => whnf
     repeat' (first|((with_reducible refine Split.of_true ?_);conv=>whnf)|((with_reducible refine Split.is_false ?_ ?_);decide;conv=>whnf)|((with_reducible refine Split.dec (fun _=>?_) (fun _=>?_))<;>conv=>whnf)|((with_reducible refine Need.mk ?_ ?_);(first|omega|rfl|decide|(refine ⟨?_,?_⟩<;>simp<;>omega)|(simp;omega));conv=>whnf)|((with_reducible refine Wr.inr ?_ ?_);(first|omega|(simp;omega));conv=>whnf)|(exfalso;first|omega|contradiction)|fail)
     all_goals first
      | rfl
      |(exfalso; have h1 : ¬ bAt (ofL w) (j : Int).toNat < 48 := by assumption
        have h2 : ¬ bAt (ofL w) (j : Int).toNat > 57 := by assumption
        omega)
    ·have hst := val_step hv hb (by omega) (by omega)
     have hz : (10 : Int) * (n : Int) + (bAt (ofL w) (j : Int).toNat - 48) = ((10 * n + (b.toNat - 48) : Nat) : Int) := by rw [hba]; omega
     have hmp1 := congrArg (fun z => AV.d (.int .i64 z)) hz
     conv => whnf
     repeat' (first|((refine wr_u8 (by omega) (by omega) ?_);conv=>whnf)|((with_reducible refine Split.of_true ?_);conv=>whnf)|((with_reducible refine Split.is_false ?_ ?_);decide;conv=>whnf)|((with_reducible refine Split.dec (fun _=>?_) (fun _=>?_))<;>conv=>whnf)|((with_reducible refine Need.mk ?_ ?_);(first|omega|rfl|decide|(refine ⟨?_,?_⟩<;>simp<;>omega)|(simp;omega));conv=>whnf)|((with_reducible refine Wr.inr ?_ ?_);(first|omega|(simp;omega));conv=>whnf)|(exfalso;first|omega|contradiction)|fail)
     all_goals first
      |(exfalso; have h1 : bAt (ofL w) (j : Int).toNat < 48 := by assumption
        omega)
      |(exfalso; have h2 : bAt (ofL w) (j : Int).toNat > 57 := by assumption
        omega)
      | skip
     exact Again.au (j + 1, 10 * n + (b.toNat - 48)) ⟨by show sgn w + (j + 1) ≤ w.length;omega, hst⟩ (by show w.length - (j + 1) < w.length - j;omega) (by refine ⟨?_, ?_, rfl⟩<;>(repeat' (first|exact True.intro|exact rfl|(refine ⟨?_,?_⟩)|(intro h;cases h;done)|(refine int_congr ?_;(first|omega|(simp;omega)))|fail));done)
   ·obtain ⟨e1, e2⟩ := num_end (w := w) (n := n) (by rw [show w.length - sgn w = j by omega]; exact hv) (by omega)
    have e3 := e2 (n : Int) (by rw [if_neg (by omega)])
    have hD := ev_Decimal (n : Int) (by omega)
    have hn8 : (j, n).2 < 1000000000000000 := e1
    by_cases he : Lib.itoa (n : Int) = w
    ·rw [if_pos he] at e3
     have he2 : itoaB (n : Int) = ofL w := by rw [← ofL_itoa, he]
     rw [he2] at hD
     have hI2 := numsOf_app l (ws := ws.drop (i + 1)) e3
     rw [← hI] at hI2
     have hmp1 : l.map iD ++ iD (n : Int) :: List.replicate 0 (iD 0) = (l ++ [(n : Int)]).map iD := by rw [List.map_append]; rfl
     conv => whnf
     repeat' (first|((with_reducible refine Split.of_true ?_);conv=>whnf)|(with_reducible refine Split.neg ?_)|((with_reducible refine Split.is_false ?_ ?_);decide;conv=>whnf)|((with_reducible refine Split.streq (fun _=>?_) (fun _=>?_))<;>conv=>whnf)|((with_reducible refine Split.dec (fun _=>?_) (fun _=>?_))<;>conv=>whnf)|((with_reducible refine Need.mk ?_ ?_);(first|omega|rfl|decide|(refine ⟨?_,?_⟩<;>simp<;>omega)|(simp;omega));conv=>whnf)|((with_reducible refine Wr.inr ?_ ?_);(first|omega|(simp;omega));conv=>whnf)|((with_reducible refine AltK.l ?_);(conv=>whnf);(first|(refine CallK.mk _ (hD) ?_));conv=>whnf)|(exfalso;first|omega|contradiction)|fail)
     exact Again.au (i + 1, l ++ [(n : Int)]) ⟨by show i + 1 ≤ _;omega, hI2, by show (l ++ [(n : Int)]).length ≤ i + 1;rw [List.length_append];simp;omega⟩ (by show ws.length - (i + 1) < ws.length - i;omega) (by refine ⟨?_, ?_, rfl⟩<;>(repeat' (first|exact True.intro|exact rfl|(refine ⟨?_,?_⟩)|(intro h;cases h;done)|exact map_snoc|(refine own_congr ?_;simp;done)|fail));done)
    ·rw [if_neg he] at e3
     rw [hno e3]
     have hne : itoaB (n : Int) ≠ ofL w := fun e => he (ofL_inj e)
     conv => whnf
     repeat' (first|((with_reducible refine Split.of_true ?_);conv=>whnf)|(with_reducible refine Split.neg ?_)|((with_reducible refine Split.is_false ?_ ?_);decide;conv=>whnf)|((with_reducible refine Split.streq (fun _=>?_) (fun _=>?_))<;>conv=>whnf)|((with_reducible refine Split.dec (fun _=>?_) (fun _=>?_))<;>conv=>whnf)|((with_reducible refine Need.mk ?_ ?_);(first|omega|rfl|decide|(refine ⟨?_,?_⟩<;>simp<;>omega)|(simp;omega));conv=>whnf)|((with_reducible refine Wr.inr ?_ ?_);(first|omega|(simp;omega));conv=>whnf)|((with_reducible refine AltK.l ?_);(conv=>whnf);(first|(refine CallK.mk _ (hD) ?_));conv=>whnf)|(exfalso;first|omega|contradiction)|fail)
     all_goals first
      | rfl
      |(exfalso; contradiction)
 ·conv => whnf
  repeat' (first|((with_reducible refine Split.dec (fun _=>?_) (fun _=>?_))<;>conv=>whnf)|((with_reducible refine Need.mk ?_ ?_);(first|omega|rfl|decide|(refine ⟨?_,?_⟩<;>simp<;>omega)|(simp;omega));conv=>whnf)|(exfalso;first|omega|contradiction)|fail)
  have hI : numsOf ws = (numsOf (ws.drop i)).map (l ++ ·) := hI
  rw [hI, List.drop_eq_nil_of_le (by omega)]
  simp [numsOf, numsD, retOf]
end Go.Proofs.Tryz
end

section
namespace Go.Proofs.Tryz
open Go Go.Vm Go.Plain
set_option maxRecDepth 20000
set_option maxHeartbeats 8000000
def prD : Except Nat Yd → D
 | .ok y => .tup [ydD y, iD 0, .bool false]
 | .error n => .tup [ydD y0, iD (n : Int), .bool true]
theorem cut_words2 (w0 w1 : List UInt8) (r : List (List UInt8)) : (((w0 :: w1 :: r).map wD).take (((w0 :: w1 :: r).map wD).length : Int).toNat).drop (2 : Int).toNat = r.map wD := by rw [Int.toNat_natCast, List.take_length]; rfl
theorem drop_last {α : Type} {l : List α} {i : Nat} {x : α} (h : l[i]? = some x) (he : i + 1 = l.length) : l.drop i = [x] := by
 rw [drop_of h, List.drop_eq_nil_of_le (by omega)]
theorem run_more {n : Nat} {y : Yd} {x : List UInt8} {l : List (List UInt8)} (h : l ≠ []) : runY n y (x :: l) = match rdY y (spl 32 x) with
 | some y' => runY (n + 1) y' l
 | none => .error n := by
 cases l with
 | nil => exact absurd rfl h
 | cons z l => rw [runY]; try (cases rdY y (spl 32 x) <;> rfl)
theorem ev_ParseR9 (t : List UInt8) (ht : t.length ≤ 20000) : Ev Tryz.prog 13 [wD t] (prD (runY 1 y0 (spl 10 t))) := by
 have hts : (ofL t).size ≤ 20000 := by rw [ofL_size]; exact ht
 have hC : Ev Tryz.prog 38 [wD t, .int .u8 10] (.sl 1 ((spl 10 t).map wD)) := ev_BaseCut (ofL t) 10 (by omega)
 have hsz := spl_size 10 t
 have hea := spl_each 10 t
 have hne := spl_ne 10 t
 generalize spl 10 t = L at *
 have hlL : (L.map wD).length = L.length := List.length_map _
 have hL0 : L.length ≠ 0 := fun e => hne (List.length_eq_zero_iff.1 e)
 refine ev_of_awp tysOk mixed (fn := Tryz.f13) Tryz.func13 rfl rfl rfl ?_
 conv => whnf
 repeat' (first|((with_reducible refine AltK.l ?_);(conv=>whnf);(first|(refine CallK.mk _ (hC) ?_));conv=>whnf)|fail)
 refine LoopK.o2 (fun q : Nat × Yd => q.1 < L.length ∧ runY (q.1 + 1) q.2 (L.drop q.1) = runY 1 y0 L ∧ RB (q.1 + 1) q.2) (fun q => [(7, .d (.int .i64 q.1))]) (fun q => prX 6 q.2) (fun q => L.length - q.1) (0, y0)
  ⟨by show 0 < L.length;omega, rfl, rb0⟩ (by refine ⟨?_, ?_, rfl⟩<;>(repeat' (first|exact True.intro|exact rfl|(refine ⟨?_,?_⟩)|(intro h;cases h;done)|fail));done) ?_
 rintro ⟨i, y⟩ ⟨hi, hR, hB⟩
 have hi : i < L.length := hi
 have hB : RB (i + 1) y := hB
 have hR : runY (i + 1) y (L.drop i) = runY 1 y0 L := hR
 rw [← hR]
 have hy := hB.rd (by omega)
 obtain ⟨q1, q2, q3, q4⟩ := hy
 have hlp : (y.pits.map ptD).length = y.pits.length := List.length_map _
 have hlb : (y.bulk.map bkD).length = y.bulk.length := List.length_map _
 have hld : (y.deps.map dpD).length = y.deps.length := List.length_map _
 have hlc : (y.carry.map iD).length = y.carry.length := List.length_map _
 have hlb2 : (List.map bkD (i, y).2.bulk).length = y.bulk.length := List.length_map _
 have hld2 : (List.map dpD (i, y).2.deps).length = y.deps.length := List.length_map _
 obtain ⟨x, hx⟩ := some_of_lt (l := L) (i := i) hi
 have hxl := hea x (List.mem_of_getElem? hx)
 have hC2 : Ev Tryz.prog 38 [wD x, .int .u8 32] (.sl 1 ((spl 32 x).map wD)) := ev_BaseCut (ofL x) 32 (by rw [ofL_size]; omega)
 by_cases hlast : i + 1 = L.length
 ·rw [drop_last hx hlast]
  by_cases hx0 : x = []
  ·subst hx0
   have hrun : runY (i + 1) y [[]] = .ok y := by rw [runY, if_pos rfl]
   rw [hrun]
   conv => whnf
   repeat' (first|((refine PickE.map i hx (by omega) ?_);conv=>whnf)|((with_reducible refine Split.of_false ?_);conv=>whnf)|((with_reducible refine Split.eqz (fun _=>?_) (fun _=>?_))<;>conv=>whnf)|((with_reducible refine Split.streq (fun _=>?_) (fun _=>?_))<;>conv=>whnf)|((with_reducible refine Split.dec (fun _=>?_) (fun _=>?_))<;>conv=>whnf)|((with_reducible refine Need.mk ?_ ?_);(first|omega|rfl|decide|(refine ⟨?_,?_⟩<;>simp<;>omega)|(simp;omega));conv=>whnf)|((with_reducible refine Wr.inr ?_ ?_);(first|omega|(simp;omega));conv=>whnf)|(exfalso;first|omega|contradiction)|fail)
   all_goals first
    | rfl
    |(exfalso; omega)
    |(exfalso; contradiction)
  ·have hrun : runY (i + 1) y [x] = .error (i + 1) := by rw [runY, if_neg hx0]
   rw [hrun]
   have hxn : ofL x ≠ ⟨#[]⟩ := fun e => hx0 (ofL_inj e)
   conv => whnf
   repeat' (first|((refine PickE.map i hx (by omega) ?_);conv=>whnf)|((with_reducible refine Split.of_false ?_);conv=>whnf)|(with_reducible refine Split.neg ?_)|((with_reducible refine Split.eqz (fun _=>?_) (fun _=>?_))<;>conv=>whnf)|((with_reducible refine Split.streq (fun _=>?_) (fun _=>?_))<;>conv=>whnf)|((with_reducible refine Split.dec (fun _=>?_) (fun _=>?_))<;>conv=>whnf)|((with_reducible refine Need.mk ?_ ?_);(first|omega|rfl|decide|(refine ⟨?_,?_⟩<;>simp<;>omega)|(simp;omega));conv=>whnf)|((with_reducible refine Wr.inr ?_ ?_);(first|omega|(simp;omega));conv=>whnf)|((with_reducible refine AltK.l ?_);(conv=>whnf);(first|(refine CallK.mk _ (hC2) ?_));conv=>whnf)|(exfalso;first|omega|contradiction)|fail)
   all_goals first
    | rfl
    |(exfalso; omega)
    |(exfalso; contradiction)
 rw [drop_of hx]
 have hdn : L.drop (i + 1) ≠ [] := fun e => by have := List.drop_eq_nil_iff.1 e; omega
 rw [run_more hdn]
 have hxs : (spl 32 x).length ≤ 20001 := by have := spl_size 32 x; omega
 have hxe := spl_each 32 x
 have hxn := spl_ne 32 x
 generalize spl 32 x = W at *
 match W with
 | [] => exact absurd rfl hxn
 | [w0] =>
  have hf : rdY y [w0] = none := rfl
  rw [hf]
  have hl1 : ([w0].map wD).length = 1 := rfl
  conv => whnf
  repeat' (first|((refine PickE.map i hx (by omega) ?_);conv=>whnf)|((with_reducible refine Split.of_false ?_);conv=>whnf)|(with_reducible refine Split.neg ?_)|((with_reducible refine Split.eqz (fun _=>?_) (fun _=>?_))<;>conv=>whnf)|((with_reducible refine Split.streq (fun _=>?_) (fun _=>?_))<;>conv=>whnf)|((with_reducible refine Split.dec (fun _=>?_) (fun _=>?_))<;>conv=>whnf)|((with_reducible refine Need.mk ?_ ?_);(first|omega|rfl|decide|(refine ⟨?_,?_⟩<;>simp<;>omega)|(simp;omega));conv=>whnf)|((with_reducible refine Wr.inr ?_ ?_);(first|omega|(simp;omega));conv=>whnf)|((with_reducible refine AltK.l ?_);(conv=>whnf);(first|(refine CallK.mk _ (hC2) ?_));conv=>whnf)|(exfalso;first|omega|contradiction)|fail)
  all_goals first
   | rfl
   |(exfalso; omega)
   |(exfalso; contradiction)
 | w0 :: w1 :: r =>
 have hl1 : ((w0 :: w1 :: r).map wD).length = r.length + 2 := by simp
 have hrl : r.length ≤ 20001 := by simp only [List.length_cons] at hxs; omega
 have hre : ∀ x ∈ r, x.length ≤ 50000 := fun z hz => by have := hxe z (List.mem_cons_of_mem _ (List.mem_cons_of_mem _ hz)); omega
 by_cases e1 : w1 = []
 ·have hf : rdY y (w0 :: w1 :: r) = none := by rw [rdY, if_pos e1]
  rw [hf]
  subst e1
  conv => whnf
  repeat' (first|((refine PickE.mk (wD []) rfl ?_);conv=>whnf)|((refine PickE.map i hx (by omega) ?_);conv=>whnf)|((with_reducible refine Split.of_false ?_);conv=>whnf)|(with_reducible refine Split.neg ?_)|((with_reducible refine Split.eqz (fun _=>?_) (fun _=>?_))<;>conv=>whnf)|((with_reducible refine Split.streq (fun _=>?_) (fun _=>?_))<;>conv=>whnf)|((with_reducible refine Split.dec (fun _=>?_) (fun _=>?_))<;>conv=>whnf)|((with_reducible refine Need.mk ?_ ?_);(first|omega|rfl|decide|(refine ⟨?_,?_⟩<;>simp<;>omega)|(simp;omega));conv=>whnf)|((with_reducible refine Wr.inr ?_ ?_);(first|omega|(simp;omega));conv=>whnf)|((with_reducible refine AltK.l ?_);(conv=>whnf);(first|(refine CallK.mk _ (hC2) ?_));conv=>whnf)|(exfalso;first|omega|contradiction)|fail)
  all_goals first
   | rfl
   |(exfalso; omega)
   |(exfalso; contradiction)
 have hwn : ofL w1 ≠ ⟨#[]⟩ := fun e => e1 (ofL_inj e)
 have hN := ev_numbersR r (by omega) (fun w hm => by have := hre w hm; omega)
 rw [← cut_words2 w0 w1 r] at hN
 by_cases h1 : w0 = sPit
 ·subst h1
  by_cases h0 : y.bulk.length + y.deps.length = 0
  ·cases hr : numsOf r with
   | none =>
    have hf : rdY y (sPit :: w1 :: r) = none := by rw [rdY, if_neg e1, if_pos rfl, if_pos h0, hr]
    rw [hf]
    rw [hr] at hN
    conv => whnf
    repeat' (first|((refine Split.is_false w_pd ?_);conv=>whnf)|((refine Split.is_false w_pb ?_);conv=>whnf)|((refine Split.is_true w_pp ?_);conv=>whnf)|((refine PickE.mk (wD sPit) rfl ?_);conv=>whnf)|((refine PickE.mk (wD w1) rfl ?_);conv=>whnf)|((refine PickE.map i hx (by omega) ?_);conv=>whnf)|((with_reducible refine Split.of_false ?_);conv=>whnf)|(with_reducible refine Split.neg ?_)|((with_reducible refine Split.eqz (fun _=>?_) (fun _=>?_))<;>conv=>whnf)|((with_reducible refine Split.streq (fun _=>?_) (fun _=>?_))<;>conv=>whnf)|((with_reducible refine Split.dec (fun _=>?_) (fun _=>?_))<;>conv=>whnf)|((with_reducible refine Need.mk ?_ ?_);(first|omega|rfl|decide|(refine ⟨?_,?_⟩<;>simp<;>omega)|(simp;omega));conv=>whnf)|((with_reducible refine Wr.inr ?_ ?_);(first|omega|(simp;omega));conv=>whnf)|((with_reducible refine AltK.l ?_);(conv=>whnf);(first|(refine CallK.mk _ (hC2) ?_)|(refine CallK.mk _ (hN) ?_));conv=>whnf)|(exfalso;first|omega|contradiction)|fail)
    all_goals first
     | rfl
     |(exfalso; omega)
     |(exfalso; contradiction)
   | some l =>
   rw [hr] at hN
   have hln := numsOf_len hr
   by_cases h4 : l.length < 4
   ·have hf : rdY y (sPit :: w1 :: r) = none := by
     rw [rdY, if_neg e1, if_pos rfl, if_pos h0, hr]
     match l, h4 with
     | [], _ | [_], _ | [_, _], _ | [_, _, _], _ => rfl
     | _ :: _ :: _ :: _ :: _, h4 => simp at h4; omega
    rw [hf]
    have hll : (l.map iD).length = l.length := List.length_map _
    conv => whnf
    repeat' (first|((refine Split.is_false w_pd ?_);conv=>whnf)|((refine Split.is_false w_pb ?_);conv=>whnf)|((refine Split.is_true w_pp ?_);conv=>whnf)|((refine PickE.mk (wD sPit) rfl ?_);conv=>whnf)|((refine PickE.mk (wD w1) rfl ?_);conv=>whnf)|((refine PickE.map i hx (by omega) ?_);conv=>whnf)|((with_reducible first|refine Split.of_true ?_|refine Split.of_false ?_);conv=>whnf)|(with_reducible refine Split.neg ?_)|((with_reducible refine Split.eqz (fun _=>?_) (fun _=>?_))<;>conv=>whnf)|((with_reducible refine Split.streq (fun _=>?_) (fun _=>?_))<;>conv=>whnf)|((with_reducible refine Split.dec (fun _=>?_) (fun _=>?_))<;>conv=>whnf)|((with_reducible refine Need.mk ?_ ?_);(first|omega|rfl|decide|(refine ⟨?_,?_⟩<;>simp<;>omega)|(simp;omega));conv=>whnf)|((with_reducible refine Wr.inr ?_ ?_);(first|omega|(simp;omega));conv=>whnf)|((with_reducible refine AltK.l ?_);(conv=>whnf);(first|(refine CallK.mk _ (hC2) ?_)|(refine CallK.mk _ (hN) ?_));conv=>whnf)|(exfalso;first|omega|contradiction)|fail)
    all_goals first
     | rfl
     |(exfalso; omega)
     |(exfalso; contradiction)
   match l, h4 with
   | [], h4 | [_], h4 | [_, _], h4 | [_, _, _], h4 => exact absurd (by simp) h4
   | a :: b :: c :: d :: l, _ =>
   have hf : rdY y (sPit :: w1 :: r) = some { y with pits := y.pits ++ [⟨ofL w1, a, b, c, l, d⟩] } := by rw [rdY, if_neg e1, if_pos rfl, if_pos h0, hr]
   rw [hf]
   have hl2 : ((a :: b :: c :: d :: l).map iD).length = l.length + 4 := by simp
   have hd2 : (((a :: b :: c :: d :: l).map iD).take (((a :: b :: c :: d :: l).map iD).length : Int).toNat).drop (4 : Int).toNat = l.map iD := by rw [Int.toNat_natCast, List.take_length]; rfl
   have hmp1 : y.pits.map ptD ++ D.agg [wD w1, iD a, iD b, iD c, .sl 1 ((((a :: b :: c :: d :: l).map iD).take (((a :: b :: c :: d :: l).map iD).length : Int).toNat).drop (4 : Int).toNat), iD d] :: List.replicate 0 (D.agg [.str ⟨#[]⟩, iD 0, iD 0, iD 0, .sl 1 [], iD 0]) = (y.pits ++ [(⟨ofL w1, a, b, c, l, d⟩ : Pt)]).map ptD := by rw [hd2, List.map_append]; rfl
   have hl3 : (y.pits ++ [(⟨ofL w1, a, b, c, l, d⟩ : Pt)]).length = y.pits.length + 1 := by simp
   conv => whnf
   repeat' (first|((refine PickE.mk (iD d) rfl ?_);conv=>whnf)|((refine PickE.mk (iD c) rfl ?_);conv=>whnf)|((refine PickE.mk (iD b) rfl ?_);conv=>whnf)|((refine PickE.mk (iD a) rfl ?_);conv=>whnf)|((refine Split.is_false w_pd ?_);conv=>whnf)|((refine Split.is_false w_pb ?_);conv=>whnf)|((refine Split.is_true w_pp ?_);conv=>whnf)|((refine PickE.mk (wD sPit) rfl ?_);conv=>whnf)|((refine PickE.mk (wD w1) rfl ?_);conv=>whnf)|((refine PickE.map i hx (by omega) ?_);conv=>whnf)|((with_reducible first|refine Split.of_true ?_|refine Split.of_false ?_);conv=>whnf)|(with_reducible refine Split.neg ?_)|((with_reducible refine Split.eqz (fun _=>?_) (fun _=>?_))<;>conv=>whnf)|((with_reducible refine Split.streq (fun _=>?_) (fun _=>?_))<;>conv=>whnf)|((with_reducible refine Split.dec (fun _=>?_) (fun _=>?_))<;>conv=>whnf)|((with_reducible refine Need.mk ?_ ?_);(first|omega|rfl|decide|(refine ⟨?_,?_⟩<;>simp<;>omega)|(simp;omega));conv=>whnf)|((with_reducible refine Wr.inr ?_ ?_);(first|omega|(simp;omega));conv=>whnf)|((with_reducible refine AltK.l ?_);(conv=>whnf);(first|(refine CallK.mk _ (hC2) ?_)|(refine CallK.mk _ (hN) ?_));conv=>whnf)|(exfalso;first|omega|contradiction)|fail)
   all_goals first
    | exact Again.au (i + 1, { y with pits := y.pits ++ [⟨ofL w1, a, b, c, l, d⟩] }) ⟨by show i + 1 < L.length;omega, rfl, hB.pit (by show l.length ≤ 50000;simp only [List.length_cons] at hln;omega)⟩ (by show L.length - (i + 1) < L.length - i;omega) (by refine ⟨?_, ?_, rfl⟩<;>(repeat' (first|exact True.intro|exact rfl|(refine ⟨?_,?_⟩)|(intro h;cases h;done)|(refine own_congr ?_;simp;done)|exact hmp1|fail));done)
    |(exfalso; omega)
    |(exfalso; contradiction)
  ·have hf : rdY y (sPit :: w1 :: r) = none := by rw [rdY, if_neg e1, if_pos rfl, if_neg h0]
   rw [hf]
   conv => whnf
   repeat' (first|((refine Split.is_false w_pd ?_);conv=>whnf)|((refine Split.is_false w_pb ?_);conv=>whnf)|((refine Split.is_true w_pp ?_);conv=>whnf)|((refine PickE.mk (wD sPit) rfl ?_);conv=>whnf)|((refine PickE.mk (wD w1) rfl ?_);conv=>whnf)|((refine PickE.map i hx (by omega) ?_);conv=>whnf)|((with_reducible refine Split.of_false ?_);conv=>whnf)|(with_reducible refine Split.neg ?_)|((with_reducible refine Split.eqz (fun _=>?_) (fun _=>?_))<;>conv=>whnf)|((with_reducible refine Split.streq (fun _=>?_) (fun _=>?_))<;>conv=>whnf)|((with_reducible refine Split.dec (fun _=>?_) (fun _=>?_))<;>conv=>whnf)|((with_reducible refine Need.mk ?_ ?_);(first|omega|rfl|decide|(refine ⟨?_,?_⟩<;>simp<;>omega)|(simp;omega));conv=>whnf)|((with_reducible refine Wr.inr ?_ ?_);(first|omega|(simp;omega));conv=>whnf)|((with_reducible refine AltK.l ?_);(conv=>whnf);(first|(refine CallK.mk _ (hC2) ?_));conv=>whnf)|(exfalso;first|omega|contradiction)|fail)
   all_goals first
    | rfl
    |(exfalso; omega)
    |(exfalso; contradiction)
 have n1 : ofL w0 ≠ ⟨#[112, 105, 116]⟩ := fun e => h1 (ofL_inj (b := sPit) e)
 by_cases h2 : w0 = sBulk
 ·subst h2
  by_cases h0 : y.deps.length = 0
  ·cases hr : numsOf r with
   | none =>
    have hf : rdY y (sBulk :: w1 :: r) = none := by rw [rdY, if_neg e1, if_neg h1, if_pos rfl, if_pos h0, hr]
    rw [hf]
    rw [hr] at hN
    conv => whnf
    repeat' (first|((refine Split.is_false w_bd ?_);conv=>whnf)|((refine Split.is_true w_bb ?_);conv=>whnf)|((refine Split.is_false w_bp ?_);conv=>whnf)|((refine PickE.mk (wD sBulk) rfl ?_);conv=>whnf)|((refine PickE.mk (wD w1) rfl ?_);conv=>whnf)|((refine PickE.map i hx (by omega) ?_);conv=>whnf)|((with_reducible refine Split.of_false ?_);conv=>whnf)|(with_reducible refine Split.neg ?_)|((with_reducible refine Split.eqz (fun _=>?_) (fun _=>?_))<;>conv=>whnf)|((with_reducible refine Split.streq (fun _=>?_) (fun _=>?_))<;>conv=>whnf)|((with_reducible refine Split.dec (fun _=>?_) (fun _=>?_))<;>conv=>whnf)|((with_reducible refine Need.mk ?_ ?_);(first|omega|rfl|decide|(refine ⟨?_,?_⟩<;>simp<;>omega)|(simp;omega));conv=>whnf)|((with_reducible refine Wr.inr ?_ ?_);(first|omega|(simp;omega));conv=>whnf)|((with_reducible refine AltK.l ?_);(conv=>whnf);(first|(refine CallK.mk _ (hC2) ?_)|(refine CallK.mk _ (hN) ?_));conv=>whnf)|(exfalso;first|omega|contradiction)|fail)
    all_goals first
     | rfl
     |(exfalso; omega)
     |(exfalso; contradiction)
   | some l =>
   rw [hr] at hN
   have hln := numsOf_len hr
   by_cases h4 : l.length ≠ 3
   ·have hf : rdY y (sBulk :: w1 :: r) = none := by
     rw [rdY, if_neg e1, if_neg h1, if_pos rfl, if_pos h0, hr]
     match l, h4 with
     | [], _ | [_], _ | [_, _], _ => rfl
     | [_, _, _], h4 => exact absurd rfl h4
     | _ :: _ :: _ :: _ :: _, _ => rfl
    rw [hf]
    have hll : (l.map iD).length = l.length := List.length_map _
    conv => whnf
    repeat' (first|((refine Split.is_false w_bd ?_);conv=>whnf)|((refine Split.is_true w_bb ?_);conv=>whnf)|((refine Split.is_false w_bp ?_);conv=>whnf)|((refine PickE.mk (wD sBulk) rfl ?_);conv=>whnf)|((refine PickE.mk (wD w1) rfl ?_);conv=>whnf)|((refine PickE.map i hx (by omega) ?_);conv=>whnf)|((with_reducible first|refine Split.of_true ?_|refine Split.of_false ?_);conv=>whnf)|(with_reducible refine Split.neg ?_)|((with_reducible refine Split.eqz (fun _=>?_) (fun _=>?_))<;>conv=>whnf)|((with_reducible refine Split.streq (fun _=>?_) (fun _=>?_))<;>conv=>whnf)|((with_reducible refine Split.dec (fun _=>?_) (fun _=>?_))<;>conv=>whnf)|((with_reducible refine Need.mk ?_ ?_);(first|omega|rfl|decide|(refine ⟨?_,?_⟩<;>simp<;>omega)|(simp;omega));conv=>whnf)|((with_reducible refine Wr.inr ?_ ?_);(first|omega|(simp;omega));conv=>whnf)|((with_reducible refine AltK.l ?_);(conv=>whnf);(first|(refine CallK.mk _ (hC2) ?_)|(refine CallK.mk _ (hN) ?_));conv=>whnf)|(exfalso;first|omega|contradiction)|fail)
    all_goals first
     | rfl
     |(exfalso; omega)
     |(exfalso; contradiction)
   match l, (show l.length = 3 by omega) with
   | [a, b, c], _ =>
   have hf : rdY y (sBulk :: w1 :: r) = some { y with bulk := y.bulk ++ [⟨ofL w1, a, b⟩], carry := y.carry ++ [c] } := by rw [rdY, if_neg e1, if_neg h1, if_pos rfl, if_pos h0, hr]
   rw [hf]
   have hmp1 : y.bulk.map bkD ++ D.agg [wD w1, iD a, iD b] :: List.replicate 0 (D.agg [.str ⟨#[]⟩, iD 0, iD 0]) = (y.bulk ++ [(⟨ofL w1, a, b⟩ : Bk)]).map bkD := by rw [List.map_append]; rfl
   have hmp2 : y.carry.map iD ++ iD c :: List.replicate 0 (iD 0) = (y.carry ++ [c]).map iD := by rw [List.map_append]; rfl
   have hl3 : (y.bulk ++ [(⟨ofL w1, a, b⟩ : Bk)]).length = y.bulk.length + 1 := by simp
   have hl4 : (y.carry ++ [c]).length = y.carry.length + 1 := by simp
   conv => whnf
   repeat' (first|((refine PickE.mk (iD c) rfl ?_);conv=>whnf)|((refine PickE.mk (iD b) rfl ?_);conv=>whnf)|((refine PickE.mk (iD a) rfl ?_);conv=>whnf)|((refine Split.is_false w_bd ?_);conv=>whnf)|((refine Split.is_true w_bb ?_);conv=>whnf)|((refine Split.is_false w_bp ?_);conv=>whnf)|((refine PickE.mk (wD sBulk) rfl ?_);conv=>whnf)|((refine PickE.mk (wD w1) rfl ?_);conv=>whnf)|((refine PickE.map i hx (by omega) ?_);conv=>whnf)|((with_reducible first|refine Split.of_true ?_|refine Split.of_false ?_);conv=>whnf)|(with_reducible refine Split.neg ?_)|((with_reducible refine Split.eqz (fun _=>?_) (fun _=>?_))<;>conv=>whnf)|((with_reducible refine Split.streq (fun _=>?_) (fun _=>?_))<;>conv=>whnf)|((with_reducible refine Split.dec (fun _=>?_) (fun _=>?_))<;>conv=>whnf)|((with_reducible refine Need.mk ?_ ?_);(first|omega|rfl|decide|(refine ⟨?_,?_⟩<;>simp<;>omega)|(simp;omega));conv=>whnf)|((with_reducible refine Wr.inr ?_ ?_);(first|omega|(simp;omega));conv=>whnf)|((with_reducible refine AltK.l ?_);(conv=>whnf);(first|(refine CallK.mk _ (hC2) ?_)|(refine CallK.mk _ (hN) ?_));conv=>whnf)|(exfalso;first|omega|contradiction)|fail)
   all_goals first
    | exact Again.au (i + 1, { y with bulk := y.bulk ++ [⟨ofL w1, a, b⟩], carry := y.carry ++ [c] }) ⟨by show i + 1 < L.length;omega, rfl, hB.bulk _ _⟩ (by show L.length - (i + 1) < L.length - i;omega) (by refine ⟨?_, ?_, rfl⟩<;>(repeat' (first|exact True.intro|exact rfl|(refine ⟨?_,?_⟩)|(intro h;cases h;done)|exact map_snoc|(refine own_congr ?_;simp;done)|exact hmp1|fail));done)
    |(exfalso; omega)
    |(exfalso; contradiction)
  ·have hf : rdY y (sBulk :: w1 :: r) = none := by rw [rdY, if_neg e1, if_neg h1, if_pos rfl, if_neg h0]
   rw [hf]
   conv => whnf
   repeat' (first|((refine Split.is_false w_bd ?_);conv=>whnf)|((refine Split.is_true w_bb ?_);conv=>whnf)|((refine Split.is_false w_bp ?_);conv=>whnf)|((refine PickE.mk (wD sBulk) rfl ?_);conv=>whnf)|((refine PickE.mk (wD w1) rfl ?_);conv=>whnf)|((refine PickE.map i hx (by omega) ?_);conv=>whnf)|((with_reducible refine Split.of_false ?_);conv=>whnf)|(with_reducible refine Split.neg ?_)|((with_reducible refine Split.eqz (fun _=>?_) (fun _=>?_))<;>conv=>whnf)|((with_reducible refine Split.streq (fun _=>?_) (fun _=>?_))<;>conv=>whnf)|((with_reducible refine Split.dec (fun _=>?_) (fun _=>?_))<;>conv=>whnf)|((with_reducible refine Need.mk ?_ ?_);(first|omega|rfl|decide|(refine ⟨?_,?_⟩<;>simp<;>omega)|(simp;omega));conv=>whnf)|((with_reducible refine Wr.inr ?_ ?_);(first|omega|(simp;omega));conv=>whnf)|((with_reducible refine AltK.l ?_);(conv=>whnf);(first|(refine CallK.mk _ (hC2) ?_));conv=>whnf)|(exfalso;first|omega|contradiction)|fail)
   all_goals first
    | rfl
    |(exfalso; omega)
    |(exfalso; contradiction)
 have n2 : ofL w0 ≠ ⟨#[98, 117, 108, 107, 105, 110, 103]⟩ := fun e => h2 (ofL_inj (b := sBulk) e)
 by_cases h3 : w0 = sDep
 ·subst h3
  by_cases h4 : r.length ≠ 2
  ·have hf : rdY y (sDep :: w1 :: r) = none := by
    rw [rdY, if_neg e1, if_neg h1, if_neg h2, if_pos rfl]
    match r, h4 with
    | [], _ | [_], _ => rfl
    | [_, _], h4 => exact absurd rfl h4
    | _ :: _ :: _ :: _, _ => rfl
   rw [hf]
   conv => whnf
   repeat' (first|((refine Split.is_true w_dd ?_);conv=>whnf)|((refine Split.is_false w_db ?_);conv=>whnf)|((refine Split.is_false w_dp ?_);conv=>whnf)|((refine PickE.mk (wD sDep) rfl ?_);conv=>whnf)|((refine PickE.mk (wD w1) rfl ?_);conv=>whnf)|((refine PickE.map i hx (by omega) ?_);conv=>whnf)|((with_reducible refine Split.of_false ?_);conv=>whnf)|(with_reducible refine Split.neg ?_)|((with_reducible refine Split.eqz (fun _=>?_) (fun _=>?_))<;>conv=>whnf)|((with_reducible refine Split.streq (fun _=>?_) (fun _=>?_))<;>conv=>whnf)|((with_reducible refine Split.dec (fun _=>?_) (fun _=>?_))<;>conv=>whnf)|((with_reducible refine Need.mk ?_ ?_);(first|omega|rfl|decide|(refine ⟨?_,?_⟩<;>simp<;>omega)|(simp;omega));conv=>whnf)|((with_reducible refine Wr.inr ?_ ?_);(first|omega|(simp;omega));conv=>whnf)|((with_reducible refine AltK.l ?_);(conv=>whnf);(first|(refine CallK.mk _ (hC2) ?_));conv=>whnf)|(exfalso;first|omega|contradiction)|fail)
   all_goals first
    | rfl
    |(exfalso; omega)
    |(exfalso; contradiction)
  match r, (show r.length = 2 by omega) with
  | [w2, w3], _ =>
  by_cases e2 : w2 = []
  ·have hf : rdY y [sDep, w1, w2, w3] = none := by rw [rdY, if_neg e1, if_neg h1, if_neg h2, if_pos rfl, rdD, if_pos e2]
   rw [hf]
   subst e2
   conv => whnf
   repeat' (first|((refine PickE.mk (wD []) rfl ?_);conv=>whnf)|((refine Split.is_true w_dd ?_);conv=>whnf)|((refine Split.is_false w_db ?_);conv=>whnf)|((refine Split.is_false w_dp ?_);conv=>whnf)|((refine PickE.mk (wD sDep) rfl ?_);conv=>whnf)|((refine PickE.mk (wD w1) rfl ?_);conv=>whnf)|((refine PickE.map i hx (by omega) ?_);conv=>whnf)|((with_reducible refine Split.of_false ?_);conv=>whnf)|(with_reducible refine Split.neg ?_)|((with_reducible refine Split.eqz (fun _=>?_) (fun _=>?_))<;>conv=>whnf)|((with_reducible refine Split.streq (fun _=>?_) (fun _=>?_))<;>conv=>whnf)|((with_reducible refine Split.dec (fun _=>?_) (fun _=>?_))<;>conv=>whnf)|((with_reducible refine Need.mk ?_ ?_);(first|omega|rfl|decide|(refine ⟨?_,?_⟩<;>simp<;>omega)|(simp;omega));conv=>whnf)|((with_reducible refine Wr.inr ?_ ?_);(first|omega|(simp;omega));conv=>whnf)|((with_reducible refine AltK.l ?_);(conv=>whnf);(first|(refine CallK.mk _ (hC2) ?_));conv=>whnf)|(exfalso;first|omega|contradiction)|fail)
   all_goals first
    | rfl
    |(exfalso; omega)
    |(exfalso; contradiction)
  have hwn2 : ofL w2 ≠ ⟨#[]⟩ := fun e => e2 (ofL_inj e)
  have hM := ev_numbersR [w1, w3] (by simp) (fun w hm => by
   simp only [List.mem_cons, List.not_mem_nil, or_false] at hm
   rcases hm with rfl | rfl
   ·have := hxe w (by simp); omega
   ·have := hxe w (by simp); omega)
  cases hr : numsOf [w1, w3] with
  | none =>
   have hf : rdY y [sDep, w1, w2, w3] = none := by rw [rdY, if_neg e1, if_neg h1, if_neg h2, if_pos rfl, rdD, if_neg e2, hr]
   rw [hf]
   rw [hr] at hM
   conv => whnf
   repeat' (first|((refine PickE.mk (wD w3) rfl ?_);conv=>whnf)|((refine PickE.mk (wD w2) rfl ?_);conv=>whnf)|((refine Split.is_true w_dd ?_);conv=>whnf)|((refine Split.is_false w_db ?_);conv=>whnf)|((refine Split.is_false w_dp ?_);conv=>whnf)|((refine PickE.mk (wD sDep) rfl ?_);conv=>whnf)|((refine PickE.mk (wD w1) rfl ?_);conv=>whnf)|((refine PickE.map i hx (by omega) ?_);conv=>whnf)|((with_reducible refine Split.of_false ?_);conv=>whnf)|(with_reducible refine Split.neg ?_)|((with_reducible refine Split.eqz (fun _=>?_) (fun _=>?_))<;>conv=>whnf)|((with_reducible refine Split.streq (fun _=>?_) (fun _=>?_))<;>conv=>whnf)|((with_reducible refine Split.dec (fun _=>?_) (fun _=>?_))<;>conv=>whnf)|((with_reducible refine Need.mk ?_ ?_);(first|omega|rfl|decide|(refine ⟨?_,?_⟩<;>simp<;>omega)|(simp;omega));conv=>whnf)|((with_reducible refine Wr.inr ?_ ?_);(first|omega|(simp;omega));conv=>whnf)|((with_reducible refine AltK.l ?_);(conv=>whnf);(first|(refine CallK.mk _ (hC2) ?_)|(refine CallK.mk _ (hM) ?_));conv=>whnf)|(exfalso;first|omega|contradiction)|fail)
   all_goals first
    | rfl
    |(exfalso; omega)
    |(exfalso; contradiction)
  | some l =>
  rw [hr] at hM
  match l, numsOf_len hr with
  | [a, b], _ =>
  have hf : rdY y [sDep, w1, w2, w3] = some { y with deps := y.deps ++ [⟨a, ofL w2, b⟩] } := by rw [rdY, if_neg e1, if_neg h1, if_neg h2, if_pos rfl, rdD, if_neg e2, hr]
  rw [hf]
  have hmp1 : y.deps.map dpD ++ D.agg [iD a, wD w2, iD b] :: List.replicate 0 (D.agg [iD 0, .str ⟨#[]⟩, iD 0]) = (y.deps ++ [(⟨a, ofL w2, b⟩ : Dp)]).map dpD := by rw [List.map_append]; rfl
  have hl3 : (y.deps ++ [(⟨a, ofL w2, b⟩ : Dp)]).length = y.deps.length + 1 := by simp
  conv => whnf
  repeat' (first|((refine PickE.mk (iD b) rfl ?_);conv=>whnf)|((refine PickE.mk (iD a) rfl ?_);conv=>whnf)|((refine PickE.mk (wD w3) rfl ?_);conv=>whnf)|((refine PickE.mk (wD w2) rfl ?_);conv=>whnf)|((refine Split.is_true w_dd ?_);conv=>whnf)|((refine Split.is_false w_db ?_);conv=>whnf)|((refine Split.is_false w_dp ?_);conv=>whnf)|((refine PickE.mk (wD sDep) rfl ?_);conv=>whnf)|((refine PickE.mk (wD w1) rfl ?_);conv=>whnf)|((refine PickE.map i hx (by omega) ?_);conv=>whnf)|((with_reducible first|refine Split.of_true ?_|refine Split.of_false ?_);conv=>whnf)|(with_reducible refine Split.neg ?_)|((with_reducible refine Split.eqz (fun _=>?_) (fun _=>?_))<;>conv=>whnf)|((with_reducible refine Split.streq (fun _=>?_) (fun _=>?_))<;>conv=>whnf)|((with_reducible refine Split.dec (fun _=>?_) (fun _=>?_))<;>conv=>whnf)|((with_reducible refine Need.mk ?_ ?_);(first|omega|rfl|decide|(refine ⟨?_,?_⟩<;>simp<;>omega)|(simp;omega));conv=>whnf)|((with_reducible refine Wr.inr ?_ ?_);(first|omega|(simp;omega));conv=>whnf)|((with_reducible refine AltK.l ?_);(conv=>whnf);(first|(refine CallK.mk _ (hC2) ?_)|(refine CallK.mk _ (hM) ?_));conv=>whnf)|(exfalso;first|omega|contradiction)|fail)
  all_goals first
   | exact Again.au (i + 1, { y with deps := y.deps ++ [⟨a, ofL w2, b⟩] }) ⟨by show i + 1 < L.length;omega, rfl, hB.dep _⟩ (by show L.length - (i + 1) < L.length - i;omega) (by refine ⟨?_, ?_, rfl⟩<;>(repeat' (first|exact True.intro|exact rfl|(refine ⟨?_,?_⟩)|(intro h;cases h;done)|(refine own_congr ?_;simp;done)|exact hmp1|fail));done)
   |(exfalso; omega)
   |(exfalso; contradiction)
 have n3 : ofL w0 ≠ ⟨#[100, 101, 112, 111, 115, 105, 116]⟩ := fun e => h3 (ofL_inj (b := sDep) e)
 have hf : rdY y (w0 :: w1 :: r) = none := by rw [rdY, if_neg e1, if_neg h1, if_neg h2, if_neg h3]
 rw [hf]
 conv => whnf
 repeat' (first|((refine PickE.mk (wD w0) rfl ?_);conv=>whnf)|((refine PickE.mk (wD w1) rfl ?_);conv=>whnf)|((refine PickE.map i hx (by omega) ?_);conv=>whnf)|((with_reducible refine Split.of_false ?_);conv=>whnf)|(with_reducible refine Split.neg ?_)|((with_reducible refine Split.eqz (fun _=>?_) (fun _=>?_))<;>conv=>whnf)|((with_reducible refine Split.streq (fun _=>?_) (fun _=>?_))<;>conv=>whnf)|((with_reducible refine Split.dec (fun _=>?_) (fun _=>?_))<;>conv=>whnf)|((with_reducible refine Need.mk ?_ ?_);(first|omega|rfl|decide|(refine ⟨?_,?_⟩<;>simp<;>omega)|(simp;omega));conv=>whnf)|((with_reducible refine Wr.inr ?_ ?_);(first|omega|(simp;omega));conv=>whnf)|((with_reducible refine AltK.l ?_);(conv=>whnf);(first|(refine CallK.mk _ (hC2) ?_));conv=>whnf)|(exfalso;first|omega|contradiction)|fail)
 all_goals first
  | rfl
  |(exfalso; omega)
  |(exfalso; contradiction)
end Go.Proofs.Tryz
end
