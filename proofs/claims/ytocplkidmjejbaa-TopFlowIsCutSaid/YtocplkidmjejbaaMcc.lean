/- Texts DpX DpY DpZ DqC DqD DqE DpM DrA, joined; what is not needed is left out. -/
import Derived.Test.YtocplkidmjejbaaMgI
import Derived.Test.YtocplkidmjejbaaMgH
import Derived.Test.YtocplkidmjejbaaProg
import Derived.Test.YtocplkidmjejbaaMcb
section
namespace Go.Proofs.Try
open Go Go.Vm
set_option maxRecDepth 20000
set_option maxHeartbeats 8000000
/-! The task: push. -/
def stD (x : Int × Int × Int) : D := .agg [iD x.1, iD x.2.1, iD x.2.2]
theorem left_bd {y : Yd} {l : List Bt} {vol room : List Int} {fl : List (List Int)} (h : TkOk y l vol room fl) (b : Nat) : -2000000000000000000 ≤ leftF vol fl b ∧ leftF vol fl b ≤ 2000000000000000000 := by
 have e4 := h.hP
 have h1 : 0 ≤ vol.getD b 0 ∧ vol.getD b 0 ≤ 100000000000000000 := by
  rw [List.getD]
  cases hx : vol[b]? with
  | none => simp
  | some x => exact h.vb x (List.mem_of_getElem? hx)
 have h2 : 0 ≤ (fl.getD b []).sum ∧ (fl.getD b []).sum ≤ (fl.getD b []).length * 100000000000000000 := sum_bd fun x hx => by
  rw [List.getD] at hx
  cases hr : fl[b]? with
  | none => rw [hr] at hx; simp at hx
  | some r => rw [hr] at hx; exact okFl_cell h.fb (List.mem_of_getElem? hr) hx
 have h3 : (fl.getD b []).length ≤ 8 := by
  rw [List.getD]
  cases hr : fl[b]? with
  | none => simp
  | some r => have := h.row r (List.mem_of_getElem? hr); simp; omega
 unfold leftF
 omega
theorem free_bd {y : Yd} {l : List Bt} {vol room : List Int} {fl : List (List Int)} (h : TkOk y l vol room fl) (p : Nat) : -2000000000000000000 ≤ freeF room fl p ∧ freeF room fl p ≤ 2000000000000000000 := by
 have e3 := h.hL
 have e2 := h.hf
 have h1 : 0 ≤ room.getD p 0 ∧ room.getD p 0 ≤ 100000000000000000 := by
  rw [List.getD]
  cases hx : room[p]? with
  | none => simp
  | some x => exact h.rb x (List.mem_of_getElem? hx)
 have h2 := sum_bd (M := 100000000000000000) (r := fl.map fun r => r.getD p 0) fun x hx => by
  obtain ⟨r, hr, rfl⟩ := List.mem_map.1 hx
  rw [List.getD]
  cases hx : r[p]? with
  | none => simp
  | some x => exact okFl_cell h.fb hr (List.mem_of_getElem? hx)
 rw [List.length_map] at h2
 unfold freeF
 omega
theorem xv_pushNo {y : Yd} {l : List Bt} {vol room : List Int} {fl : List (List Int)} (h : TkOk y l vol room fl) {n : Nat} {w : Rs} (hw : reachF (accF y l) y.pits.length l.length n vol fl = some w) (hn : n ≤ 1000) {pit : Nat} (hp : pit < y.pits.length)
 (hno : hasN w.ps pit = false ∨ freeF room fl pit = 0) : EvX Try.prog 89 [.ptr 1000 0, .d (iD pit)] (tkX y l vol room fl) (.d (.bool false)) (tkX y l vol room fl) := by
 have hR := xv_reached h hw hn
 have hF := xv_free h hp
 have hm := mget_mapD pit w.ps
 unfold tkX at hR hF ⊢
 have hR := hR.rn [(9, 16), (2009, 2016)] rfl
 cases hk : hasN w.ps pit with
 | false =>
  rw [hk, if_neg (by decide)] at hm
  refine evx_of_awp tysOk mixed (fn := Try.f89) Try.func89 rfl rfl rfl ?_
  conv => whnf
  repeat' (first|((with_reducible refine Need.mk ?_ ?_);(first|omega|rfl|decide|(refine ⟨?_,?_⟩<;>simp<;>omega)|(simp;omega));conv=>whnf)|((with_reducible refine AltK.r ?_);(conv=>whnf);(first|(refine CallX.mk _ _ (hR) rfl ?_)|(refine CallX.mk _ _ (hF) rfl ?_));conv=>whnf)|fail)
  refine LookK.mk (fun v hv => ?_) (fun hv => ?_)
  ·rw [hm] at hv; cases hv
  ·conv => whnf
   repeat' (first|((with_reducible first|refine Split.of_true ?_|refine Split.of_false ?_);conv=>whnf)|(with_reducible refine Split.neg ?_)|fail)
   all_goals first
    |(exfalso; contradiction)
    | exact ⟨⟨[], (by refine ⟨?_, ?_, rfl⟩<;>(repeat' (first|exact True.intro|exact rfl|(refine ⟨?_,?_⟩)|(intro h;cases h;done)|(simp;done)|fail));done)⟩, rfl⟩
 | true =>
  rw [hk, if_pos rfl] at hm
  have hf0 : freeF room fl pit = 0 := by
   rcases hno with h | h
   ·rw [hk] at h; cases h
   ·exact h
  rw [hf0] at hF
  refine evx_of_awp tysOk mixed (fn := Try.f89) Try.func89 rfl rfl rfl ?_
  conv => whnf
  repeat' (first|((with_reducible refine Need.mk ?_ ?_);(first|omega|rfl|decide|(refine ⟨?_,?_⟩<;>simp<;>omega)|(simp;omega));conv=>whnf)|((with_reducible refine AltK.r ?_);(conv=>whnf);(first|(refine CallX.mk _ _ (hR) rfl ?_)|(refine CallX.mk _ _ (hF) rfl ?_));conv=>whnf)|fail)
  refine LookK.mk (fun v hv => ?_) (fun hv => ?_)
  ·conv => whnf
   repeat' (first|((with_reducible refine Split.of_true ?_);conv=>whnf)|(with_reducible refine Split.neg ?_)|((with_reducible refine Split.is_true ?_ ?_);decide;conv=>whnf)|((with_reducible refine AltK.r ?_);(conv=>whnf);(first|(refine CallX.mk _ _ (hF) rfl ?_));conv=>whnf)|fail)
   all_goals first
    |(exfalso; contradiction)
    | exact ⟨⟨[], (by refine ⟨?_, ?_, rfl⟩<;>(repeat' (first|exact True.intro|exact rfl|(refine ⟨?_,?_⟩)|(intro h;cases h;done)|(simp;done)|fail));done)⟩, rfl⟩
  ·rw [hm] at hv; cases hv
theorem addF_len {fl : List (List Int)} {b p : Nat} {a : Int} : (addF fl b p a).length = fl.length := by rw [addF, List.length_set]
theorem addF_row {fl : List (List Int)} {b p P : Nat} {a : Int} (h : ∀ r ∈ fl, r.length = P) : ∀ r ∈ addF fl b p a, r.length = P := by
 intro r hr
 rw [addF] at hr
 rcases List.mem_or_eq_of_mem_set hr with h1 | h1
 ·exact h r h1
 ·by_cases hb : b < fl.length
  ·rw [h1, List.length_set, List.getD, List.getElem?_eq_getElem hb]
   exact h _ (List.getElem_mem hb)
  ·rw [List.set_eq_of_length_le (by omega)] at hr
   exact h r hr
theorem apSt_len {fl : List (List Int)} {a : Int} {x : Int × Int × Int} : (apSt a fl x).length = fl.length := by
 unfold apSt
 split
 ·rw [addF_len, addF_len]
 ·rw [addF_len]
theorem apSt_row {fl : List (List Int)} {P : Nat} {a : Int} {x : Int × Int × Int} (h : ∀ r ∈ fl, r.length = P) : ∀ r ∈ apSt a fl x, r.length = P := by
 unfold apSt
 split
 ·exact addF_row (addF_row h)
 ·exact addF_row h
theorem apF_keep {P L : Nat} {a : Int} : ∀ {st : List (Int × Int × Int)} {fl fl' : List (List Int)}, apF P L a fl st = some fl' → okFl fl = true → (∀ r ∈ fl, r.length = P) → fl'.length = fl.length ∧ (∀ r ∈ fl', r.length = P) ∧ okFl fl' = true
 | [], fl, fl', h, h1, h2 => by rw [apF] at h; cases h; exact ⟨rfl, h2, h1⟩
 | x :: r, fl, fl', h, h1, h2 => by
  rw [apF] at h
  split at h
  ·rename_i hx
   obtain ⟨k1, k2, k3⟩ := apF_keep h hx.2 (apSt_row h2)
   exact ⟨k1.trans apSt_len, k2, k3⟩
  ·cases h
theorem pathF_at {P L : Nat} {vol : List Int} {fl : List (List Int)} {w : Rs} {n p : Nat} {a : Int} {st : List (Int × Int × Int)} {fin : Int} (h : pathF P L vol fl w n p a = some (st, fin)) :
 ∃ m b f, n = m + 1 ∧ hasN w.ps p = true ∧ getZ w.ps p = (b : Nat) ∧ b < L ∧ hasN w.bs b = true ∧ getZ w.bs b = f ∧ f < P ∧
  ((f < 0 ∧ st = [((b : Int), (p : Int), f)] ∧ fin = minI a (leftF vol fl b)) ∨ (0 ≤ f ∧ ∃ r, st = ((b : Int), (p : Int), f) :: r ∧ pathF P L vol fl w m f.toNat (minI a (cellZ fl b f.toNat)) = some (r, fin))) := by
 cases n with
 | zero => rw [pathF] at h; cases h
 | succ m =>
  rw [pathF] at h
  split at h
  ·rename_i hc
   obtain ⟨h1, h2, h3, h4, h5⟩ := hc
   have hb : getZ w.ps p = ((getZ w.ps p).toNat : Nat) := by omega
   refine ⟨m, (getZ w.ps p).toNat, _, rfl, h1, hb, by omega, h4, rfl, h5, ?_⟩
   split at h
   ·rename_i hf
    cases h
    exact .inl ⟨hf, by rw [← hb], rfl⟩
   ·rename_i hf
    split at h
    ·rename_i r hr
     cases h
     exact .inr ⟨by omega, r.1, by rw [← hb], hr⟩
    ·cases h
  ·cases h
theorem minI_bd {a b : Int} (ha : -2000000000000000000 ≤ a ∧ a ≤ 2000000000000000000) (hb : -2000000000000000000 ≤ b ∧ b ≤ 2000000000000000000) : -2000000000000000000 ≤ minI a b ∧ minI a b ≤ 2000000000000000000 := by
 unfold minI
 split
 ·exact hb
 ·exact ha
theorem xv_pushYes {y : Yd} {l : List Bt} {vol room : List Int} {fl fl' : List (List Int)} (h : TkOk y l vol room fl) {n : Nat} {w : Rs} (hw : reachF (accF y l) y.pits.length l.length n vol fl = some w) (hn : n ≤ 1000) {pit : Nat} (hp : pit < y.pits.length)
 (hk : hasN w.ps pit = true) (hf0 : freeF room fl pit ≠ 0) {st : List (Int × Int × Int)} {fin : Int} (hpa : pathF y.pits.length l.length vol fl w n pit (freeF room fl pit) = some (st, fin)) (hap : apF y.pits.length l.length fin fl st = some fl') :
 EvX Try.prog 89 [.ptr 1000 0, .d (iD pit)] (tkX y l vol room fl) (.d (.bool true)) (tkX y l vol room fl') := by
 have hR := xv_reached h hw hn
 have hF := xv_free h hp
 have hLf := fun (b : Nat) (hb : b < l.length) => xv_left h hb
 have hm := mget_mapD pit w.ps
 have hfb := free_bd h pit
 have hlb := left_bd h
 have e1 := h.hv
 have e2 := h.hf
 have e3 := h.hL
 have e4 := h.hP
 have efl : fl'.length = fl.length := (apF_keep hap h.fb h.row).1
 unfold tkX at hR hF hLf ⊢
 rw [efl]
 have hR := hR.rn [(9, 16), (2009, 2016)] rfl
 rw [hk, if_pos rfl] at hm
 generalize freeF room fl pit = f0 at *
 refine evx_of_awp tysOk mixed (fn := Try.f89) Try.func89 rfl rfl rfl ?_
 conv => whnf
 repeat' (first|((with_reducible refine Need.mk ?_ ?_);(first|omega|rfl|decide|(refine ⟨?_,?_⟩<;>simp<;>omega)|(simp;omega));conv=>whnf)|((with_reducible refine AltK.r ?_);(conv=>whnf);(first|(refine CallX.mk _ _ (hR) rfl ?_)|(refine CallX.mk _ _ (hF) rfl ?_));conv=>whnf)|fail)
 refine LookK.mk (fun v hv => ?_) (fun hv => ?_)
 case refine_2 => rw [hm] at hv; cases hv
 conv => whnf
 repeat' (first|((with_reducible refine Split.of_true ?_);conv=>whnf)|(with_reducible refine Split.neg ?_)|((with_reducible refine Split.eqz (fun _=>?_) (fun _=>?_))<;>conv=>whnf)|((with_reducible refine AltK.r ?_);(conv=>whnf);(first|(refine CallX.mk _ _ (hF) rfl ?_));conv=>whnf)|(exfalso;first|omega|contradiction)|fail)
 refine LoopK.o3 (fun x : Nat × Nat × Int × List (Int × Int × Int) => (∃ r, pathF y.pits.length l.length vol fl w x.1 x.2.1 x.2.2.1 = some (r, fin) ∧ st = x.2.2.2 ++ r) ∧ -2000000000000000000 ≤ x.2.2.1 ∧ x.2.2.1 ≤ 2000000000000000000 ∧ x.2.2.2.length + x.1 = n)
  (fun x => [(8, .own 200 3 (x.2.2.2.map stD).length), (9, .d (iD x.2.2.1)), (10, .d (iD x.2.1))]) (fun x => [(200, .row 159 3 (x.2.2.2.map stD) false)]) (fun x => x.1) (n, pit, f0, []) ⟨⟨st, hpa, rfl⟩, by dsimp only;omega, by dsimp only;omega, by simp⟩ (by refine ⟨?_, ?_, rfl⟩<;>(repeat' (first|exact True.intro|exact rfl|(refine ⟨?_,?_⟩)|(intro h;cases h;done)|(simp;done)|fail));done) ?_
 rintro ⟨m, p, a, pre⟩ ⟨⟨rst, hpt, hst⟩, ha1, ha2, hml⟩
 dsimp only at hpt hst ha1 ha2 hml ⊢
 obtain ⟨m', b, f, hmm, k1, k2, k3, k4, k5, k6, hor⟩ := pathF_at hpt
 have hc := hLf b k3
 have hlbb := hlb b
 have hq1 := mget_mapD p w.ps
 rw [k1, if_pos rfl, k2] at hq1
 have hq2 := mget_mapD b w.bs
 rw [k4, if_pos rfl, k5] at hq2
 have hpl : (pre.map stD).length = pre.length := List.length_map _
 rcases hor with ⟨hneg, hr, hfin⟩ | ⟨hpos, r, hr, hpt'⟩
 ·subst hr
  have hsn : pre.map stD ++ D.agg [iD (b : Int), iD (p : Int), iD f] :: List.replicate 0 (D.agg [.int .i64 0, .int .i64 0, .int .i64 0]) = st.map stD := by rw [hst]; simp [stD]
  have hmb := minI_bd (a := a) (b := leftF vol fl b) ⟨ha1, ha2⟩ hlbb
  rw [← hfin] at hmb
  generalize leftF vol fl b = lf at *
  conv => whnf
  repeat' (first|((with_reducible refine Need.mk ?_ ?_);(first|omega|rfl|decide|(refine ⟨?_,?_⟩<;>simp<;>omega)|(simp;omega));conv=>whnf)|fail)
  refine LookK.mk (fun v hv => ?_) (fun hv => ?_)
  case refine_2 => rw [hq1] at hv; cases hv
  rw [hq1] at hv; cases hv
  conv => whnf
  repeat' (first|((with_reducible refine Need.mk ?_ ?_);(first|omega|rfl|decide|(refine ⟨?_,?_⟩<;>simp<;>omega)|(simp;omega));conv=>whnf)|fail)
  refine LookK.mk (fun v hv => ?_) (fun hv => ?_)
  case refine_2 => rw [hq2] at hv; cases hv
  rw [hq2] at hv; cases hv
  conv => whnf
  repeat' (first|((with_reducible refine Split.dec (fun _=>?_) (fun _=>?_))<;>conv=>whnf)|((with_reducible refine Need.mk ?_ ?_);(first|omega|rfl|decide|(refine ⟨?_,?_⟩<;>simp<;>omega)|(simp;omega));conv=>whnf)|((with_reducible refine AltK.r ?_);(conv=>whnf);(first|(refine CallX.mk _ _ (hc) rfl ?_));conv=>whnf)|(exfalso;first|omega|contradiction)|fail)
  all_goals first
   |(exfalso; omega)
   | skip
  rw [hsn, ← hfin]
  have hstN : st.length ≤ 1001 := by rw [hst]; simp only [List.length_append, List.length_singleton]; omega
  clear hq1 hq2 hlbb hsn hpl hst hpt hfin hc hm
  have hstl : (st.map stD).length = st.length := List.length_map _
  refine LoopK.o3 (fun x : Nat × List (List Int) => x.1 ≤ st.length ∧ apF y.pits.length l.length fin x.2 (st.drop x.1) = some fl' ∧ okFl x.2 = true ∧ x.2.length = fl.length ∧ ∀ r ∈ x.2, r.length = y.pits.length)
   (fun x => [(73, .d (iD x.1))]) (fun x => [(1003, .mat 25 3 0 (x.2.map fun r => some (r.map iD)))]) (fun x => st.length - x.1) (0, fl) ⟨by omega, hap, h.fb, rfl, h.row⟩ (by refine ⟨?_, ?_, rfl⟩<;>(repeat' (first|exact True.intro|exact rfl|(refine ⟨?_,?_⟩)|(intro h;cases h;done)|(simp;done)|fail));done) ?_
  rintro ⟨i, fc⟩ ⟨hi, hac, hok, hfl, hrow⟩
  dsimp only at hi hac hok hfl hrow ⊢
  by_cases hil : i < st.length
  ·obtain ⟨⟨b', p', f'⟩, hx⟩ := some_of_lt hil
   rw [drop_of hx, apF] at hac
   split at hac
   case isFalse => cases hac
   rename_i hst
   obtain ⟨hst, hok'⟩ := hst
   simp only [stepOk, Bool.and_eq_true, decide_eq_true_eq] at hst
   obtain ⟨⟨⟨⟨s1, s2⟩, s3⟩, s4⟩, s5⟩ := hst
   obtain ⟨bn, rfl⟩ := Int.eq_ofNat_of_zero_le s1
   obtain ⟨pn, rfl⟩ := Int.eq_ofNat_of_zero_le s3
   obtain ⟨row, hrow1⟩ := some_of_lt (show bn < fc.length by omega)
   have hrm := List.mem_of_getElem? hrow1
   have hrl := hrow row hrm
   obtain ⟨c, hc⟩ := some_of_lt (show pn < row.length by omega)
   have hcb := okFl_cell hok hrm (List.mem_of_getElem? hc)
   have hlf : (fc.map fun r => some (r.map iD)).length = fc.length := List.length_map _
   have hlr : (row.map iD).length = row.length := List.length_map _
   have ead : addF fc bn pn fin = fc.set bn (row.set pn (c + fin)) := by simp [addF, cellZ, List.getD, hrow1, hc]
   have hmp1 : (fc.map fun r => some (r.map iD)).set bn (some ((row.map iD).set pn (iD (c + fin)))) = (addF fc bn pn fin).map fun r => some (r.map iD) := by
    rw [ead, List.map_set, List.map_set]
   by_cases hf : 0 ≤ f'
   ·obtain ⟨fn, rfl⟩ := Int.eq_ofNat_of_zero_le hf
    have eap : apSt fin fc ((bn : Int), (pn : Int), (fn : Int)) = addF (addF fc bn pn fin) bn fn (-fin) := by rw [apSt]; simp
    have hr2 : (addF fc bn pn fin)[bn]? = some (row.set pn (c + fin)) := by rw [ead, List.getElem?_set_self (by omega)]
    obtain ⟨c2, hc2⟩ := some_of_lt (show fn < (row.set pn (c + fin)).length by rw [List.length_set]; omega)
    have hcb2 : -2200000000000000000 ≤ c2 ∧ c2 ≤ 2200000000000000000 := by
     rcases List.mem_or_eq_of_mem_set (List.mem_of_getElem? hc2) with h1 | h1
     ·have := okFl_cell hok hrm h1; omega
     ·omega
    have ead2 : addF (addF fc bn pn fin) bn fn (-fin) = (addF fc bn pn fin).set bn ((row.set pn (c + fin)).set fn (c2 - fin)) := by
     have e1 : (addF fc bn pn fin).getD bn [] = row.set pn (c + fin) := by rw [List.getD, hr2]; rfl
     have e2 : cellZ (addF fc bn pn fin) bn fn = c2 := by rw [cellZ, e1, List.getD, hc2]; rfl
     rw [addF, e1, e2]; rfl
    have hmp2 : ((fc.map fun r => some (r.map iD)).set bn (some ((row.map iD).set pn (iD (c + fin)))))[bn]? = some (some ((row.set pn (c + fin)).map iD)) := by
     rw [hmp1, List.getElem?_map, hr2]; rfl
    have hxD : (st.map stD)[(i : Int).toNat]? = some (D.agg [iD (bn : Int), iD (pn : Int), iD (fn : Int)]) := by rw [Int.toNat_natCast, List.getElem?_map, hx]; rfl
    conv => whnf
    repeat' (first|((refine PickE.map fn hc2 (by omega) ?_);conv=>whnf)|((refine PickR.mk _ hmp2 ?_);conv=>whnf)|((refine PickE.map pn hc (by omega) ?_);conv=>whnf)|((refine PickR.map bn hrow1 (by omega) ?_);conv=>whnf)|((refine PickE.mk _ hxD ?_);conv=>whnf)|((with_reducible refine Split.dec (fun _=>?_) (fun _=>?_))<;>conv=>whnf)|((with_reducible refine Need.mk ?_ ?_);(first|omega|rfl|decide|(refine ⟨?_,?_⟩<;>simp<;>omega)|(simp;omega));conv=>whnf)|((with_reducible refine Wr.inr ?_ ?_);(first|omega|(simp;omega));conv=>whnf)|(exfalso;first|omega|contradiction)|fail)
    refine Again.av (i + 1, apSt fin fc ((bn : Int), (pn : Int), (fn : Int))) ⟨by dsimp only; omega, hac, hok', by dsimp only; rw [apSt_len]; exact hfl, by dsimp only; exact apSt_row hrow⟩ (by dsimp only; omega) ?_
    dsimp only
    have hmp3 : ((fc.map fun r => some (r.map iD)).set bn (some ((row.map iD).set pn (iD (c + fin))))).set bn (some (((row.set pn (c + fin)).map iD).set fn (iD (c2 - fin)))) = (apSt fin fc ((bn : Int), (pn : Int), (fn : Int))).map fun r => some (r.map iD) := by
     rw [hmp1, eap, ead2]; simp only [List.map_set]
    exact (by refine ⟨?_, ?_, rfl⟩<;>(repeat' (first|exact True.intro|exact rfl|(refine ⟨?_,?_⟩)|(intro h;cases h;done)|(simp;done)|exact hmp3|fail));done)
   ·have eap : apSt fin fc ((bn : Int), (pn : Int), f') = addF fc bn pn fin := by rw [apSt, if_neg hf]; rfl
    have hxD : (st.map stD)[(i : Int).toNat]? = some (D.agg [iD (bn : Int), iD (pn : Int), iD f']) := by rw [Int.toNat_natCast, List.getElem?_map, hx]; rfl
    conv => whnf
    repeat' (first|((refine PickE.map pn hc (by omega) ?_);conv=>whnf)|((refine PickR.map bn hrow1 (by omega) ?_);conv=>whnf)|((refine PickE.mk _ hxD ?_);conv=>whnf)|((with_reducible refine Split.dec (fun _=>?_) (fun _=>?_))<;>conv=>whnf)|((with_reducible refine Need.mk ?_ ?_);(first|omega|rfl|decide|(refine ⟨?_,?_⟩<;>simp<;>omega)|(simp;omega));conv=>whnf)|((with_reducible refine Wr.inr ?_ ?_);(first|omega|(simp;omega));conv=>whnf)|(exfalso;first|omega|contradiction)|fail)
    all_goals first
     |(exfalso; omega)
     | skip
    refine Again.av (i + 1, apSt fin fc ((bn : Int), (pn : Int), f')) ⟨by dsimp only; omega, hac, hok', by dsimp only; rw [apSt_len]; exact hfl, by dsimp only; exact apSt_row hrow⟩ (by dsimp only; omega) ?_
    dsimp only
    rw [eap]
    exact (by refine ⟨?_, ?_, rfl⟩<;>(repeat' (first|exact True.intro|exact rfl|(refine ⟨?_,?_⟩)|(intro h;cases h;done)|(simp;done)|exact hmp1|fail));done)
  ·have hie : i = st.length := by omega
   subst hie
   rw [List.drop_length, apF] at hac
   cases hac
   conv => whnf
   repeat' (first|((with_reducible refine Split.dec (fun _=>?_) (fun _=>?_))<;>conv=>whnf)|((with_reducible refine Need.mk ?_ ?_);(first|omega|rfl|decide|(refine ⟨?_,?_⟩<;>simp<;>omega)|(simp;omega));conv=>whnf)|(exfalso;first|omega|contradiction)|fail)
   exact ⟨⟨[], (by refine ⟨?_, ?_, rfl⟩<;>(repeat' (first|exact True.intro|exact rfl|(refine ⟨?_,?_⟩)|(intro h;cases h;done)|(simp;done)|fail));done)⟩, rfl⟩
 ·subst hr
  obtain ⟨row, hrow⟩ := some_of_lt (show b < fl.length by omega)
  have hrm := List.mem_of_getElem? hrow
  have hrl := h.row row hrm
  obtain ⟨x, hx⟩ := some_of_lt (show f.toNat < row.length by omega)
  have hxb := okFl_cell h.fb hrm (List.mem_of_getElem? hx)
  have hcx : cellZ fl b f.toNat = x := by simp [cellZ, List.getD, hrow, hx]
  rw [hcx] at hpt'
  have hmb := minI_bd (a := a) (b := x) ⟨ha1, ha2⟩ (by omega)
  have hlf : (fl.map fun r => some (r.map iD)).length = fl.length := List.length_map _
  have hlr : (row.map iD).length = row.length := List.length_map _
  have hmp1 : pre.map stD ++ D.agg [iD (b : Int), iD (p : Int), iD f] :: List.replicate 0 (D.agg [.int .i64 0, .int .i64 0, .int .i64 0]) = (pre ++ [((b : Int), (p : Int), f)]).map stD := by simp [stD]
  have hfe : (f.toNat : Int) = f := by omega
  conv => whnf
  repeat' (first|((with_reducible refine Need.mk ?_ ?_);(first|omega|rfl|decide|(refine ⟨?_,?_⟩<;>simp<;>omega)|(simp;omega));conv=>whnf)|fail)
  refine LookK.mk (fun v hv => ?_) (fun hv => ?_)
  case refine_2 => rw [hq1] at hv; cases hv
  rw [hq1] at hv; cases hv
  conv => whnf
  repeat' (first|((with_reducible refine Need.mk ?_ ?_);(first|omega|rfl|decide|(refine ⟨?_,?_⟩<;>simp<;>omega)|(simp;omega));conv=>whnf)|fail)
  refine LookK.mk (fun v hv => ?_) (fun hv => ?_)
  case refine_2 => rw [hq2] at hv; cases hv
  rw [hq2] at hv; cases hv
  conv => whnf
  repeat' (first|((refine PickE.map f.toNat hx (by omega) ?_);conv=>whnf)|((refine PickR.map b hrow (by omega) ?_);conv=>whnf)|((with_reducible refine Split.dec (fun _=>?_) (fun _=>?_))<;>conv=>whnf)|((with_reducible refine Need.mk ?_ ?_);(first|omega|rfl|decide|(refine ⟨?_,?_⟩<;>simp<;>omega)|(simp;omega));conv=>whnf)|(exfalso;first|omega|contradiction)|fail)
  all_goals first
   |(exfalso; omega)
   | skip
  refine Again.av (m', f.toNat, minI a x, pre ++ [((b : Int), (p : Int), f)]) ⟨⟨r, hpt', by rw [hst]; simp⟩, hmb.1, hmb.2, by simp only [List.length_append, List.length_singleton]; omega⟩ (by dsimp only; omega) ?_
  dsimp only
  rw [hfe]
  exact (by refine ⟨?_, ?_, rfl⟩<;>(repeat' (first|exact True.intro|exact rfl|(refine ⟨?_,?_⟩)|(intro h;cases h;done)|(refine own_congr ?_;simp;done)|(simp;done)|exact hmp1|fail));done)
end Go.Proofs.Try
end

section
namespace Go.Proofs.Try
open Go Go.Vm
set_option maxRecDepth 20000
set_option maxHeartbeats 8000000
/-! The task: pits in the order of their prices. -/
def cmpZ (a b : Int) : Int := if a < b then -1 else if b < a then 1 else 0
theorem ev_isNaNi (x : Int) : Ev Try.prog 108 [iD x] (.bool false) := by
 refine ev_of_awp tysOk mixed (fn := Try.f108) Try.func108 rfl rfl rfl ?_
 conv => whnf
 skip
 all_goals first
  |(simp [retOf]; done)
  |(exfalso; omega)
theorem ev_CompareI (x y : Int) : Ev Try.prog 88 [iD x, iD y] (iD (cmpZ x y)) := by
 have h1 := ev_isNaNi x
 have h2 := ev_isNaNi y
 unfold cmpZ
 refine ev_of_awp tysOk mixed (fn := Try.f88) Try.func88 rfl rfl rfl ?_
 conv => whnf
 repeat' (first|((with_reducible refine Split.of_false ?_);conv=>whnf)|((with_reducible refine Split.dec (fun _=>?_) (fun _=>?_))<;>conv=>whnf)|((with_reducible refine AltK.l ?_);(conv=>whnf);(first|(refine CallK.mk _ (h1) ?_)|(refine CallK.mk _ (h2) ?_));conv=>whnf)|fail)
 ·rw [if_pos (by assumption)]; rfl
 ·rw [if_neg (by omega), if_pos (by omega)]; rfl
 ·rw [if_neg (by omega), if_neg (by omega)]; rfl
def priceF (y : Yd) (p : Nat) : Int := match y.pits[p]? with
 | some q => q.price
 | none => 0
def cmX : List (Nat × Bx) := [(1011, .var [.ptr 1000 0] false)]
theorem xv_cmp {y : Yd} {l : List Bt} {vol room : List Int} {fl : List (List Int)} {a b : Nat} (ha : a < y.pits.length) (hb : b < y.pits.length) :
 EvX Try.prog 87 [.d (nD a), .d (nD b), .ptr 1011 0] (tkX y l vol room fl ++ cmX) (.d (iD (cmpZ (priceF y a) (priceF y b)))) (tkX y l vol room fl ++ cmX) := by
 obtain ⟨p, hp⟩ := some_of_lt ha
 obtain ⟨q, hq⟩ := some_of_lt hb
 have hlp : (y.pits.map ptD).length = y.pits.length := List.length_map _
 have e1 : priceF y a = p.price := by simp [priceF, hp]
 have e2 : priceF y b = q.price := by simp [priceF, hq]
 rw [e1, e2]
 have hc := ev_CompareI p.price q.price
 unfold tkX cmX
 refine evx_of_awp tysOk mixed (fn := Try.f87) Try.func87 rfl rfl rfl ?_
 conv => whnf
 repeat' (first|((refine PickE.map b hq (by omega) ?_);conv=>whnf)|((refine PickE.map a hp (by omega) ?_);conv=>whnf)|((with_reducible refine Need.mk ?_ ?_);(first|omega|rfl|decide|(refine ⟨?_,?_⟩<;>simp<;>omega)|(simp;omega));conv=>whnf)|((with_reducible refine AltK.l ?_);(conv=>whnf);(first|(refine CallK.mk _ (hc) ?_));conv=>whnf)|fail)
 exact ⟨⟨[], (by refine ⟨?_, ?_, rfl⟩<;>(repeat' (first|exact True.intro|exact rfl|(refine ⟨?_,?_⟩)|(intro h;cases h;done)|(simp;done)|fail));done)⟩, rfl⟩
def insR (pr : Nat → Int) (x : Nat) : List Nat → List Nat
 | [] => [x]
 | a :: r => if pr x < pr a then a :: insR pr x r else x :: a :: r
def sortGo (pr : Nat → Int) : List Nat → List Nat → List Nat
 | R, [] => R.reverse
 | R, x :: r => sortGo pr (insR pr x R) r
theorem insR_len {pr : Nat → Int} {x : Nat} : ∀ {R : List Nat}, (insR pr x R).length = R.length + 1
 | [] => rfl
 | a :: r => by
  rw [insR]
  split
  ·simp [insR_len]
  ·simp
theorem insR_mem {pr : Nat → Int} {x z : Nat} : ∀ {R : List Nat}, z ∈ insR pr x R ↔ z = x ∨ z ∈ R
 | [] => by simp [insR]
 | a :: r => by
  rw [insR]
  split
  ·rw [List.mem_cons, insR_mem (R := r), List.mem_cons]
   constructor
   ·rintro (h | h | h)
    ·exact .inr (.inl h)
    ·exact .inl h
    ·exact .inr (.inr h)
   ·rintro (h | h | h)
    ·exact .inr (.inl h)
    ·exact .inl h
    ·exact .inr (.inr h)
  ·simp
theorem xv_insert {y : Yd} {l : List Bt} {vol room : List Int} {fl : List (List Int)} (s : List Nat) (hs : ∀ x ∈ s, x < y.pits.length) (hl : s.length ≤ 8) :
 EvX Try.prog 122 [.own 1010 1 (s.map nD).length, .d (iD 0), .d (iD s.length), .fnv 87 [.box 1011]]
  (tkX y l vol room fl ++ cmX ++ [(1010, .row 3 1 (s.map nD) false)]) (.tup []) (tkX y l vol room fl ++ cmX ++ [(1010, .row 3 1 ((sortGo (priceF y) [] s).map nD) false)]) := by
 have hC := fun (a b : Nat) (ha : a < y.pits.length) (hb : b < y.pits.length) => xv_cmp (l := l) (vol := vol) (room := room) (fl := fl) ha hb
 have hsl : (s.map nD).length = s.length := List.length_map _
 unfold tkX cmX at hC ⊢
 cases s with
 | nil =>
  refine evx_of_awp tysOk mixed (fn := Try.f122) Try.func122 rfl rfl rfl ?_
  conv => whnf
  repeat' (first|((with_reducible refine Wr.inr ?_ ?_);(first|omega|(simp;omega));conv=>whnf)|fail)
  refine LoopK.o3 (fun _ : Unit => True) (fun _ => [(8, .d (iD 1))]) (fun _ => []) (fun _ => 0) () trivial (by refine ⟨?_, ?_, rfl⟩<;>(repeat' (first|exact True.intro|exact rfl|(refine ⟨?_,?_⟩)|(intro h;cases h;done)|(simp;done)|fail));done) ?_
  rintro ⟨⟩ -
  conv => whnf
  repeat' (first|((with_reducible refine Split.is_false ?_ ?_);decide;conv=>whnf)|fail)
  exact ⟨⟨[], (by refine ⟨?_, ?_, rfl⟩<;>(repeat' (first|exact True.intro|exact rfl|(refine ⟨?_,?_⟩)|(intro h;cases h;done)|(simp;done)|fail));done)⟩, rfl⟩
 | cons x0 r0 =>
  have hl0 : ((x0 :: r0).map nD).length = r0.length + 1 := by simp
  have hl1 : (x0 :: r0).length = r0.length + 1 := rfl
  have hmp0 : (x0 :: r0).map nD = ([x0].reverse ++ r0).map nD := rfl
  refine evx_of_awp tysOk mixed (fn := Try.f122) Try.func122 rfl rfl rfl ?_
  conv => whnf
  repeat' (first|((with_reducible refine Wr.inr ?_ ?_);(first|omega|(simp;omega));conv=>whnf)|fail)
  refine LoopK.o3 (fun x : List Nat × List Nat => sortGo (priceF y) x.1 x.2 = sortGo (priceF y) [] (x0 :: r0) ∧ x.1.length + x.2.length = r0.length + 1 ∧ (∀ z ∈ x.1, z < y.pits.length) ∧ (∀ z ∈ x.2, z < y.pits.length))
   (fun x => [(8, .d (iD x.1.length))]) (fun x => [(1010, .row 3 1 ((x.1.reverse ++ x.2).map nD) false)]) (fun x => x.2.length) ([x0], r0)
   ⟨rfl, by simp only [List.length_singleton];omega, fun z hz => hs z (by simp at hz;simp [hz]), fun z hz => hs z (List.mem_cons_of_mem _ hz)⟩ (by refine ⟨?_, ?_, rfl⟩<;>(repeat' (first|exact True.intro|exact rfl|(refine ⟨?_,?_⟩)|(intro h;cases h;done)|(simp;done)|fail));done) ?_
  rintro ⟨R, rest⟩ ⟨hgo, hlen, hR, hrest⟩
  dsimp only at hgo hlen hR hrest ⊢
  cases rest with
  | nil =>
   have e0 : ((R.reverse ++ []).map nD).length = R.length := by simp
   have e1 : ([] : List Nat).length = 0 := rfl
   have hmp1 : (R.reverse ++ []).map nD = (sortGo (priceF y) [] (x0 :: r0)).map nD := by rw [← hgo, sortGo, List.append_nil]
   conv => whnf
   repeat' (first|((with_reducible refine Split.dec (fun _=>?_) (fun _=>?_))<;>conv=>whnf)|(exfalso;first|omega|contradiction)|fail)
   exact ⟨⟨[], (by refine ⟨?_, ?_, rfl⟩<;>(repeat' (first|exact True.intro|exact rfl|(refine ⟨?_,?_⟩)|(intro h;cases h;done)|(simp;done)|exact hmp1|fail));done)⟩, rfl⟩
  | cons x r =>
   rw [sortGo] at hgo
   have e0 : ((R.reverse ++ x :: r).map nD).length = R.length + (r.length + 1) := by simp
   have e1 : (x :: r).length = r.length + 1 := rfl
   have hxP := hrest x (by simp)
   have hmp2 : (R.reverse ++ x :: r).map nD = (R.reverse ++ x :: ([] ++ r)).map nD := rfl
   conv => whnf
   repeat' (first|((with_reducible refine Split.dec (fun _=>?_) (fun _=>?_))<;>conv=>whnf)|(exfalso;first|omega|contradiction)|fail)
   refine LoopK.o3 (fun z : List Nat × List Nat => z.2.reverse ++ insR (priceF y) x z.1 = insR (priceF y) x R ∧ z.1.length + z.2.length = R.length ∧ (∀ q ∈ z.1, q < y.pits.length))
    (fun z => [(9, .d (iD z.1.length))]) (fun z => [(1010, .row 3 1 ((z.1.reverse ++ x :: (z.2 ++ r)).map nD) false)]) (fun z => z.1.length) (R, []) ⟨rfl, by simp, hR⟩ (by refine ⟨?_, ?_, rfl⟩<;>(repeat' (first|exact True.intro|exact rfl|(refine ⟨?_,?_⟩)|(intro h;cases h;done)|(simp;done)|fail));done) ?_
   rintro ⟨A, B⟩ ⟨hins, hAB, hA⟩
   dsimp only at hins hAB hA ⊢
   cases A with
   | nil =>
    have e2 : ([] : List Nat).length = 0 := rfl
    conv => whnf
    repeat' (first|((with_reducible refine Split.of_false ?_);conv=>whnf)|((with_reducible refine Split.is_false ?_ ?_);decide;conv=>whnf)|((with_reducible refine Wr.inr ?_ ?_);(first|omega|(simp;omega));conv=>whnf)|fail)
    have hfin : R.reverse.length = B.length := by rw [List.length_reverse]; omega
    rw [insR] at hins
    have hins' : insR (priceF y) x R = B.reverse ++ [x] := hins.symm
    have hil : ((insR (priceF y) x R).length : Int) = R.length + 1 := by rw [insR_len]; simp
    have hmp3 : (([] : List Nat).reverse ++ x :: (B ++ r)).map nD = ((insR (priceF y) x R).reverse ++ r).map nD := by rw [hins']; simp
    refine Again.av (insR (priceF y) x R, r) ⟨hgo, by rw [insR_len]; dsimp only; omega, fun z hz => (insR_mem.1 hz).elim (fun e => e ▸ hxP) (hR z), fun z hz => hrest z (List.mem_cons_of_mem _ hz)⟩ (by dsimp only; omega) ?_
    dsimp only
    rw [hil]
    exact (by refine ⟨?_, ?_, rfl⟩<;>(repeat' (first|exact True.intro|exact rfl|(refine ⟨?_,?_⟩)|(intro h;cases h;done)|(simp;done)|exact hmp3|fail));done)
   | cons a A =>
    have e2 : (a :: A).length = A.length + 1 := rfl
    have haP := hA a (by simp)
    have e3 : (((a :: A).reverse ++ x :: (B ++ r)).map nD).length = A.length + 2 + (B.length + r.length) := by simp; omega
    have hx1 : ((a :: A).reverse ++ x :: (B ++ r))[A.length + 1]? = some x := by simp
    have ha1 : ((a :: A).reverse ++ x :: (B ++ r))[A.length]? = some a := by simp
    have hc := hC x a hxP haP
    by_cases hlt : priceF y x < priceF y a
    ·have ec : cmpZ (priceF y x) (priceF y a) = -1 := by rw [cmpZ, if_pos hlt]
     rw [ec] at hc
     have i1 : ((a :: A).length : Int).toNat = A.length + 1 := by omega
     have i2 : (((a :: A).length : Int) - 1).toNat = A.length := by omega
     have hset : ((((a :: A).reverse ++ x :: (B ++ r)).map nD).set ((a :: A).length : Int).toNat (nD a))[(((a :: A).length : Int) - 1).toNat]? = some (nD a) := by
      rw [i1, i2, List.getElem?_set_ne (by omega), List.getElem?_map, ha1]; rfl
     have hmp4 : ((((a :: A).reverse ++ x :: (B ++ r)).map nD).set ((a :: A).length : Int).toNat (nD a)).set (((a :: A).length : Int) - 1).toNat (nD x) = (A.reverse ++ x :: ((a :: B) ++ r)).map nD := by
      rw [i1, i2]
      simp
     have hi3 : (A.length : Int) = ((a :: A).length : Int) - 1 := by omega
     conv => whnf
     repeat' (first|((refine PickE.map A.length ha1 (by omega) ?_);conv=>whnf)|((refine PickE.map (A.length + 1) hx1 (by omega) ?_);conv=>whnf)|((refine PickE.mk _ hset ?_);conv=>whnf)|((with_reducible refine Split.of_false ?_);conv=>whnf)|((with_reducible refine Split.is_true ?_ ?_);decide;conv=>whnf)|((with_reducible refine Split.dec (fun _=>?_) (fun _=>?_))<;>conv=>whnf)|((with_reducible refine Need.mk ?_ ?_);(first|omega|rfl|decide|(refine ⟨?_,?_⟩<;>simp<;>omega)|(simp;omega));conv=>whnf)|((with_reducible refine Wr.inr ?_ ?_);(first|omega|(simp;omega));conv=>whnf)|((with_reducible refine AltK.r ?_);(conv=>whnf);(first|(refine CallX.mk _ _ (hc) rfl ?_));conv=>whnf)|(exfalso;first|omega|contradiction)|fail)
     refine Again.av (A, a :: B) ⟨by dsimp only; rw [← hins, insR, if_pos hlt]; simp, by dsimp only; rw [List.length_cons]; omega, fun z hz => hA z (List.mem_cons_of_mem _ hz)⟩ (by dsimp only; omega) ?_
     dsimp only
     rw [hi3]
     exact (by refine ⟨?_, ?_, rfl⟩<;>(repeat' (first|exact True.intro|exact rfl|(refine ⟨?_,?_⟩)|(intro h;cases h;done)|(simp;done)|fail));done)
    ·have ec : ¬ cmpZ (priceF y x) (priceF y a) < 0 := by unfold cmpZ; split <;> (try split) <;> omega
     generalize cmpZ (priceF y x) (priceF y a) = cz at *
     conv => whnf
     repeat' (first|((refine PickE.map A.length ha1 (by omega) ?_);conv=>whnf)|((refine PickE.map (A.length + 1) hx1 (by omega) ?_);conv=>whnf)|((with_reducible refine Split.of_false ?_);conv=>whnf)|((with_reducible refine Split.dec (fun _=>?_) (fun _=>?_))<;>conv=>whnf)|((with_reducible refine Need.mk ?_ ?_);(first|omega|rfl|decide|(refine ⟨?_,?_⟩<;>simp<;>omega)|(simp;omega));conv=>whnf)|((with_reducible refine Wr.inr ?_ ?_);(first|omega|(simp;omega));conv=>whnf)|((with_reducible refine AltK.r ?_);(conv=>whnf);(first|(refine CallX.mk _ _ (hc) rfl ?_));conv=>whnf)|(exfalso;first|omega|contradiction)|fail)
     all_goals first
      |(exfalso; omega)
      | skip
     rw [insR, if_neg hlt] at hins
     have hins' : insR (priceF y) x R = B.reverse ++ x :: a :: A := hins.symm
     have hil : ((insR (priceF y) x R).length : Int) = R.length + 1 := by rw [insR_len]; simp
     have hmp3 : ((a :: A).reverse ++ x :: (B ++ r)).map nD = ((insR (priceF y) x R).reverse ++ r).map nD := by rw [hins']; simp
     refine Again.av (insR (priceF y) x R, r) ⟨hgo, by rw [insR_len]; dsimp only; omega, fun z hz => (insR_mem.1 hz).elim (fun e => e ▸ hxP) (hR z), fun z hz => hrest z (List.mem_cons_of_mem _ hz)⟩ (by dsimp only; omega) ?_
     dsimp only
     rw [hil]
     exact (by refine ⟨?_, ?_, rfl⟩<;>(repeat' (first|exact True.intro|exact rfl|(refine ⟨?_,?_⟩)|(intro h;cases h;done)|(simp;done)|exact hmp3|fail));done)
theorem xv_stable {y : Yd} {l : List Bt} {vol room : List Int} {fl : List (List Int)} (s : List Nat) (hs : ∀ x ∈ s, x < y.pits.length) (hl : s.length ≤ 8) :
 EvX Try.prog 107 [.own 1010 1 (s.map nD).length, .d (iD s.length), .fnv 87 [.box 1011]]
  (tkX y l vol room fl ++ cmX ++ [(1010, .row 3 1 (s.map nD) false)]) (.tup []) (tkX y l vol room fl ++ cmX ++ [(1010, .row 3 1 ((sortGo (priceF y) [] s).map nD) false)]) := by
 have hI := xv_insert (l := l) (vol := vol) (room := room) (fl := fl) s hs hl
 have hsl : (s.map nD).length = s.length := List.length_map _
 unfold tkX cmX at hI ⊢
 refine evx_of_awp tysOk mixed (fn := Try.f107) Try.func107 rfl rfl rfl ?_
 conv => whnf
 skip
 refine LoopK.unr 1 ?_
 conv => whnf
 repeat' (first|((with_reducible refine Split.dec (fun _=>?_) (fun _=>?_))<;>conv=>whnf)|((with_reducible refine AltK.r ?_);(conv=>whnf);(first|(refine CallX.mk _ _ (hI) rfl ?_));conv=>whnf)|(exfalso;first|omega|contradiction)|fail)
 refine LoopK.unr 1 ?_
 conv => whnf
 repeat' (first|((with_reducible refine Split.dec (fun _=>?_) (fun _=>?_))<;>conv=>whnf)|((with_reducible refine Wr.inr ?_ ?_);(first|omega|(simp;omega));conv=>whnf)|(exfalso;first|omega|contradiction)|fail)
 exact ⟨⟨[], (by refine ⟨?_, ?_, rfl⟩<;>(repeat' (first|exact True.intro|exact rfl|(refine ⟨?_,?_⟩)|(intro h;cases h;done)|(simp;done)|fail));done)⟩, rfl⟩
theorem xv_sortStable {y : Yd} {l : List Bt} {vol room : List Int} {fl : List (List Int)} (s : List Nat) (hs : ∀ x ∈ s, x < y.pits.length) (hl : s.length ≤ 8) :
 EvX Try.prog 86 [.own 1010 1 (s.map nD).length, .fnv 87 [.box 1011]]
  (tkX y l vol room fl ++ cmX ++ [(1010, .row 3 1 (s.map nD) false)]) (.tup []) (tkX y l vol room fl ++ cmX ++ [(1010, .row 3 1 ((sortGo (priceF y) [] s).map nD) false)]) := by
 have hI := xv_stable (l := l) (vol := vol) (room := room) (fl := fl) s hs hl
 have hsl : (s.map nD).length = s.length := List.length_map _
 rw [← hsl] at hI
 unfold tkX cmX at hI ⊢
 refine evx_of_awp tysOk mixed (fn := Try.f86) Try.func86 rfl rfl rfl ?_
 conv => whnf
 repeat' (first|((with_reducible refine AltK.r ?_);(conv=>whnf);(first|(refine CallX.mk _ _ (hI) rfl ?_));conv=>whnf)|fail)
 exact ⟨⟨[], (by refine ⟨?_, ?_, rfl⟩<;>(repeat' (first|exact True.intro|exact rfl|(refine ⟨?_,?_⟩)|(intro h;cases h;done)|(simp;done)|fail));done)⟩, rfl⟩
end Go.Proofs.Try
end

section
namespace Go.Proofs.Try
open Go Go.Vm
set_option maxRecDepth 20000
set_option maxHeartbeats 8000000
/-! The task: solve. -/
theorem TkOk.with {y : Yd} {l : List Bt} {vol room : List Int} {fl fl' : List (List Int)} (h : TkOk y l vol room fl) (h1 : fl'.length = fl.length) (h2 : ∀ r ∈ fl', r.length = y.pits.length) (h3 : okFl fl' = true) : TkOk y l vol room fl' :=
 ⟨h.hP, h.hL, h.hv, h.hr, h1.trans h.hf, h2, h.vb, h.rb, h3, h.cl⟩
theorem xv_push {y : Yd} {l : List Bt} {vol room : List Int} {fl : List (List Int)} (h : TkOk y l vol room fl) {n : Nat} (hn : n ≤ 1000) {pit : Nat} (hp : pit < y.pits.length) {r : Option (List (List Int))} (hr : pushF (accF y l) y.pits.length l.length n vol room fl pit = some r) :
 EvX Try.prog 89 [.ptr 1000 0, .d (iD pit)] (tkX y l vol room fl) (.d (.bool r.isSome)) (tkX y l vol room (r.getD fl)) ∧ TkOk y l vol room (r.getD fl) := by
 unfold pushF at hr
 cases hw : reachF (accF y l) y.pits.length l.length n vol fl with
 | none => rw [hw] at hr; cases hr
 | some w =>
  rw [hw] at hr
  simp only at hr
  split at hr
  ·rename_i hno
   cases hr
   exact ⟨xv_pushNo h hw hn hp hno, h⟩
  ·rename_i hno
   rw [not_or] at hno
   split at hr
   ·cases hr
   ·rename_i st a hpa
    split at hr
    ·cases hr
    ·rename_i fl' hap
     cases hr
     obtain ⟨k1, k2, k3⟩ := apF_keep hap h.fb h.row
     exact ⟨xv_pushYes h hw hn hp (by simpa using hno.1) hno.2 hpa hap, h.with k1 k2 k3⟩
def doneF (L : Nat) (vol : List Int) (fl : List (List Int)) : Bool := (List.range L).all fun b => !decide (0 < leftF vol fl b)
theorem sortGo_mem {pr : Nat → Int} {z : Nat} : ∀ {s R : List Nat}, z ∈ sortGo pr R s ↔ z ∈ R ∨ z ∈ s
 | [], R => by simp [sortGo]
 | x :: r, R => by
  rw [sortGo, sortGo_mem (s := r), insR_mem, List.mem_cons]
  constructor
  ·rintro ((h | h) | h)
   ·exact .inr (.inl h)
   ·exact .inl h
   ·exact .inr (.inr h)
  ·rintro (h | h | h)
   ·exact .inl (.inr h)
   ·exact .inl (.inl h)
   ·exact .inr h
theorem sortGo_len {pr : Nat → Int} : ∀ {s R : List Nat}, (sortGo pr R s).length = R.length + s.length
 | [], R => by simp [sortGo]
 | x :: r, R => by rw [sortGo, sortGo_len (s := r), insR_len, List.length_cons]; omega
theorem fills_at {acc : Nat → Nat → Bool} {P L n k : Nat} {vol room : List Int} {p : Nat} {r : List Nat} {fl fl' : List (List Int)} (h : fillsF acc P L n k vol room (p :: r) fl = some fl') :
 ∃ fm, fillF acc P L n vol room p k fl = some fm ∧ fillsF acc P L n k vol room r fm = some fl' := by
 rw [fillsF] at h
 split at h
 ·cases h
 ·rename_i fm hm
  exact ⟨fm, hm, h⟩
theorem fill_at {acc : Nat → Nat → Bool} {P L n : Nat} {vol room : List Int} {p k : Nat} {fl fl' : List (List Int)} (h : fillF acc P L n vol room p k fl = some fl') :
 ∃ m r, k = m + 1 ∧ pushF acc P L n vol room fl p = some r ∧ ((r = none ∧ fl' = fl) ∨ ∃ f, r = some f ∧ fillF acc P L n vol room p m f = some fl') := by
 cases k with
 | zero => rw [fillF] at h; cases h
 | succ m =>
  rw [fillF] at h
  split at h
  ·cases h
  ·rename_i hp
   cases h
   exact ⟨m, _, rfl, hp, .inl ⟨rfl, rfl⟩⟩
  ·rename_i f hp
   exact ⟨m, _, rfl, hp, .inr ⟨f, rfl, h⟩⟩
theorem fill_ok {y : Yd} {l : List Bt} {vol room : List Int} {n : Nat} (hn : n ≤ 1000) {p : Nat} (hp : p < y.pits.length) {fl' : List (List Int)} : ∀ {k : Nat} {fl : List (List Int)}, TkOk y l vol room fl → fillF (accF y l) y.pits.length l.length n vol room p k fl = some fl' → TkOk y l vol room fl'
 | 0, _, _, hf => by rw [fillF] at hf; cases hf
 | k + 1, fl, h, hf => by
  obtain ⟨m, r, hm, hr, hor⟩ := fill_at hf
  have hko := (xv_push h hn hp hr).2
  rcases hor with ⟨rfl, rfl⟩ | ⟨f, rfl, hf'⟩
  ·exact hko
  ·have hm : k = m := by omega
   subst hm
   exact fill_ok hn hp hko hf'
theorem fills_ok {y : Yd} {l : List Bt} {vol room : List Int} {n k : Nat} (hn : n ≤ 1000) {fl' : List (List Int)} : ∀ {s : List Nat} {fl : List (List Int)}, (∀ p ∈ s, p < y.pits.length) → TkOk y l vol room fl → fillsF (accF y l) y.pits.length l.length n k vol room s fl = some fl' → TkOk y l vol room fl'
 | [], fl, _, h, hf => by rw [fillsF] at hf; cases hf; exact h
 | p :: r, fl, hs, h, hf => by
  obtain ⟨fm, h1, h2⟩ := fills_at hf
  exact fills_ok hn (fun q hq => hs q (List.mem_cons_of_mem _ hq)) (fill_ok hn (hs p (by simp)) h h1) h2
theorem xv_solve {y : Yd} {l : List Bt} {vol room : List Int} {fl fl' : List (List Int)} (h : TkOk y l vol room fl) {n k : Nat} (hn : n ≤ 1000)
 (hf : fillsF (accF y l) y.pits.length l.length n k vol room (sortGo (priceF y) [] (List.range y.pits.length)) fl = some fl') :
 EvX Try.prog 42 [.ptr 1000 0] (tkX y l vol room fl) (.d (.bool (doneF l.length vol fl'))) (tkX y l vol room fl') := by
 have e1 := h.hv
 have e2 := h.hf
 have e3 := h.hL
 have e4 := h.hP
 have hlp : (y.pits.map ptD).length = y.pits.length := List.length_map _
 have hll : (l.map btD).length = l.length := List.length_map _
 have hS := xv_sortStable (y := y) (l := l) (vol := vol) (room := room) (fl := fl) (List.range y.pits.length) (fun x hx => List.mem_range.1 hx) (by rw [List.length_range]; exact e4)
 have hSm : ∀ z ∈ sortGo (priceF y) [] (List.range y.pits.length), z < y.pits.length := fun z hz => by
  rcases sortGo_mem.1 hz with h | h
  ·simp at h
  ·exact List.mem_range.1 h
 have hSl : (sortGo (priceF y) [] (List.range y.pits.length)).length = y.pits.length := by rw [sortGo_len]; simp
 have efl := (fills_ok hn hSm h hf).hf
 unfold tkX cmX at hS
 rw [h.hf] at hS
 have hS := hS.rn [(1010, 200), (1011, 1)] rfl
 replace hS : EvX Try.prog 86 [.own 200 1 ((List.range y.pits.length).map nD).length, .fnv 87 [.box 1]]
  [(1003, .mat 25 3 0 (fl.map fun r => some (r.map iD))), (1002, .row 3 1 (room.map iD) false), (1001, .row 3 1 (vol.map iD) false),
   (1000, .var [.d (.sl 6 (y.pits.map ptD)), .d (.sl 3 (y.bulk.map bkD)), .d (.sl 3 (y.deps.map dpD)), .d (.sl 1 (y.carry.map iD)), .d (.sl 5 (l.map btD)), .own 1001 1 (vol.map iD).length, .own 1002 1 (room.map iD).length, .own 1003 1 l.length] false), (1, .var [.ptr 1000 0] false), (200, .row 3 1 ((List.range y.pits.length).map nD) false)]
  (.tup [])
  [(1003, .mat 25 3 0 (fl.map fun r => some (r.map iD))), (1002, .row 3 1 (room.map iD) false), (1001, .row 3 1 (vol.map iD) false),
   (1000, .var [.d (.sl 6 (y.pits.map ptD)), .d (.sl 3 (y.bulk.map bkD)), .d (.sl 3 (y.deps.map dpD)), .d (.sl 1 (y.carry.map iD)), .d (.sl 5 (l.map btD)), .own 1001 1 (vol.map iD).length, .own 1002 1 (room.map iD).length, .own 1003 1 l.length] false), (1, .var [.ptr 1000 0] false), (200, .row 3 1 ((sortGo (priceF y) [] (List.range y.pits.length)).map nD) false)] := hS
 generalize sortGo (priceF y) [] (List.range y.pits.length) = ss at *
 unfold tkX
 rw [h.hf, efl]
 refine evx_of_awp tysOk mixed (fn := Try.f42) Try.func42 rfl rfl rfl ?_
 conv => whnf
 skip
 refine LoopK.o3 (fun i : Nat => i ≤ y.pits.length) (fun i => [(3, .own 200 1 ((List.range i).map nD).length), (14, .d (iD i))]) (fun i => [(200, .row 3 1 ((List.range i).map nD) false)]) (fun i => y.pits.length - i) 0 (by omega) (by refine ⟨?_, ?_, rfl⟩<;>(repeat' (first|exact True.intro|exact rfl|(refine ⟨?_,?_⟩)|(intro h;cases h;done)|(simp;done)|fail));done) ?_
 rintro i hi
 dsimp only at hi ⊢
 have hri : ((List.range i).map nD).length = i := by simp
 by_cases hil : i < y.pits.length
 ·have hmp1 : (List.range i).map nD ++ iD (i : Int) :: List.replicate 0 (D.int .i64 0) = (List.range (i + 1)).map nD := by rw [List.range_succ]; simp [nD]
  conv => whnf
  repeat' (first|((with_reducible refine Split.dec (fun _=>?_) (fun _=>?_))<;>conv=>whnf)|((with_reducible refine Need.mk ?_ ?_);(first|omega|rfl|decide|(refine ⟨?_,?_⟩<;>simp<;>omega)|(simp;omega));conv=>whnf)|((with_reducible refine Wr.inr ?_ ?_);(first|omega|(simp;omega));conv=>whnf)|(exfalso;first|omega|contradiction)|fail)
  exact Again.av (i + 1) (by omega) (by omega) (by refine ⟨?_, ?_, rfl⟩<;>(repeat' (first|exact True.intro|exact rfl|(refine ⟨?_,?_⟩)|(intro h;cases h;done)|(refine own_congr ?_;simp;done)|(simp;done)|exact hmp1|fail));done)
 ·have hie : i = y.pits.length := by omega
  subst hie
  conv => whnf
  repeat' (first|((with_reducible refine Split.dec (fun _=>?_) (fun _=>?_))<;>conv=>whnf)|((with_reducible refine Need.mk ?_ ?_);(first|omega|rfl|decide|(refine ⟨?_,?_⟩<;>simp<;>omega)|(simp;omega));conv=>whnf)|((with_reducible refine Wr.inr ?_ ?_);(first|omega|(simp;omega));conv=>whnf)|((with_reducible refine AltK.r ?_);(conv=>whnf);(first|(refine CallX.mk _ _ (hS) rfl ?_));conv=>whnf)|(exfalso;first|omega|contradiction)|fail)
  clear hS
  have hsl : (ss.map nD).length = ss.length := List.length_map _
  refine LoopK.o3 (fun x : Nat × List (List Int) => x.1 ≤ ss.length ∧ fillsF (accF y l) y.pits.length l.length n k vol room (ss.drop x.1) x.2 = some fl' ∧ TkOk y l vol room x.2)
   (fun x => [(27, .d (iD x.1))]) (fun x => [(1003, .mat 25 3 0 (x.2.map fun r => some (r.map iD)))]) (fun x => ss.length - x.1) (0, fl) ⟨by omega, hf, h⟩ (by refine ⟨?_, ?_, rfl⟩<;>(repeat' (first|exact True.intro|exact rfl|(refine ⟨?_,?_⟩)|(intro h;cases h;done)|(simp;done)|fail));done) ?_
  rintro ⟨j, fc⟩ ⟨hj, hfc, hk⟩
  dsimp only at hj hfc hk ⊢
  by_cases hjl : j < ss.length
  ·obtain ⟨p, hp⟩ := some_of_lt hjl
   have hpP := hSm p (List.mem_of_getElem? hp)
   rw [drop_of hp] at hfc
   obtain ⟨fm, hfm, hfc'⟩ := fills_at hfc
   conv => whnf
   repeat' (first|((refine PickE.map j hp (by omega) ?_);conv=>whnf)|((with_reducible refine Split.dec (fun _=>?_) (fun _=>?_))<;>conv=>whnf)|((with_reducible refine Need.mk ?_ ?_);(first|omega|rfl|decide|(refine ⟨?_,?_⟩<;>simp<;>omega)|(simp;omega));conv=>whnf)|(exfalso;first|omega|contradiction)|fail)
   refine LoopK.o3 (fun x : Nat × List (List Int) => fillF (accF y l) y.pits.length l.length n vol room p x.1 x.2 = some fm ∧ TkOk y l vol room x.2)
    (fun _ => []) (fun x => [(1003, .mat 25 3 0 (x.2.map fun r => some (r.map iD)))]) (fun x => x.1) (k, fc) ⟨hfm, hk⟩ (by refine ⟨?_, ?_, rfl⟩<;>(repeat' (first|exact True.intro|exact rfl|(refine ⟨?_,?_⟩)|(intro h;cases h;done)|(simp;done)|fail));done) ?_
   rintro ⟨m, fd⟩ ⟨hfd, hkd⟩
   dsimp only at hfd hkd ⊢
   obtain ⟨m', r, rfl, hr, hor⟩ := fill_at hfd
   obtain ⟨hc, hko⟩ := xv_push hkd hn hpP hr
   unfold tkX at hc
   rw [hkd.hf, hko.hf] at hc
   rcases hor with ⟨rfl, rfl⟩ | ⟨f, rfl, hf'⟩
   ·conv => whnf
    repeat' (first|((with_reducible refine Split.is_false ?_ ?_);decide;conv=>whnf)|((with_reducible refine Wr.inr ?_ ?_);(first|omega|(simp;omega));conv=>whnf)|((with_reducible refine AltK.r ?_);(conv=>whnf);(first|(refine CallX.mk _ _ (hc) rfl ?_));conv=>whnf)|fail)
    refine Again.av (j + 1, fm) ⟨by dsimp only; omega, hfc', hkd⟩ (by dsimp only; omega) ?_
    exact (by refine ⟨?_, ?_, rfl⟩<;>(repeat' (first|exact True.intro|exact rfl|(refine ⟨?_,?_⟩)|(intro h;cases h;done)|(simp;done)|fail));done)
   ·conv => whnf
    repeat' (first|((with_reducible refine Split.mk (fun _=>?_) (fun _=>?_))<;>conv=>whnf)|((with_reducible refine Wr.inr ?_ ?_);(first|omega|(simp;omega));conv=>whnf)|((with_reducible refine AltK.r ?_);(conv=>whnf);(first|(refine CallX.mk _ _ (hc) rfl ?_));conv=>whnf)|(exfalso;first|omega|contradiction)|fail)
    refine Again.av (m', f) ⟨hf', hko⟩ (by dsimp only; omega) ?_
    exact (by refine ⟨?_, ?_, rfl⟩<;>(repeat' (first|exact True.intro|exact rfl|(refine ⟨?_,?_⟩)|(intro h;cases h;done)|(simp;done)|fail));done)
  ·have hje : j = ss.length := by omega
   subst hje
   rw [List.drop_length, fillsF] at hfc
   cases hfc
   conv => whnf
   repeat' (first|((with_reducible refine Split.dec (fun _=>?_) (fun _=>?_))<;>conv=>whnf)|((with_reducible refine Need.mk ?_ ?_);(first|omega|rfl|decide|(refine ⟨?_,?_⟩<;>simp<;>omega)|(simp;omega));conv=>whnf)|(exfalso;first|omega|contradiction)|fail)
   refine LoopK.o3 (fun b : Nat => b ≤ l.length ∧ (List.range b).all (fun b => !decide (0 < leftF vol fl' b)) = true) (fun b => [(40, .d (iD b))]) (fun _ => []) (fun b => l.length - b) 0 ⟨by omega, rfl⟩ (by refine ⟨?_, ?_, rfl⟩<;>(repeat' (first|exact True.intro|exact rfl|(refine ⟨?_,?_⟩)|(intro h;cases h;done)|(simp;done)|fail));done) ?_
   rintro b ⟨hb, hall⟩
   dsimp only at hb hall ⊢
   by_cases hbl : b < l.length
   ·have hc := xv_left hk hbl
    unfold tkX at hc
    rw [hk.hf] at hc
    by_cases hz : 0 < leftF vol fl' b
    ·have hd : doneF l.length vol fl' = false := by
      rw [doneF, List.all_eq_false]
      exact ⟨b, List.mem_range.2 hbl, by simpa using hz⟩
     rw [hd]
     generalize leftF vol fl' b = z at *
     conv => whnf
     repeat' (first|((with_reducible refine Split.dec (fun _=>?_) (fun _=>?_))<;>conv=>whnf)|((with_reducible refine Wr.inr ?_ ?_);(first|omega|(simp;omega));conv=>whnf)|((with_reducible refine AltK.r ?_);(conv=>whnf);(first|(refine CallX.mk _ _ (hc) rfl ?_));conv=>whnf)|(exfalso;first|omega|contradiction)|fail)
     all_goals first
      | exact ⟨⟨[], (by refine ⟨?_, ?_, rfl⟩<;>(repeat' (first|exact True.intro|exact rfl|(refine ⟨?_,?_⟩)|(intro h;cases h;done)|(simp;done)|fail));done)⟩, rfl⟩
      |(exfalso; omega)
    ·have hn' : (List.range (b + 1)).all (fun b => !decide (0 < leftF vol fl' b)) = true := by
      rw [List.range_succ, List.all_append, hall]; simpa using hz
     generalize leftF vol fl' b = z at *
     conv => whnf
     repeat' (first|((with_reducible refine Split.dec (fun _=>?_) (fun _=>?_))<;>conv=>whnf)|((with_reducible refine Wr.inr ?_ ?_);(first|omega|(simp;omega));conv=>whnf)|((with_reducible refine AltK.r ?_);(conv=>whnf);(first|(refine CallX.mk _ _ (hc) rfl ?_));conv=>whnf)|(exfalso;first|omega|contradiction)|fail)
     all_goals first
      | exact Again.av (b + 1) ⟨by omega, hn'⟩ (by omega) (by refine ⟨?_, ?_, rfl⟩<;>(repeat' (first|exact True.intro|exact rfl|(refine ⟨?_,?_⟩)|(intro h;cases h;done)|(simp;done)|fail));done)
      |(exfalso; omega)
   ·have hbe : b = l.length := by omega
    subst hbe
    have hd : doneF l.length vol fl' = true := hall
    rw [hd]
    conv => whnf
    repeat' (first|((with_reducible refine Split.dec (fun _=>?_) (fun _=>?_))<;>conv=>whnf)|(exfalso;first|omega|contradiction)|fail)
    exact ⟨⟨[], (by refine ⟨?_, ?_, rfl⟩<;>(repeat' (first|exact True.intro|exact rfl|(refine ⟨?_,?_⟩)|(intro h;cases h;done)|(simp;done)|fail));done)⟩, rfl⟩
end Go.Proofs.Try
end

section
namespace Go.Proofs.Try
open Go Go.Vm
set_option maxRecDepth 20000
set_option maxHeartbeats 8000000
/-! The task: the assignment, its cost. -/
structure Al where
 n : Int
 pit : ByteArray
 vol : Int
def alD (a : Al) : D := .agg [iD a.n, .str a.pit, iD a.vol]
def numF (l : List Bt) (b : Nat) : Int := match l[b]? with
 | some x => x.n
 | none => 0
def nameF (y : Yd) (p : Nat) : ByteArray := match y.pits[p]? with
 | some q => q.name
 | none => ⟨#[]⟩
def cellA (y : Yd) (l : List Bt) (fl : List (List Int)) (b p : Nat) : Option Al := if 0 < cellZ fl b p then some ⟨numF l b, nameF y p, cellZ fl b p⟩ else none
def rowA (y : Yd) (l : List Bt) (fl : List (List Int)) (b k : Nat) : List Al := (List.range k).filterMap (cellA y l fl b)
def allF (y : Yd) (l : List Bt) (fl : List (List Int)) (i : Nat) : List Al := (List.range i).flatMap fun b => rowA y l fl b y.pits.length
theorem rowA_succ {y : Yd} {l : List Bt} {fl : List (List Int)} {b k : Nat} : rowA y l fl b (k + 1) = rowA y l fl b k ++ if 0 < cellZ fl b k then [⟨numF l b, nameF y k, cellZ fl b k⟩] else [] := by
 rw [rowA, List.range_succ, List.filterMap_append, rowA]
 congr 1
 simp only [List.filterMap_cons, cellA, List.filterMap_nil]
 split <;> rename_i h <;> split at h <;> simp_all
theorem rowA_len {y : Yd} {l : List Bt} {fl : List (List Int)} {b k : Nat} : (rowA y l fl b k).length ≤ k := by
 have := List.length_filterMap_le (cellA y l fl b) (List.range k)
 rwa [List.length_range] at this
theorem allF_succ {y : Yd} {l : List Bt} {fl : List (List Int)} {i : Nat} : allF y l fl (i + 1) = allF y l fl i ++ rowA y l fl i y.pits.length := by
 rw [allF, List.range_succ, List.flatMap_append, allF]; simp
theorem allF_len {y : Yd} {l : List Bt} {fl : List (List Int)} (h : y.pits.length ≤ 8) : ∀ i, (allF y l fl i).length ≤ 8 * i
 | 0 => by simp [allF]
 | i + 1 => by
  rw [allF_succ, List.length_append]
  have := allF_len (l := l) (fl := fl) h i
  have := rowA_len (y := y) (l := l) (fl := fl) (b := i) (k := y.pits.length)
  omega
theorem xv_allots {y : Yd} {l : List Bt} {vol room : List Int} {fl : List (List Int)} (h : TkOk y l vol room fl) :
 EvX Try.prog 43 [.ptr 1000 0] (tkX y l vol room fl) (.own 9 3 ((allF y l fl l.length).map alD).length) (tkX y l vol room fl ++ [(9, .row 106 3 ((allF y l fl l.length).map alD) false)]) := by
 have e1 := h.hv
 have e2 := h.hf
 have e3 := h.hL
 have e4 := h.hP
 have hlp : (y.pits.map ptD).length = y.pits.length := List.length_map _
 have hll : (l.map btD).length = l.length := List.length_map _
 have hlf : (fl.map fun r => some (r.map iD)).length = fl.length := List.length_map _
 unfold tkX
 refine evx_of_awp tysOk mixed (fn := Try.f43) Try.func43 rfl rfl rfl ?_
 conv => whnf
 skip
 refine LoopK.o3 (fun i : Nat => i ≤ l.length) (fun i => [(3, .own 200 3 ((allF y l fl i).map alD).length), (13, .d (iD i))]) (fun i => [(200, .row 106 3 ((allF y l fl i).map alD) false)]) (fun i => l.length - i) 0 (by omega) (by refine ⟨?_, ?_, rfl⟩<;>(repeat' (first|exact True.intro|exact rfl|(refine ⟨?_,?_⟩)|(intro h;cases h;done)|(simp;done)|fail));done) ?_
 rintro i hi
 dsimp only at hi ⊢
 have hAl := allF_len (l := l) (fl := fl) e4 i
 have hAm : ((allF y l fl i).map alD).length = (allF y l fl i).length := List.length_map _
 by_cases hil : i < l.length
 ·obtain ⟨b, hb⟩ := some_of_lt hil
  obtain ⟨row, hrow⟩ := some_of_lt (show i < fl.length by omega)
  have hrm := List.mem_of_getElem? hrow
  have hrl := h.row row hrm
  have hlr : (row.map iD).length = row.length := List.length_map _
  have hst := allF_succ (y := y) (l := l) (fl := fl) (i := i)
  generalize allF y l fl i = A at *
  have hmp0 : A.map alD = (A ++ rowA y l fl i 0).map alD := by simp [rowA]
  have hnb : numF l i = b.n := by simp [numF, hb]
  conv => whnf
  repeat' (first|((refine PickR.map i hrow (by omega) ?_);conv=>whnf)|((with_reducible refine Split.dec (fun _=>?_) (fun _=>?_))<;>conv=>whnf)|((with_reducible refine Need.mk ?_ ?_);(first|omega|rfl|decide|(refine ⟨?_,?_⟩<;>simp<;>omega)|(simp;omega));conv=>whnf)|(exfalso;first|omega|contradiction)|fail)
  refine LoopK.o3 (fun k : Nat => k ≤ y.pits.length) (fun k => [(3, .own 200 3 ((A ++ rowA y l fl i k).map alD).length), (20, .d (iD k)), (18, .sub 1003 0 (i : Int).toNat)]) (fun k => [(200, .row 106 3 ((A ++ rowA y l fl i k).map alD) false)]) (fun k => y.pits.length - k) 0 (by omega) (by refine ⟨?_, ?_, rfl⟩<;>(repeat' (first|exact True.intro|exact rfl|(refine ⟨?_,?_⟩)|(intro h;cases h;done)|(simp;done)|exact hmp0|((first|refine own_congr ?_|refine int_congr ?_|skip);simp [rowA];done)|fail));done) ?_
  rintro k hk
  dsimp only at hk ⊢
  by_cases hkl : k < y.pits.length
  ·obtain ⟨q, hq⟩ := some_of_lt hkl
   obtain ⟨x, hx⟩ := some_of_lt (show k < row.length by omega)
   have hcx : cellZ fl i k = x := by simp [cellZ, List.getD, hrow, hx]
   have hnq : nameF y k = q.name := by simp [nameF, hq]
   have hs := rowA_succ (y := y) (l := l) (fl := fl) (b := i) (k := k)
   rw [hcx, hnb, hnq] at hs
   have hRl := rowA_len (y := y) (l := l) (fl := fl) (b := i) (k := k)
   generalize rowA y l fl i k = R at *
   have hRm : ((A ++ R).map alD).length = A.length + R.length := by simp
   by_cases hx0 : 0 < x
   ·rw [if_pos hx0] at hs
    have hmp1 : ∀ z : D, (A ++ R).map alD ++ D.agg [iD b.n, .str q.name, iD x] :: List.replicate 0 z = (A ++ rowA y l fl i (k + 1)).map alD := fun z => by rw [hs]; simp [alD]
    conv => whnf
    repeat' (first|((refine PickE.map k hq (by omega) ?_);conv=>whnf)|((refine PickE.map i hb (by omega) ?_);conv=>whnf)|((refine PickE.map k hx (by omega) ?_);conv=>whnf)|((refine PickR.map i hrow (by omega) ?_);conv=>whnf)|((with_reducible refine Split.dec (fun _=>?_) (fun _=>?_))<;>conv=>whnf)|((with_reducible refine Need.mk ?_ ?_);(first|omega|rfl|decide|(refine ⟨?_,?_⟩<;>simp<;>omega)|(simp;omega));conv=>whnf)|((with_reducible refine Wr.inr ?_ ?_);(first|omega|(simp;omega));conv=>whnf)|(exfalso;first|omega|contradiction)|fail)
    all_goals first
     |(exfalso; omega)
     | skip
    refine Again.av (k + 1) (by omega) (by omega) ?_
    exact (by refine ⟨?_, ?_, rfl⟩<;>(repeat' (first|exact True.intro|exact rfl|(refine ⟨?_,?_⟩)|(intro h;cases h;done)|(simp;done)|exact hmp1 _|((first|refine own_congr ?_|refine int_congr ?_);simp [hs];omega)|fail));done)
   ·rw [if_neg hx0, List.append_nil] at hs
    conv => whnf
    repeat' (first|((refine PickE.map k hx (by omega) ?_);conv=>whnf)|((refine PickR.map i hrow (by omega) ?_);conv=>whnf)|((with_reducible refine Split.dec (fun _=>?_) (fun _=>?_))<;>conv=>whnf)|((with_reducible refine Need.mk ?_ ?_);(first|omega|rfl|decide|(refine ⟨?_,?_⟩<;>simp<;>omega)|(simp;omega));conv=>whnf)|((with_reducible refine Wr.inr ?_ ?_);(first|omega|(simp;omega));conv=>whnf)|(exfalso;first|omega|contradiction)|fail)
    all_goals first
     |(exfalso; omega)
     | skip
    refine Again.av (k + 1) (by omega) (by omega) ?_
    rw [hs]
    exact (by refine ⟨?_, ?_, rfl⟩<;>(repeat' (first|exact True.intro|exact rfl|(refine ⟨?_,?_⟩)|(intro h;cases h;done)|(simp;done)|fail));done)
  ·have hke : k = y.pits.length := by omega
   subst hke
   rw [← hst]
   conv => whnf
   repeat' (first|((with_reducible refine Split.dec (fun _=>?_) (fun _=>?_))<;>conv=>whnf)|((with_reducible refine Need.mk ?_ ?_);(first|omega|rfl|decide|(refine ⟨?_,?_⟩<;>simp<;>omega)|(simp;omega));conv=>whnf)|((with_reducible refine Wr.inr ?_ ?_);(first|omega|(simp;omega));conv=>whnf)|(exfalso;first|omega|contradiction)|fail)
   exact Again.av (i + 1) (by omega) (by omega) (by refine ⟨?_, ?_, rfl⟩<;>(repeat' (first|exact True.intro|exact rfl|(refine ⟨?_,?_⟩)|(intro h;cases h;done)|(simp;done)|fail));done)
 ·have hie : i = l.length := by omega
  subst hie
  conv => whnf
  repeat' (first|((with_reducible refine Split.dec (fun _=>?_) (fun _=>?_))<;>conv=>whnf)|((with_reducible refine Need.mk ?_ ?_);(first|omega|rfl|decide|(refine ⟨?_,?_⟩<;>simp<;>omega)|(simp;omega));conv=>whnf)|(exfalso;first|omega|contradiction)|fail)
  exact ⟨⟨[(9, some 200)], (by refine ⟨?_, ?_, rfl⟩<;>(repeat' (first|exact True.intro|exact rfl|(refine ⟨?_,?_⟩)|(intro h;cases h;done)|(simp;done)|fail));done)⟩, rfl⟩
theorem sum_nn : ∀ {l : List Int}, (∀ x ∈ l, 0 ≤ x) → 0 ≤ l.sum
 | [], _ => by simp
 | x :: r, h => by
  have h1 := h x (by simp)
  have h2 := sum_nn (l := r) fun z hz => h z (by simp [hz])
  rw [List.sum_cons]; omega
end Go.Proofs.Try
end

section
namespace Go.Proofs.Try
open Go Go.Vm
set_option maxRecDepth 20000
set_option maxHeartbeats 8000000
/-! The task: the tariff. -/
structure TfOk (P L : Nat) (B : Int) (s : Tf) : Prop where
 bl : s.bs.length = L
 pl : s.ps.length = P
 bb : ∀ x ∈ s.bs, -B ≤ x ∧ x ≤ B
 pb : ∀ x ∈ s.ps, -B ≤ x ∧ x ≤ B
theorem TfOk.mono {P L : Nat} {B B' : Int} {s : Tf} (h : TfOk P L B s) (hB : B ≤ B') : TfOk P L B' s :=
 ⟨h.bl, h.pl, fun x hx => by have := h.bb x hx; omega, fun x hx => by have := h.pb x hx; omega⟩
end Go.Proofs.Try
end

section
namespace Go.Proofs.Try
open Go Go.Vm
set_option maxRecDepth 20000
set_option maxHeartbeats 8000000
/-! The task: checkList; begin. -/
def lsGo (y : Yd) (q : Int → Bool) : List Bt → List Bt → Int
 | _, [] => 0
 | o, b :: r => if batErr y b ≠ 0 then batErr y b else if o.any (fun x => x.n == b.n) = true then 5 else if q b.n = true then 5 else lsGo y q (o ++ [b]) r
def lsErr (y : Yd) (l : List Bt) (most : Nat) (q : Int → Bool) : Int := if ydErr y ≠ 0 then ydErr y else if most < l.length then 8 else lsGo y q [] l
theorem lsGo_at {y : Yd} {q : Int → Bool} {l : List Bt} {i : Nat} {b : Bt} (h : l[i]? = some b) : lsGo y q (l.take i) (l.drop i) =
 if batErr y b ≠ 0 then batErr y b else if (l.take i).any (fun x => x.n == b.n) = true then 5 else if q b.n = true then 5 else lsGo y q (l.take (i + 1)) (l.drop (i + 1)) := by
 rw [drop_of h, lsGo, take_snoc h]
theorem ev_checkList (y : Yd) (l : List Bt) (most : Nat) (f : Nat) (caps : List D) (q : Int → Bool) (hs : smallP y) (hl : l.length ≤ 1000000) (hq : ∀ b ∈ l, Ev Try.prog f ([iD b.n] ++ caps) (.bool (q b.n))) :
 Ev Try.prog 84 [ydD y, .sl 5 (l.map btD), iD most, .fn f caps] (iD (lsErr y l most q)) := by
 have hll : (l.map btD).length = l.length := List.length_map _
 have h1 := ev_DCheck y hs
 unfold lsErr
 by_cases h0 : ydErr y = 0
 case neg =>
  rw [if_pos h0]
  generalize ydErr y = er at *
  refine ev_of_awp tysOk mixed (fn := Try.f84) Try.func84 rfl rfl rfl ?_
  conv => whnf
  repeat' (first|((with_reducible refine Split.nez (fun _=>?_) (fun _=>?_))<;>conv=>whnf)|((with_reducible refine Split.dec (fun _=>?_) (fun _=>?_))<;>conv=>whnf)|((with_reducible refine AltK.l ?_);(conv=>whnf);(first|(refine CallK.mk _ (h1) ?_));conv=>whnf)|(exfalso;first|omega|contradiction)|fail)
  all_goals first
   | rfl
   |(exfalso; omega)
 rw [if_neg (by simpa using h0)]
 have hbk := bulk_few h0
 rw [h0] at h1
 by_cases hmo : most < l.length
 ·rw [if_pos hmo]
  refine ev_of_awp tysOk mixed (fn := Try.f84) Try.func84 rfl rfl rfl ?_
  conv => whnf
  repeat' (first|((with_reducible refine Split.is_false ?_ ?_);decide;conv=>whnf)|((with_reducible refine Split.dec (fun _=>?_) (fun _=>?_))<;>conv=>whnf)|((with_reducible refine AltK.l ?_);(conv=>whnf);(first|(refine CallK.mk _ (h1) ?_));conv=>whnf)|(exfalso;first|omega|contradiction)|fail)
  all_goals first
   | rfl
   |(exfalso; omega)
 rw [if_neg hmo]
 have e0 : lsGo y q [] l = lsGo y q (l.take 0) (l.drop 0) := rfl
 refine ev_of_awp tysOk mixed (fn := Try.f84) Try.func84 rfl rfl rfl ?_
 conv => whnf
 repeat' (first|((with_reducible refine Split.is_false ?_ ?_);decide;conv=>whnf)|((with_reducible refine Split.dec (fun _=>?_) (fun _=>?_))<;>conv=>whnf)|((with_reducible refine AltK.l ?_);(conv=>whnf);(first|(refine CallK.mk _ (h1) ?_));conv=>whnf)|(exfalso;first|omega|contradiction)|fail)
 refine LoopK.o2 (fun i : Nat => i ≤ l.length ∧ lsGo y q [] l = lsGo y q (l.take i) (l.drop i)) (fun i => [(26, .d (.int .i64 i))]) (fun i => [(23, .map 3 4 (.int .i64) (seenD Bt.n (l.take i)))]) (fun i => l.length - i) 0 ⟨by omega, e0⟩ (by refine ⟨?_, ?_, rfl⟩<;>(repeat' (first|exact True.intro|exact rfl|(refine ⟨?_,?_⟩)|(intro h;cases h;done)|fail));done) ?_
 rintro i ⟨hi, hp⟩
 by_cases hil : i < l.length
 ·obtain ⟨b, hb⟩ := some_of_lt hil
  rw [lsGo_at hb] at hp
  have w1 := ev_checkBatch y b (by omega)
  have w2 := hq b (List.mem_of_getElem? hb)
  have hm := mget_seen Bt.n b.n (l.take i)
  by_cases hz : batErr y b = 0
  case neg =>
   rw [if_pos hz] at hp
   rw [hp]
   generalize batErr y b = er at *
   conv => whnf
   repeat' (first|((refine PickE.map i hb (by omega) ?_);conv=>whnf)|((with_reducible refine Split.nez (fun _=>?_) (fun _=>?_))<;>conv=>whnf)|((with_reducible refine Split.dec (fun _=>?_) (fun _=>?_))<;>conv=>whnf)|((with_reducible refine Need.mk ?_ ?_);(first|omega|rfl|decide|(refine ⟨?_,?_⟩<;>simp<;>omega)|(simp;omega));conv=>whnf)|((with_reducible refine AltK.l ?_);(conv=>whnf);(first|(refine CallK.mk _ (w1) ?_));conv=>whnf)|(exfalso;first|omega|contradiction)|fail)
   all_goals first
    | rfl
    |(exfalso; omega)
  rw [if_neg (by simpa using hz)] at hp
  rw [hz] at w1
  conv => whnf
  repeat' (first|((refine PickE.map i hb (by omega) ?_);conv=>whnf)|((with_reducible refine Split.is_false ?_ ?_);decide;conv=>whnf)|((with_reducible refine Split.dec (fun _=>?_) (fun _=>?_))<;>conv=>whnf)|((with_reducible refine Need.mk ?_ ?_);(first|omega|rfl|decide|(refine ⟨?_,?_⟩<;>simp<;>omega)|(simp;omega));conv=>whnf)|((with_reducible refine AltK.l ?_);(conv=>whnf);(first|(refine CallK.mk _ (w1) ?_));conv=>whnf)|(exfalso;first|omega|contradiction)|fail)
  refine LookK.mk (fun v hv => ?_) (fun hv => ?_)
  ·rw [hm] at hv
   split at hv
   ·rename_i h3
    cases hv
    rw [if_pos h3] at hp
    rw [hp]
    conv => whnf
    repeat' (first|((with_reducible refine Split.of_true ?_);conv=>whnf)|fail)
    rfl
   ·cases hv
  ·have h3 : ¬ (l.take i).any (fun x => x.n == b.n) = true := fun h => by rw [hm, if_pos h] at hv; cases hv
   rw [if_neg h3] at hp
   have hs := seen_snoc hb hv
   cases hqb : q b.n with
   | true =>
    rw [hqb, if_pos rfl] at hp
    rw [hqb] at w2
    rw [hp]
    conv => whnf
    repeat' (first|((with_reducible first|refine Split.of_true ?_|refine Split.of_false ?_);conv=>whnf)|((with_reducible refine AltK.l ?_);(conv=>whnf);(first|(refine CallK.mk _ (w2) ?_));conv=>whnf)|fail)
    rfl
   | false =>
    rw [hqb, if_neg (by decide)] at hp
    rw [hqb] at w2
    conv => whnf
    repeat' (first|((with_reducible refine Split.of_false ?_);conv=>whnf)|((with_reducible refine Need.mk ?_ ?_);(first|omega|rfl|decide|(refine ⟨?_,?_⟩<;>simp<;>omega)|(simp;omega));conv=>whnf)|((with_reducible refine Wr.inr ?_ ?_);(first|omega|(simp;omega));conv=>whnf)|((with_reducible refine AltK.l ?_);(conv=>whnf);(first|(refine CallK.mk _ (w2) ?_));conv=>whnf)|fail)
    exact Again.au (i + 1) ⟨by omega, hp⟩ (by omega) (by refine ⟨?_, ?_, rfl⟩<;>(repeat' (first|exact True.intro|exact rfl|(refine ⟨?_,?_⟩)|(intro h;cases h;done)|((first|refine own_congr ?_|refine int_congr ?_|skip);simp [hs];done)|fail));done)
 ·rw [List.drop_eq_nil_of_le (show l.length ≤ i by omega)] at hp
  rw [hp]
  conv => whnf
  repeat' (first|((with_reducible refine Split.dec (fun _=>?_) (fun _=>?_))<;>conv=>whnf)|((with_reducible refine Need.mk ?_ ?_);(first|omega|rfl|decide|(refine ⟨?_,?_⟩<;>simp<;>omega)|(simp;omega));conv=>whnf)|(exfalso;first|omega|contradiction)|fail)
  rfl
theorem ev_begin1 (y : Yd) (n : Int) (hn : y.deps.length ≤ 1000000) : Ev Try.prog 85 [iD n, .ref (ydD y).cells 0] (.bool (depB y n)) := by
 have h := ev_deposited y n hn
 refine ev_of_awp tysOk mixed (fn := Try.f85) Try.func85 rfl rfl rfl ?_
 conv => whnf
 repeat' (first|((with_reducible refine AltK.l ?_);(conv=>whnf);(first|(refine CallK.mk _ (h) ?_));conv=>whnf)|fail)
 rfl
def lstE (y : Yd) (l : List Bt) : Int := lsErr y l 12 (depB y)
def bkAt (y : Yd) (k : Nat) : Bk := y.bulk.getD k ⟨⟨#[]⟩, 0, 1⟩
def volsGo (y : Yd) : List Int → List Bt → List Int
 | _, [] => []
 | c, b :: r => volN b (bkAt y (facI y b.soil).toNat) (c.getD (facI y b.soil).toNat 0) :: volsGo y (c.set (facI y b.soil).toNat (carN b (bkAt y (facI y b.soil).toNat) (c.getD (facI y b.soil).toNat 0))) r
def volF (y : Yd) (l : List Bt) : List Int := volsGo y y.carry l
def roomF (y : Yd) : List Int := y.pits.map (roomS y)
def flow0 (y : Yd) (l : List Bt) : List (List Int) := l.map fun _ => List.replicate y.pits.length 0
structure CarOk (y : Yd) (c : List Int) : Prop where
 len : c.length = y.bulk.length
 at_ : ∀ (i : Nat) b z, y.bulk[i]? = some b → c[i]? = some z → 0 ≤ z ∧ z ≤ b.den - 1
theorem lsGo_zero {y : Yd} {q : Int → Bool} : ∀ {r o : List Bt}, lsGo y q o r = 0 → (∀ b ∈ r, batErr y b = 0 ∧ q b.n = false ∧ o.any (fun x => x.n == b.n) = false) ∧ r.Pairwise fun a b => a.n ≠ b.n
 | [], _, _ => ⟨by simp, .nil⟩
 | b :: r, o, h => by
  rw [lsGo] at h
  split at h
  ·contradiction
  rename_i h1
  split at h
  ·cases h
  rename_i h2
  split at h
  ·cases h
  rename_i h3
  obtain ⟨k1, k2⟩ := lsGo_zero h
  refine ⟨fun x hx => ?_, List.pairwise_cons.2 ⟨fun x hx => ?_, k2⟩⟩
  ·rcases List.mem_cons.1 hx with rfl | hx
   ·exact ⟨by simpa using h1, by simpa using h3, by simpa using h2⟩
   ·obtain ⟨a1, a2, a3⟩ := k1 x hx
    rw [List.any_append, Bool.or_eq_false_iff] at a3
    exact ⟨a1, a2, a3.1⟩
  ·have := (k1 x hx).2.2
   rw [List.any_append, Bool.or_eq_false_iff] at this
   simpa using this.2
structure LsOk (y : Yd) (l : List Bt) : Prop where
 yd : ydErr y = 0
 len : l.length ≤ 12
 wok : ∀ b ∈ l, ∃ k f c, Wok y b k f c
 new : ∀ b ∈ l, depB y b.n = false
 dist : l.Pairwise fun a b => a.n ≠ b.n
theorem ls_ok {y : Yd} {l : List Bt} (h : lstE y l = 0) : LsOk y l := by
 unfold lstE lsErr at h
 split at h
 ·contradiction
 rename_i h1
 split at h
 ·cases h
 rename_i h2
 have h1 : ydErr y = 0 := by simpa using h1
 obtain ⟨k1, k2⟩ := lsGo_zero h
 exact ⟨h1, by omega, fun b hb => with_ok (by rw [withErr, if_neg (by simp [h1])]; exact (k1 b hb).1), fun b hb => (k1 b hb).2.1, k2⟩
theorem carN_bd {b : Bt} {f : Bk} {c : Int} (hb : BtOk b) (hf : BkOk f) (hc : 0 ≤ c ∧ c ≤ f.den - 1) : 0 ≤ carN b f c ∧ carN b f c ≤ f.den - 1 := by
 have h1 := hf.den
 obtain ⟨m1, m2⟩ := bulkN_bd hb hf (c := c) (by omega)
 unfold carN
 have d3 := Int.emod_nonneg ((b.bed - b.over) * f.num + c) (show f.den ≠ 0 by omega)
 have d4 := Int.emod_lt_of_pos ((b.bed - b.over) * f.num + c) (show 0 < f.den by omega)
 omega
theorem CarOk.set {y : Yd} {c : List Int} (h : CarOk y c) {k : Nat} {f : Bk} {z : Int} (hf : y.bulk[k]? = some f) (hz : 0 ≤ z ∧ z ≤ f.den - 1) : CarOk y (c.set k z) := by
 refine ⟨by rw [List.length_set]; exact h.len, fun i b w hb hw => ?_⟩
 rw [List.getElem?_set] at hw
 split at hw
 ·rename_i e
  subst e
  split at hw
  ·cases hw
   rw [hf] at hb
   cases hb
   exact hz
  ·cases hw
 ·exact h.at_ i b w hb hw
theorem xv_begin {y : Yd} {l : List Bt} (hs : smallP y) (hl : l.length ≤ 1000000) (h0 : lstE y l = 0) :
 EvX Try.prog 41 [.d (ydD y), .d (.sl 5 (l.map btD))] [] (.tup [.ptr 9 0, .d (iD 0)])
  [(6009, .mat 25 3 0 ((flow0 y l).map fun r => some (r.map iD))), (4009, .row 3 1 ((roomF y).map iD) false), (2009, .row 3 1 ((volF y l).map iD) false),
   (9, .var [.d (.sl 6 (y.pits.map ptD)), .d (.sl 3 (y.bulk.map bkD)), .d (.sl 3 (y.deps.map dpD)), .d (.sl 1 (y.carry.map iD)), .d (.sl 5 (l.map btD)), .own 2009 1 ((volF y l).map iD).length, .own 4009 1 ((roomF y).map iD).length, .own 6009 1 l.length] false)] := by
 have hll : (l.map btD).length = l.length := List.length_map _
 have hlp : (y.pits.map ptD).length = y.pits.length := List.length_map _
 have hO := ls_ok h0
 have hyk := yd_ok hO.yd
 have hb20 := hyk.bulk
 have hp8 := hyk.pits
 have hd200 := hyk.deps
 have hcl := hyk.carL
 have hl12 := hO.len
 have h1 := ev_checkList y l 12 85 [.ref (ydD y).cells 0] (depB y) hs hl (fun b _ => ev_begin1 y b.n (by omega))
 rw [show lsErr y l 12 (depB y) = 0 from h0] at h1
 have hX := EvX.new1 (xs := [.sl 1 (y.carry.map iD)]) (xv_clonedI y.carry (by omega)) 26
 have hrp : ((List.replicate y.pits.length (0 : Int)).map iD).length = y.pits.length := by simp
 refine evx_of_awp tysOk mixed (fn := Try.f41) Try.func41 rfl rfl rfl ?_
 conv => whnf
 repeat' (first|((with_reducible refine Split.is_false ?_ ?_);decide;conv=>whnf)|((with_reducible refine AltK.r ?_);(conv=>whnf);(first|(refine CallX.mk _ _ (hX) rfl ?_));conv=>whnf)|((with_reducible refine AltK.l ?_);(conv=>whnf);(first|(refine CallK.mk _ (h1) ?_));conv=>whnf)|fail)
 refine LoopK.o3 (fun x : Nat × List Int × List Int => x.1 ≤ l.length ∧ volF y l = x.2.2 ++ volsGo y x.2.1 (l.drop x.1) ∧ x.2.2.length = x.1 ∧ CarOk y x.2.1) (fun x => [(29, .d (iD x.1))])
  (fun x => [(23, .var [.d (.sl 6 (y.pits.map ptD)), .d (.sl 3 (y.bulk.map bkD)), .d (.sl 3 (y.deps.map dpD)), .d (.sl 1 (y.carry.map iD)), .d (.sl 5 (l.map btD)), .own 200 1 (x.2.2.map iD).length, .nil 1, .own 201 1 ((flow0 y (l.take x.1)).map fun r => some (r.map iD)).length] false),
    (200, .row 3 1 (x.2.2.map iD) false), (201, .mat 25 3 0 ((flow0 y (l.take x.1)).map fun r => some (r.map iD))), (26, .row 3 1 (x.2.1.map iD) false)]) (fun x => l.length - x.1) (0, y.carry, [])
  ⟨by omega, rfl, rfl, hcl, hyk.car⟩ (by refine ⟨?_, ?_, rfl⟩<;>(repeat' (first|exact True.intro|exact rfl|(refine ⟨?_,?_⟩)|(intro h;cases h;done)|(intro h;exact h)|fail));done) ?_
 rintro ⟨i, c, pre⟩ ⟨hi, hv, hpl, hc⟩
 dsimp only at hi hv hpl hc ⊢
 have hcl' := hc.len
 have hpm : (pre.map iD).length = pre.length := List.length_map _
 have hfm : ((flow0 y (l.take i)).map fun r => some (r.map iD)).length = i := by rw [List.length_map, flow0, List.length_map, List.length_take]; omega
 have hfm2 : (flow0 y (l.take i)).length = i := by rw [flow0, List.length_map, List.length_take]; omega
 by_cases hil : i < l.length
 ·obtain ⟨b, hb⟩ := some_of_lt hil
  obtain ⟨k, f, z0, hW⟩ := hO.wok b (List.mem_of_getElem? hb)
  obtain ⟨z, hz⟩ := some_of_lt (show k < c.length by rw [hcl']; exact lt_of_some hW.fat)
  have hzb := hc.at_ k f z hW.fat hz
  have hden := hW.fo.den
  have hB := xv_bulked y b c hb20 hW.ixk hW.fat hz hW.bok hW.fo (by omega)
  rw [show (c.map iD).length = (y.carry.map iD).length by rw [List.length_map, List.length_map, hcl', hcl]] at hB
  have hB := hB.rn [(1000, 26)] rfl
  have hmb := bulkN_bd hW.bok hW.fo (c := z) (by omega)
  have ek : (facI y b.soil).toNat = k := by rw [hW.ixk]; rfl
  have ef : bkAt y k = f := by rw [bkAt, List.getD, hW.fat]; rfl
  have ec : c.getD k 0 = z := by rw [List.getD, hz]; rfl
  rw [drop_of hb, volsGo, ek, ef, ec] at hv
  have hcar := carN_bd (b := b) (f := f) (c := z) hW.bok hW.fo hzb
  rw [show ((b.bed - b.over) * f.num + z) / f.den = volN b f z from rfl, show ((b.bed - b.over) * f.num + z) % f.den = carN b f z from rfl] at hB
  generalize volN b f z = v at *
  generalize carN b f z = cn at *
  conv => whnf
  repeat' (first|((refine PickE.map i hb (by omega) ?_);conv=>whnf)|((with_reducible refine Split.dec (fun _=>?_) (fun _=>?_))<;>conv=>whnf)|((with_reducible refine Need.mk ?_ ?_);(first|omega|rfl|decide|(refine ⟨?_,?_⟩<;>simp<;>omega)|(simp;omega));conv=>whnf)|((with_reducible refine Wr.inr ?_ ?_);(first|omega|(simp;omega));conv=>whnf)|((with_reducible refine AltK.r ?_);(conv=>whnf);(first|(refine CallX.mk _ _ (hB) rfl ?_));conv=>whnf)|(exfalso;first|omega|contradiction)|fail)
  have hmp1 : pre.map iD ++ iD v :: List.replicate 0 (D.int .i64 0) = (pre ++ [v]).map iD := by simp
  have hmp2 : ((flow0 y (l.take i)).map fun r => some (r.map iD)) ++ [some (List.replicate ((y.pits.map ptD).length : Int).toNat (D.int .i64 0))] = (flow0 y (l.take (i + 1))).map fun r => some (r.map iD) := by
   rw [take_snoc hb, flow0, flow0, List.map_append, List.map_append]
   simp [iD]
  refine Again.av (i + 1, c.set k cn, pre ++ [v]) ⟨by dsimp only; omega, by rw [hv]; simp, by simp only [List.length_append, List.length_singleton]; omega, hc.set hW.fat hcar⟩ (by dsimp only; omega) ?_
  dsimp only
  have hfm3 : (flow0 y (l.take (i + 1))).length = i + 1 := by rw [flow0, List.length_map, List.length_take]; omega
  exact (by refine ⟨?_, ?_, rfl⟩<;>(repeat' (first|exact True.intro|exact rfl|(refine ⟨?_,?_⟩)|(intro h;cases h;done)|(intro h;exact h)|exact map_snoc|(refine own_congr ?_;simp;done)|exact hmp2|((first|refine own_congr ?_|refine int_congr ?_|skip);simp [hfm2,hfm3];done)|fail));done)
 ·have hie : i = l.length := by omega
  subst hie
  rw [List.drop_length, volsGo, List.append_nil] at hv
  rw [List.take_length, ← hv]
  have hfl : ((flow0 y l).map fun r => some (r.map iD)).length = l.length := by rw [List.length_map, flow0, List.length_map]
  clear hc hcl' hpm hfm hfm2 hi hil
  conv => whnf
  repeat' (first|((with_reducible refine Split.dec (fun _=>?_) (fun _=>?_))<;>conv=>whnf)|((with_reducible refine Need.mk ?_ ?_);(first|omega|rfl|decide|(refine ⟨?_,?_⟩<;>simp<;>omega)|(simp;omega));conv=>whnf)|(exfalso;first|omega|contradiction)|fail)
  refine LoopK.o3 (fun i : Nat => i ≤ y.pits.length) (fun i => [(63, .d (iD i))])
   (fun i => [(23, .var [.d (.sl 6 (y.pits.map ptD)), .d (.sl 3 (y.bulk.map bkD)), .d (.sl 3 (y.deps.map dpD)), .d (.sl 1 (y.carry.map iD)), .d (.sl 5 (l.map btD)), .own 200 1 ((volF y l).map iD).length, .own 202 1 (((y.pits.take i).map (roomS y)).map iD).length, .own 201 1 ((flow0 y l).map fun r => some (r.map iD)).length] false),
     (202, .row 3 1 (((y.pits.take i).map (roomS y)).map iD) false)]) (fun i => y.pits.length - i) 0 (by omega) (by refine ⟨?_, ?_, rfl⟩<;>(repeat' (first|exact True.intro|exact rfl|(refine ⟨?_,?_⟩)|(intro h;cases h;done)|(intro h;exact h)|fail));done) ?_
  rintro i hi
  dsimp only at hi ⊢
  have hrl : (((y.pits.take i).map (roomS y)).map iD).length = i := by rw [List.length_map, List.length_map, List.length_take]; omega
  by_cases hil : i < y.pits.length
  ·obtain ⟨p, hp⟩ := some_of_lt hil
   have hr := ev_room y (hyk.pit p (List.mem_of_getElem? hp)).1 hyk.vol (by omega)
   have hmp1 : ((y.pits.take i).map (roomS y)).map iD ++ iD (roomS y p) :: List.replicate 0 (D.int .i64 0) = ((y.pits.take (i + 1)).map (roomS y)).map iD := by rw [take_snoc hp]; simp
   have hsn := take_snoc hp
   conv => whnf
   repeat' (first|((refine PickE.map i hp (by omega) ?_);conv=>whnf)|((with_reducible refine Split.dec (fun _=>?_) (fun _=>?_))<;>conv=>whnf)|((with_reducible refine Need.mk ?_ ?_);(first|omega|rfl|decide|(refine ⟨?_,?_⟩<;>simp<;>omega)|(simp;omega));conv=>whnf)|((with_reducible refine Wr.inr ?_ ?_);(first|omega|(simp;omega));conv=>whnf)|((with_reducible refine AltK.l ?_);(conv=>whnf);(first|(refine CallK.mk _ (hr) ?_));conv=>whnf)|(exfalso;first|omega|contradiction)|fail)
   refine Again.av (i + 1) (by omega) (by omega) ?_
   exact (by refine ⟨?_, ?_, rfl⟩<;>(repeat' (first|exact True.intro|exact rfl|(refine ⟨?_,?_⟩)|(intro h;cases h;done)|(intro h;exact h)|exact hmp1|((first|refine own_congr ?_|refine int_congr ?_|skip);simp [hsn];done)|fail));done)
  ·have hie : i = y.pits.length := by omega
   subst hie
   rw [List.take_length]
   have hro : y.pits.map (roomS y) = roomF y := rfl
   rw [hro]
   conv => whnf
   repeat' (first|((with_reducible refine Split.dec (fun _=>?_) (fun _=>?_))<;>conv=>whnf)|((with_reducible refine Need.mk ?_ ?_);(first|omega|rfl|decide|(refine ⟨?_,?_⟩<;>simp<;>omega)|(simp;omega));conv=>whnf)|(exfalso;first|omega|contradiction)|fail)
   exact ⟨⟨[(9, some 23), (2009, some 200), (4009, some 202), (6009, some 201)], (by refine ⟨?_, ?_, rfl⟩<;>(repeat' (first|exact True.intro|exact rfl|(refine ⟨?_,?_⟩)|(intro h;cases h;done)|((first|refine own_congr ?_|refine int_congr ?_|skip);simp [hfl];done)|fail));done)⟩, rfl⟩
end Go.Proofs.Try
end

section
namespace Go.Proofs.Try
open Go Go.Vm
set_option maxRecDepth 20000
set_option maxHeartbeats 8000000
/-! DisposalBatches, DisposalPits, given awake. -/
structure SmB (y : Yd) : Prop where
 p : y.pits.length ≤ 12
 b : y.bulk.length ≤ 25
 c : y.carry.length ≤ 30
 d : y.deps.length ≤ 205
 cl : ∀ x ∈ y.pits, x.cls.length ≤ 12
theorem SmB.sp {y : Yd} (h : SmB y) : smallP y := fun p hp => Nat.le_trans (h.cl p hp) (by decide)
end Go.Proofs.Try
end

section
namespace Go.Proofs.Try
open Go Go.Vm
set_option maxRecDepth 20000
/-! The flow, in plain Lean: cells, what is left, what is free. -/
theorem sum_set9 : ∀ {l : List Int} {i : Nat} {v : Int}, i < l.length → (l.set i v).sum = l.sum - l.getD i 0 + v
 | [], _, _, h => absurd h (by simp)
 | x :: r, 0, v, _ => by simp; omega
 | x :: r, i + 1, v, h => by
  have ih := sum_set9 (l := r) (i := i) (v := v) (by simpa using h)
  simp only [List.set_cons_succ, List.sum_cons, ih]
  have : (x :: r).getD (i + 1) 0 = r.getD i 0 := by simp [List.getD]
  rw [this]; omega
theorem getD_set9 {α : Type} {l : List α} {k j : Nat} {v d : α} (hk : k < l.length) : (l.set k v).getD j d = if k = j then v else l.getD j d := by
 rw [List.getD, List.getElem?_set]
 by_cases e : k = j
 ·subst e; rw [if_pos rfl, if_pos hk, if_pos rfl]; rfl
 ·rw [if_neg e, if_neg e]; rfl
structure Dim (P L : Nat) (fl : List (List Int)) : Prop where
 len : fl.length = L
 row : ∀ r ∈ fl, r.length = P
theorem Dim.rowD {P L : Nat} {fl : List (List Int)} (h : Dim P L fl) {b : Nat} (hb : b < L) : (fl.getD b []).length = P := by
 rw [List.getD, List.getElem?_eq_getElem (by rw [h.len]; exact hb)]
 exact h.row _ (List.getElem_mem _)
theorem Dim.add {P L : Nat} {fl : List (List Int)} (h : Dim P L fl) (b p : Nat) (a : Int) : Dim P L (addF fl b p a) := ⟨addF_len.trans h.len, addF_row h.row⟩
theorem cell_add {P L : Nat} {fl : List (List Int)} (h : Dim P L fl) {b p b' p' : Nat} {a : Int} (hb : b < L) (hp : p < P) : cellZ (addF fl b p a) b' p' = cellZ fl b' p' + if b = b' ∧ p = p' then a else 0 := by
 unfold cellZ addF
 rw [getD_set9 (by rw [h.len]; exact hb)]
 by_cases e : b = b'
 ·subst e
  rw [if_pos rfl, getD_set9 (by rw [h.rowD hb]; exact hp)]
  by_cases e2 : p = p'
  ·subst e2; rw [if_pos rfl, if_pos ⟨rfl, rfl⟩]; rfl
  ·rw [if_neg e2, if_neg (fun h => e2 h.2)]; omega
 ·rw [if_neg e, if_neg (fun h => e h.1)]; omega
theorem left_add {P L : Nat} {vol : List Int} {fl : List (List Int)} (h : Dim P L fl) {b p b' : Nat} {a : Int} (hb : b < L) (hp : p < P) : leftF vol (addF fl b p a) b' = leftF vol fl b' - if b = b' then a else 0 := by
 unfold leftF addF
 rw [getD_set9 (by rw [h.len]; exact hb)]
 by_cases e : b = b'
 ·subst e
  rw [if_pos rfl, if_pos rfl, sum_set9 (by rw [h.rowD hb]; exact hp)]
  unfold cellZ; omega
 ·rw [if_neg e, if_neg e]; omega
theorem free_add {P L : Nat} {room : List Int} {fl : List (List Int)} (h : Dim P L fl) {b p p' : Nat} {a : Int} (hb : b < L) (hp : p < P) : freeF room (addF fl b p a) p' = freeF room fl p' - if p = p' then a else 0 := by
 unfold freeF addF
 rw [List.map_set, sum_set9 (by rw [List.length_map, h.len]; exact hb)]
 have e1 : (fl.map fun r => r.getD p' 0).getD b 0 = cellZ fl b p' := by
  unfold cellZ
  simp only [List.getD_eq_getElem?_getD, List.getElem?_map]
  cases fl[b]? <;> simp
 rw [e1, getD_set9 (by rw [h.rowD hb]; exact hp)]
 by_cases e : p = p'
 ·subst e; rw [if_pos rfl, if_pos rfl]; omega
 ·rw [if_neg e, if_neg e]; unfold cellZ; omega
structure FlOk (acc : Nat → Nat → Bool) (P L : Nat) (vol room : List Int) (fl : List (List Int)) : Prop where
 dim : Dim P L fl
 nn : ∀ b p, 0 ≤ cellZ fl b p
 ac : ∀ b p, 0 < cellZ fl b p → acc p b = true
 lf : ∀ b, b < L → 0 ≤ leftF vol fl b
 fr : ∀ p, p < P → 0 ≤ freeF room fl p
theorem mem_le_sum {l : List Int} (h : ∀ x ∈ l, 0 ≤ x) {x : Int} (hx : x ∈ l) : x ≤ l.sum := by
 induction l with
 | nil => cases hx
 | cons y r ih =>
  have hr := sum_nn (l := r) fun z hz => h z (List.mem_cons_of_mem _ hz)
  have hy := h y List.mem_cons_self
  rw [List.sum_cons]
  rcases List.mem_cons.1 hx with rfl | hx
  ·omega
  ·have := ih (fun z hz => h z (List.mem_cons_of_mem _ hz)) hx; omega
theorem okFl_of {P L : Nat} {vol : List Int} {fl : List (List Int)} (hd : Dim P L fl) (hn : ∀ b p, 0 ≤ cellZ fl b p) (hl : ∀ b, b < L → 0 ≤ leftF vol fl b) (hv : ∀ b, vol.getD b 0 ≤ 100000000000000000) : okFl fl = true := by
 rw [okFl, List.all_eq_true]
 intro r hr
 rw [List.all_eq_true]
 intro x hx
 obtain ⟨b, hb⟩ := List.getElem?_of_mem hr
 have hbl : b < L := by rw [← hd.len]; exact lt_of_some hb
 have hrD : fl.getD b [] = r := by rw [List.getD, hb]; rfl
 have hnr : ∀ z ∈ r, 0 ≤ z := fun z hz => by
  obtain ⟨p, hp⟩ := List.getElem?_of_mem hz
  have := hn b p
  rw [cellZ, hrD, List.getD, hp] at this
  exact this
 have h1 := mem_le_sum hnr hx
 have h2 := hl b hbl
 have h3 := hv b
 have h4 := hnr x hx
 unfold leftF at h2
 rw [hrD] at h2
 simp [okZ]; omega
/-! Ways. -/
def cvW (x : Nat × Nat × Int) : Int × Int × Int := ((x.1 : Int), (x.2.1 : Int), x.2.2)
inductive Way (acc : Nat → Nat → Bool) (P L : Nat) (vol : List Int) (fl : List (List Int)) : Nat → List (Nat × Nat × Int) → Prop
 | base {b p : Nat} (hb : b < L) (hp : p < P) (ha : acc p b = true) (hl : 0 < leftF vol fl b) : Way acc P L vol fl p [(b, p, -1)]
 | step {b p q : Nat} {st : List (Nat × Nat × Int)} (hb : b < L) (hp : p < P) (ha : acc p b = true) (hq : q < P) (hc : 0 < cellZ fl b q) (h : Way acc P L vol fl q st)
  (h1 : b ∉ st.map (·.1)) (h2 : p ∉ st.map (·.2.1)) : Way acc P L vol fl p ((b, p, (q : Int)) :: st)
theorem Way.change {acc : Nat → Nat → Bool} {P L : Nat} {vol : List Int} {fl fl' : List (List Int)} {p : Nat} {st : List (Nat × Nat × Int)} (h : Way acc P L vol fl p st)
 (hc : ∀ x ∈ st, ∀ q, cellZ fl' x.1 q = cellZ fl x.1 q) (hl : ∀ x ∈ st, leftF vol fl' x.1 = leftF vol fl x.1) : Way acc P L vol fl' p st := by
 induction h with
 | base hb hp ha hl' =>
  refine .base hb hp ha ?_
  have := hl (_, _, _) List.mem_cons_self
  simp only at this
  rw [this]; exact hl'
 | step hb hp ha hq hcc h h1 h2 ih =>
  refine .step hb hp ha hq ?_ (ih (fun x hx => hc x (List.mem_cons_of_mem _ hx)) (fun x hx => hl x (List.mem_cons_of_mem _ hx))) h1 h2
  have := hc (_, _, _) List.mem_cons_self
  simp only at this
  rw [this]; exact hcc
theorem stepOk_cv {P L b p : Nat} {f : Int} (hb : b < L) (hp : p < P) (hf : f < P) : stepOk P L (cvW (b, p, f)) = true := by
 simp only [stepOk, cvW, Bool.and_eq_true]
 exact ⟨⟨⟨⟨decide_eq_true (by omega), decide_eq_true (by omega)⟩, decide_eq_true (by omega)⟩, decide_eq_true (by omega)⟩, decide_eq_true hf⟩
def Fits (vol : List Int) (fl : List (List Int)) (a : Int) (st : List (Nat × Nat × Int)) : Prop := ∀ x ∈ st, (x.2.2 < 0 → a ≤ leftF vol fl x.1) ∧ (0 ≤ x.2.2 → a ≤ cellZ fl x.1 x.2.2.toNat)
def srcW : List (Nat × Nat × Int) → Nat
 | [] => 0
 | [x] => x.1
 | _ :: r => srcW r
theorem Way.ne {acc : Nat → Nat → Bool} {P L : Nat} {vol : List Int} {fl : List (List Int)} {p : Nat} {st : List (Nat × Nat × Int)} (h : Way acc P L vol fl p st) : st ≠ [] := by cases h <;> simp
theorem srcW_cons {x : Nat × Nat × Int} {st : List (Nat × Nat × Int)} (h : st ≠ []) : srcW (x :: st) = srcW st := by
 cases st with
 | nil => exact absurd rfl h
 | cons y r => rfl
theorem Way.src {acc : Nat → Nat → Bool} {P L : Nat} {vol : List Int} {fl : List (List Int)} {p : Nat} {st : List (Nat × Nat × Int)} (h : Way acc P L vol fl p st) : srcW st < L ∧ srcW st ∈ st.map (·.1) := by
 induction h with
 | base hb => exact ⟨hb, by simp [srcW]⟩
 | step hb hp ha hq hc h h1 h2 ih => rw [srcW_cons h.ne]; exact ⟨ih.1, List.mem_cons_of_mem _ ih.2⟩
theorem ap_way {acc : Nat → Nat → Bool} {P L : Nat} {vol room : List Int} (hv : ∀ b, vol.getD b 0 ≤ 100000000000000000) {a : Int} (ha : 0 < a) {p : Nat} {st : List (Nat × Nat × Int)} :
 ∀ {fl : List (List Int)}, Way acc P L vol fl p st → Fits vol fl a st → Dim P L fl → (∀ b q, 0 ≤ cellZ fl b q) → (∀ b q, 0 < cellZ fl b q → acc q b = true) → (∀ b, b < L → 0 ≤ leftF vol fl b) →
 ∃ fl', apF P L a fl (st.map cvW) = some fl' ∧ Dim P L fl' ∧ (∀ b q, 0 ≤ cellZ fl' b q) ∧ (∀ b q, 0 < cellZ fl' b q → acc q b = true) ∧
  (∀ b, leftF vol fl' b = leftF vol fl b - if srcW st = b then a else 0) ∧ (∀ q, freeF room fl' q = freeF room fl q - if p = q then a else 0) ∧
  (∀ b, b ∉ st.map (·.1) → ∀ q, cellZ fl' b q = cellZ fl b q) ∧ (∀ b q, q ∉ st.map (·.2.1) → cellZ fl' b q = cellZ fl b q) := by
 induction st generalizing p with
 | nil => intro fl h; exact absurd rfl h.ne
 | cons x st ih =>
  intro fl h hf hd hn hac hl
  cases h with
  | base hb hp hacc hl' =>
   rename_i b
   have hfit := (hf _ List.mem_cons_self).1 (show (-1 : Int) < 0 by decide)
   simp only at hfit
   have hd1 := hd.add b p a
   have c1 : ∀ b' q, cellZ (addF fl b p a) b' q = cellZ fl b' q + if b = b' ∧ p = q then a else 0 := fun b' q => cell_add hd hb hp
   have l1 : ∀ b', leftF vol (addF fl b p a) b' = leftF vol fl b' - if b = b' then a else 0 := fun b' => left_add hd hb hp
   have n1 : ∀ b' q, 0 ≤ cellZ (addF fl b p a) b' q := fun b' q => by rw [c1]; have := hn b' q; split <;> omega
   have lf1 : ∀ b', b' < L → 0 ≤ leftF vol (addF fl b p a) b' := fun b' hb' => by
    rw [l1]; have := hl b' hb'
    split
    ·rename_i e; subst e; omega
    ·omega
   have hok := okFl_of hd1 n1 lf1 hv
   refine ⟨addF fl b p a, ?_, hd1, n1, fun b' q hq => ?_, fun b' => l1 b', fun q => free_add hd hb hp, fun b' hb' q => ?_, fun b' q hq => ?_⟩
   ·have e : apSt a fl (cvW (b, p, -1)) = addF fl b p a := by simp [apSt, cvW]
    rw [List.map_cons, List.map_nil, apF, e, if_pos ⟨stepOk_cv hb hp (by omega), hok⟩, apF]
   ·rw [c1] at hq
    split at hq
    ·rename_i e; rw [← e.1, ← e.2]; exact hacc
    ·exact hac b' q (by omega)
   ·rw [c1, if_neg (fun e => hb' (by simp [e.1])), Int.add_zero]
   ·rw [c1, if_neg (fun e => hq (by simp [e.2])), Int.add_zero]
  | step hb hp hacc hq hcc h h1 h2 =>
   rename_i b q
   have hfit := (hf _ List.mem_cons_self).2 (by simp)
   simp only [Int.toNat_natCast] at hfit
   have hpq : p ≠ q := by
    intro e; subst e
    apply h2
    cases h <;> simp
   have hd1 := hd.add b p a
   have hd2 := hd1.add b q (-a)
   have c1 : ∀ b' q', cellZ (addF (addF fl b p a) b q (-a)) b' q' = cellZ fl b' q' + (if b = b' ∧ p = q' then a else 0) + if b = b' ∧ q = q' then -a else 0 := fun b' q' => by rw [cell_add hd1 hb hq, cell_add hd hb hp]
   have l1 : ∀ b', leftF vol (addF (addF fl b p a) b q (-a)) b' = leftF vol fl b' := fun b' => by
    rw [left_add hd1 hb hq, left_add hd hb hp]; split <;> omega
   have f1 : ∀ q', freeF room (addF (addF fl b p a) b q (-a)) q' = freeF room fl q' - (if p = q' then a else 0) - if q = q' then -a else 0 := fun q' => by rw [free_add hd1 hb hq, free_add hd hb hp]
   have n1 : ∀ b' q', 0 ≤ cellZ (addF (addF fl b p a) b q (-a)) b' q' := fun b' q' => by
    rw [c1]
    have := hn b' q'
    by_cases e1 : b = b' ∧ q = q'
    ·rw [if_pos e1, if_neg (fun e => hpq (e.2.trans e1.2.symm)), ← e1.1, ← e1.2]; omega
    ·rw [if_neg e1]; split <;> omega
   have a1 : ∀ b' q', 0 < cellZ (addF (addF fl b p a) b q (-a)) b' q' → acc q' b' = true := fun b' q' hq' => by
    rw [c1] at hq'
    by_cases e1 : b = b' ∧ p = q'
    ·rw [← e1.1, ← e1.2]; exact hacc
    ·rw [if_neg e1] at hq'
     refine hac b' q' ?_
     split at hq' <;> omega
   have lf1 : ∀ b', b' < L → 0 ≤ leftF vol (addF (addF fl b p a) b q (-a)) b' := fun b' hb' => by rw [l1]; exact hl b' hb'
   have hok := okFl_of hd2 n1 lf1 hv
   have keepC : ∀ x ∈ st, ∀ q', cellZ (addF (addF fl b p a) b q (-a)) x.1 q' = cellZ fl x.1 q' := fun x hx q' => by
    have hne : ¬ b = x.1 := fun e => h1 (List.mem_map.2 ⟨x, hx, e.symm⟩)
    rw [c1, if_neg (fun e => hne e.1), if_neg (fun e => hne e.1)]; omega
   have hw := h.change keepC (fun x _ => l1 x.1)
   have hf2 : Fits vol (addF (addF fl b p a) b q (-a)) a st := fun x hx => by
    have := hf x (List.mem_cons_of_mem _ hx)
    rw [l1, keepC x hx]; exact this
   obtain ⟨fl', r1, r2, r3, r4, r5, r6, r7, r8⟩ := ih hw hf2 hd2 n1 a1 lf1
   have e : apSt a fl (cvW (b, p, (q : Int))) = addF (addF fl b p a) b q (-a) := by
    simp [apSt, cvW]
   refine ⟨fl', ?_, r2, r3, r4, fun b' => ?_, fun q' => ?_, fun b' hb' q' => ?_, fun b' q' hq' => ?_⟩
   ·rw [List.map_cons, apF, e, if_pos ⟨stepOk_cv hb hp (by omega), hok⟩]
    exact r1
   ·rw [r5, l1, srcW_cons h.ne]
   ·rw [r6, f1]
    by_cases e1 : q = q'
    ·rw [if_pos e1, if_pos e1, if_neg (fun e2 => hpq (e2.trans e1.symm))]; omega
    ·rw [if_neg e1, if_neg e1]; omega
   ·rw [List.map_cons, List.mem_cons, not_or] at hb'
    rw [r7 b' hb'.2, c1, if_neg (fun e => hb'.1 e.1.symm), if_neg (fun e => hb'.1 e.1.symm)]; omega
   ·rw [List.map_cons, List.mem_cons, not_or] at hq'
    have hq2 : ¬ q = q' := fun e2 => hq'.2 (by subst e2; cases h <;> simp)
    rw [r8 b' q' hq'.2, c1, if_neg (fun e => hq'.1 e.2.symm), if_neg (fun e => hq2 e.2)]; omega
end Go.Proofs.Try
end
