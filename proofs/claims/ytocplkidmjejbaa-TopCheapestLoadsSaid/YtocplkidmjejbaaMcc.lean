/- Texts DpX DpY DpZ DqC DqD, joined; what is not needed is left out. -/
import Derived.Test.YtocplkidmjejbaaMgI
import Derived.Test.YtocplkidmjejbaaMgH
import Derived.Test.YtocplkidmjejbaaProg
import Derived.Test.YtocplkidmjejbaaMcb
section
namespace Go.Proofs.Try
open Go Go.Vm
set_option maxRecDepth 20000
set_option maxHeartbeats 8000000
/-! The task: push. -/
def stD (x : Int × Int × Int) : D := .agg [iD x.1, iD x.2.1, iD x.2.2]
theorem left_bd {y : Yd} {l : List Bt} {vol room : List Int} {fl : List (List Int)} (h : TkOk y l vol room fl) (b : Nat) : -2000000000000000000 ≤ leftF vol fl b ∧ leftF vol fl b ≤ 2000000000000000000 := by
 have e4 := h.hP
 have h1 : 0 ≤ vol.getD b 0 ∧ vol.getD b 0 ≤ 100000000000000000 := by
  rw [List.getD]
  cases hx : vol[b]? with
  | none => simp
  | some x => exact h.vb x (List.mem_of_getElem? hx)
 have h2 : 0 ≤ (fl.getD b []).sum ∧ (fl.getD b []).sum ≤ (fl.getD b []).length * 100000000000000000 := sum_bd fun x hx => by
  rw [List.getD] at hx
  cases hr : fl[b]? with
  | none => rw [hr] at hx; simp at hx
  | some r => rw [hr] at hx; exact okFl_cell h.fb (List.mem_of_getElem? hr) hx
 have h3 : (fl.getD b []).length ≤ 8 := by
  rw [List.getD]
  cases hr : fl[b]? with
  | none => simp
  | some r => have := h.row r (List.mem_of_getElem? hr); simp; omega
 unfold leftF
 omega
theorem free_bd {y : Yd} {l : List Bt} {vol room : List Int} {fl : List (List Int)} (h : TkOk y l vol room fl) (p : Nat) : -2000000000000000000 ≤ freeF room fl p ∧ freeF room fl p ≤ 2000000000000000000 := by
 have e3 := h.hL
 have e2 := h.hf
 have h1 : 0 ≤ room.getD p 0 ∧ room.getD p 0 ≤ 100000000000000000 := by
  rw [List.getD]
  cases hx : room[p]? with
  | none => simp
  | some x => exact h.rb x (List.mem_of_getElem? hx)
 have h2 := sum_bd (M := 100000000000000000) (r := fl.map fun r => r.getD p 0) fun x hx => by
  obtain ⟨r, hr, rfl⟩ := List.mem_map.1 hx
  rw [List.getD]
  cases hx : r[p]? with
  | none => simp
  | some x => exact okFl_cell h.fb hr (List.mem_of_getElem? hx)
 rw [List.length_map] at h2
 unfold freeF
 omega
theorem xv_pushNo {y : Yd} {l : List Bt} {vol room : List Int} {fl : List (List Int)} (h : TkOk y l vol room fl) {n : Nat} {w : Rs} (hw : reachF (accF y l) y.pits.length l.length n vol fl = some w) (hn : n ≤ 1000) {pit : Nat} (hp : pit < y.pits.length)
 (hno : hasN w.ps pit = false ∨ freeF room fl pit = 0) : EvX Try.prog 89 [.ptr 1000 0, .d (iD pit)] (tkX y l vol room fl) (.d (.bool false)) (tkX y l vol room fl) := by
 have hR := xv_reached h hw hn
 have hF := xv_free h hp
 have hm := mget_mapD pit w.ps
 unfold tkX at hR hF ⊢
 have hR := hR.rn [(9, 16), (2009, 2016)] rfl
 cases hk : hasN w.ps pit with
 | false =>
  rw [hk, if_neg (by decide)] at hm
  refine evx_of_awp tysOk mixed (fn := Try.f89) Try.func89 rfl rfl rfl ?_
  conv => whnf
  repeat' (first|((with_reducible refine Need.mk ?_ ?_);(first|omega|rfl|decide|(refine ⟨?_,?_⟩<;>simp<;>omega)|(simp;omega));conv=>whnf)|((with_reducible refine AltK.r ?_);(conv=>whnf);(first|(refine CallX.mk _ _ (hR) rfl ?_)|(refine CallX.mk _ _ (hF) rfl ?_));conv=>whnf)|fail)
  refine LookK.mk (fun v hv => ?_) (fun hv => ?_)
  ·rw [hm] at hv; cases hv
  ·conv => whnf
   repeat' (first|((with_reducible first|refine Split.of_true ?_|refine Split.of_false ?_);conv=>whnf)|(with_reducible refine Split.neg ?_)|fail)
   all_goals first
    |(exfalso; contradiction)
    | exact ⟨⟨[], (by refine ⟨?_, ?_, rfl⟩<;>(repeat' (first|exact True.intro|exact rfl|(refine ⟨?_,?_⟩)|(intro h;cases h;done)|(simp;done)|fail));done)⟩, rfl⟩
 | true =>
  rw [hk, if_pos rfl] at hm
  have hf0 : freeF room fl pit = 0 := by
   rcases hno with h | h
   ·rw [hk] at h; cases h
   ·exact h
  rw [hf0] at hF
  refine evx_of_awp tysOk mixed (fn := Try.f89) Try.func89 rfl rfl rfl ?_
  conv => whnf
  repeat' (first|((with_reducible refine Need.mk ?_ ?_);(first|omega|rfl|decide|(refine ⟨?_,?_⟩<;>simp<;>omega)|(simp;omega));conv=>whnf)|((with_reducible refine AltK.r ?_);(conv=>whnf);(first|(refine CallX.mk _ _ (hR) rfl ?_)|(refine CallX.mk _ _ (hF) rfl ?_));conv=>whnf)|fail)
  refine LookK.mk (fun v hv => ?_) (fun hv => ?_)
  ·conv => whnf
   repeat' (first|((with_reducible refine Split.of_true ?_);conv=>whnf)|(with_reducible refine Split.neg ?_)|((with_reducible refine Split.is_true ?_ ?_);decide;conv=>whnf)|((with_reducible refine AltK.r ?_);(conv=>whnf);(first|(refine CallX.mk _ _ (hF) rfl ?_));conv=>whnf)|fail)
   all_goals first
    |(exfalso; contradiction)
    | exact ⟨⟨[], (by refine ⟨?_, ?_, rfl⟩<;>(repeat' (first|exact True.intro|exact rfl|(refine ⟨?_,?_⟩)|(intro h;cases h;done)|(simp;done)|fail));done)⟩, rfl⟩
  ·rw [hm] at hv; cases hv
theorem addF_len {fl : List (List Int)} {b p : Nat} {a : Int} : (addF fl b p a).length = fl.length := by rw [addF, List.length_set]
theorem addF_row {fl : List (List Int)} {b p P : Nat} {a : Int} (h : ∀ r ∈ fl, r.length = P) : ∀ r ∈ addF fl b p a, r.length = P := by
 intro r hr
 rw [addF] at hr
 rcases List.mem_or_eq_of_mem_set hr with h1 | h1
 ·exact h r h1
 ·by_cases hb : b < fl.length
  ·rw [h1, List.length_set, List.getD, List.getElem?_eq_getElem hb]
   exact h _ (List.getElem_mem hb)
  ·rw [List.set_eq_of_length_le (by omega)] at hr
   exact h r hr
theorem apSt_len {fl : List (List Int)} {a : Int} {x : Int × Int × Int} : (apSt a fl x).length = fl.length := by
 unfold apSt
 split
 ·rw [addF_len, addF_len]
 ·rw [addF_len]
theorem apSt_row {fl : List (List Int)} {P : Nat} {a : Int} {x : Int × Int × Int} (h : ∀ r ∈ fl, r.length = P) : ∀ r ∈ apSt a fl x, r.length = P := by
 unfold apSt
 split
 ·exact addF_row (addF_row h)
 ·exact addF_row h
theorem apF_keep {P L : Nat} {a : Int} : ∀ {st : List (Int × Int × Int)} {fl fl' : List (List Int)}, apF P L a fl st = some fl' → okFl fl = true → (∀ r ∈ fl, r.length = P) → fl'.length = fl.length ∧ (∀ r ∈ fl', r.length = P) ∧ okFl fl' = true
 | [], fl, fl', h, h1, h2 => by rw [apF] at h; cases h; exact ⟨rfl, h2, h1⟩
 | x :: r, fl, fl', h, h1, h2 => by
  rw [apF] at h
  split at h
  ·rename_i hx
   obtain ⟨k1, k2, k3⟩ := apF_keep h hx.2 (apSt_row h2)
   exact ⟨k1.trans apSt_len, k2, k3⟩
  ·cases h
theorem pathF_at {P L : Nat} {vol : List Int} {fl : List (List Int)} {w : Rs} {n p : Nat} {a : Int} {st : List (Int × Int × Int)} {fin : Int} (h : pathF P L vol fl w n p a = some (st, fin)) :
 ∃ m b f, n = m + 1 ∧ hasN w.ps p = true ∧ getZ w.ps p = (b : Nat) ∧ b < L ∧ hasN w.bs b = true ∧ getZ w.bs b = f ∧ f < P ∧
  ((f < 0 ∧ st = [((b : Int), (p : Int), f)] ∧ fin = minI a (leftF vol fl b)) ∨ (0 ≤ f ∧ ∃ r, st = ((b : Int), (p : Int), f) :: r ∧ pathF P L vol fl w m f.toNat (minI a (cellZ fl b f.toNat)) = some (r, fin))) := by
 cases n with
 | zero => rw [pathF] at h; cases h
 | succ m =>
  rw [pathF] at h
  split at h
  ·rename_i hc
   obtain ⟨h1, h2, h3, h4, h5⟩ := hc
   have hb : getZ w.ps p = ((getZ w.ps p).toNat : Nat) := by omega
   refine ⟨m, (getZ w.ps p).toNat, _, rfl, h1, hb, by omega, h4, rfl, h5, ?_⟩
   split at h
   ·rename_i hf
    cases h
    exact .inl ⟨hf, by rw [← hb], rfl⟩
   ·rename_i hf
    split at h
    ·rename_i r hr
     cases h
     exact .inr ⟨by omega, r.1, by rw [← hb], hr⟩
    ·cases h
  ·cases h
theorem minI_bd {a b : Int} (ha : -2000000000000000000 ≤ a ∧ a ≤ 2000000000000000000) (hb : -2000000000000000000 ≤ b ∧ b ≤ 2000000000000000000) : -2000000000000000000 ≤ minI a b ∧ minI a b ≤ 2000000000000000000 := by
 unfold minI
 split
 ·exact hb
 ·exact ha
theorem xv_pushYes {y : Yd} {l : List Bt} {vol room : List Int} {fl fl' : List (List Int)} (h : TkOk y l vol room fl) {n : Nat} {w : Rs} (hw : reachF (accF y l) y.pits.length l.length n vol fl = some w) (hn : n ≤ 1000) {pit : Nat} (hp : pit < y.pits.length)
 (hk : hasN w.ps pit = true) (hf0 : freeF room fl pit ≠ 0) {st : List (Int × Int × Int)} {fin : Int} (hpa : pathF y.pits.length l.length vol fl w n pit (freeF room fl pit) = some (st, fin)) (hap : apF y.pits.length l.length fin fl st = some fl') :
 EvX Try.prog 89 [.ptr 1000 0, .d (iD pit)] (tkX y l vol room fl) (.d (.bool true)) (tkX y l vol room fl') := by
 have hR := xv_reached h hw hn
 have hF := xv_free h hp
 have hLf := fun (b : Nat) (hb : b < l.length) => xv_left h hb
 have hm := mget_mapD pit w.ps
 have hfb := free_bd h pit
 have hlb := left_bd h
 have e1 := h.hv
 have e2 := h.hf
 have e3 := h.hL
 have e4 := h.hP
 have efl : fl'.length = fl.length := (apF_keep hap h.fb h.row).1
 unfold tkX at hR hF hLf ⊢
 rw [efl]
 have hR := hR.rn [(9, 16), (2009, 2016)] rfl
 rw [hk, if_pos rfl] at hm
 generalize freeF room fl pit = f0 at *
 refine evx_of_awp tysOk mixed (fn := Try.f89) Try.func89 rfl rfl rfl ?_
 conv => whnf
 repeat' (first|((with_reducible refine Need.mk ?_ ?_);(first|omega|rfl|decide|(refine ⟨?_,?_⟩<;>simp<;>omega)|(simp;omega));conv=>whnf)|((with_reducible refine AltK.r ?_);(conv=>whnf);(first|(refine CallX.mk _ _ (hR) rfl ?_)|(refine CallX.mk _ _ (hF) rfl ?_));conv=>whnf)|fail)
 refine LookK.mk (fun v hv => ?_) (fun hv => ?_)
 case refine_2 => rw [hm] at hv; cases hv
 conv => whnf
 repeat' (first|((with_reducible refine Split.of_true ?_);conv=>whnf)|(with_reducible refine Split.neg ?_)|((with_reducible refine Split.eqz (fun _=>?_) (fun _=>?_))<;>conv=>whnf)|((with_reducible refine AltK.r ?_);(conv=>whnf);(first|(refine CallX.mk _ _ (hF) rfl ?_));conv=>whnf)|(exfalso;first|omega|contradiction)|fail)
 refine LoopK.o3 (fun x : Nat × Nat × Int × List (Int × Int × Int) => (∃ r, pathF y.pits.length l.length vol fl w x.1 x.2.1 x.2.2.1 = some (r, fin) ∧ st = x.2.2.2 ++ r) ∧ -2000000000000000000 ≤ x.2.2.1 ∧ x.2.2.1 ≤ 2000000000000000000 ∧ x.2.2.2.length + x.1 = n)
  (fun x => [(8, .own 200 3 (x.2.2.2.map stD).length), (9, .d (iD x.2.2.1)), (10, .d (iD x.2.1))]) (fun x => [(200, .row 159 3 (x.2.2.2.map stD) false)]) (fun x => x.1) (n, pit, f0, []) ⟨⟨st, hpa, rfl⟩, by dsimp only;omega, by dsimp only;omega, by simp⟩ (by refine ⟨?_, ?_, rfl⟩<;>(repeat' (first|exact True.intro|exact rfl|(refine ⟨?_,?_⟩)|(intro h;cases h;done)|(simp;done)|fail));done) ?_
 rintro ⟨m, p, a, pre⟩ ⟨⟨rst, hpt, hst⟩, ha1, ha2, hml⟩
 dsimp only at hpt hst ha1 ha2 hml ⊢
 obtain ⟨m', b, f, hmm, k1, k2, k3, k4, k5, k6, hor⟩ := pathF_at hpt
 have hc := hLf b k3
 have hlbb := hlb b
 have hq1 := mget_mapD p w.ps
 rw [k1, if_pos rfl, k2] at hq1
 have hq2 := mget_mapD b w.bs
 rw [k4, if_pos rfl, k5] at hq2
 have hpl : (pre.map stD).length = pre.length := List.length_map _
 rcases hor with ⟨hneg, hr, hfin⟩ | ⟨hpos, r, hr, hpt'⟩
 ·subst hr
  have hsn : pre.map stD ++ D.agg [iD (b : Int), iD (p : Int), iD f] :: List.replicate 0 (D.agg [.int .i64 0, .int .i64 0, .int .i64 0]) = st.map stD := by rw [hst]; simp [stD]
  have hmb := minI_bd (a := a) (b := leftF vol fl b) ⟨ha1, ha2⟩ hlbb
  rw [← hfin] at hmb
  generalize leftF vol fl b = lf at *
  conv => whnf
  repeat' (first|((with_reducible refine Need.mk ?_ ?_);(first|omega|rfl|decide|(refine ⟨?_,?_⟩<;>simp<;>omega)|(simp;omega));conv=>whnf)|fail)
  refine LookK.mk (fun v hv => ?_) (fun hv => ?_)
  case refine_2 => rw [hq1] at hv; cases hv
  rw [hq1] at hv; cases hv
  conv => whnf
  repeat' (first|((with_reducible refine Need.mk ?_ ?_);(first|omega|rfl|decide|(refine ⟨?_,?_⟩<;>simp<;>omega)|(simp;omega));conv=>whnf)|fail)
  refine LookK.mk (fun v hv => ?_) (fun hv => ?_)
  case refine_2 => rw [hq2] at hv; cases hv
  rw [hq2] at hv; cases hv
  conv => whnf
  repeat' (first|((with_reducible refine Split.dec (fun _=>?_) (fun _=>?_))<;>conv=>whnf)|((with_reducible refine Need.mk ?_ ?_);(first|omega|rfl|decide|(refine ⟨?_,?_⟩<;>simp<;>omega)|(simp;omega));conv=>whnf)|((with_reducible refine AltK.r ?_);(conv=>whnf);(first|(refine CallX.mk _ _ (hc) rfl ?_));conv=>whnf)|(exfalso;first|omega|contradiction)|fail)
  all_goals first
   |(exfalso; omega)
   | skip
  rw [hsn, ← hfin]
  have hstN : st.length ≤ 1001 := by rw [hst]; simp only [List.length_append, List.length_singleton]; omega
  clear hq1 hq2 hlbb hsn hpl hst hpt hfin hc hm
  have hstl : (st.map stD).length = st.length := List.length_map _
  refine LoopK.o3 (fun x : Nat × List (List Int) => x.1 ≤ st.length ∧ apF y.pits.length l.length fin x.2 (st.drop x.1) = some fl' ∧ okFl x.2 = true ∧ x.2.length = fl.length ∧ ∀ r ∈ x.2, r.length = y.pits.length)
   (fun x => [(73, .d (iD x.1))]) (fun x => [(1003, .mat 25 3 0 (x.2.map fun r => some (r.map iD)))]) (fun x => st.length - x.1) (0, fl) ⟨by omega, hap, h.fb, rfl, h.row⟩ (by refine ⟨?_, ?_, rfl⟩<;>(repeat' (first|exact True.intro|exact rfl|(refine ⟨?_,?_⟩)|(intro h;cases h;done)|(simp;done)|fail));done) ?_
  rintro ⟨i, fc⟩ ⟨hi, hac, hok, hfl, hrow⟩
  dsimp only at hi hac hok hfl hrow ⊢
  by_cases hil : i < st.length
  ·obtain ⟨⟨b', p', f'⟩, hx⟩ := some_of_lt hil
   rw [drop_of hx, apF] at hac
   split at hac
   case isFalse => cases hac
   rename_i hst
   obtain ⟨hst, hok'⟩ := hst
   simp only [stepOk, Bool.and_eq_true, decide_eq_true_eq] at hst
   obtain ⟨⟨⟨⟨s1, s2⟩, s3⟩, s4⟩, s5⟩ := hst
   obtain ⟨bn, rfl⟩ := Int.eq_ofNat_of_zero_le s1
   obtain ⟨pn, rfl⟩ := Int.eq_ofNat_of_zero_le s3
   obtain ⟨row, hrow1⟩ := some_of_lt (show bn < fc.length by omega)
   have hrm := List.mem_of_getElem? hrow1
   have hrl := hrow row hrm
   obtain ⟨c, hc⟩ := some_of_lt (show pn < row.length by omega)
   have hcb := okFl_cell hok hrm (List.mem_of_getElem? hc)
   have hlf : (fc.map fun r => some (r.map iD)).length = fc.length := List.length_map _
   have hlr : (row.map iD).length = row.length := List.length_map _
   have ead : addF fc bn pn fin = fc.set bn (row.set pn (c + fin)) := by simp [addF, cellZ, List.getD, hrow1, hc]
   have hmp1 : (fc.map fun r => some (r.map iD)).set bn (some ((row.map iD).set pn (iD (c + fin)))) = (addF fc bn pn fin).map fun r => some (r.map iD) := by
    rw [ead, List.map_set, List.map_set]
   by_cases hf : 0 ≤ f'
   ·obtain ⟨fn, rfl⟩ := Int.eq_ofNat_of_zero_le hf
    have eap : apSt fin fc ((bn : Int), (pn : Int), (fn : Int)) = addF (addF fc bn pn fin) bn fn (-fin) := by rw [apSt]; simp
    have hr2 : (addF fc bn pn fin)[bn]? = some (row.set pn (c + fin)) := by rw [ead, List.getElem?_set_self (by omega)]
    obtain ⟨c2, hc2⟩ := some_of_lt (show fn < (row.set pn (c + fin)).length by rw [List.length_set]; omega)
    have hcb2 : -2200000000000000000 ≤ c2 ∧ c2 ≤ 2200000000000000000 := by
     rcases List.mem_or_eq_of_mem_set (List.mem_of_getElem? hc2) with h1 | h1
     ·have := okFl_cell hok hrm h1; omega
     ·omega
    have ead2 : addF (addF fc bn pn fin) bn fn (-fin) = (addF fc bn pn fin).set bn ((row.set pn (c + fin)).set fn (c2 - fin)) := by
     have e1 : (addF fc bn pn fin).getD bn [] = row.set pn (c + fin) := by rw [List.getD, hr2]; rfl
     have e2 : cellZ (addF fc bn pn fin) bn fn = c2 := by rw [cellZ, e1, List.getD, hc2]; rfl
     rw [addF, e1, e2]; rfl
    have hmp2 : ((fc.map fun r => some (r.map iD)).set bn (some ((row.map iD).set pn (iD (c + fin)))))[bn]? = some (some ((row.set pn (c + fin)).map iD)) := by
     rw [hmp1, List.getElem?_map, hr2]; rfl
    have hxD : (st.map stD)[(i : Int).toNat]? = some (D.agg [iD (bn : Int), iD (pn : Int), iD (fn : Int)]) := by rw [Int.toNat_natCast, List.getElem?_map, hx]; rfl
    conv => whnf
    repeat' (first|((refine PickE.map fn hc2 (by omega) ?_);conv=>whnf)|((refine PickR.mk _ hmp2 ?_);conv=>whnf)|((refine PickE.map pn hc (by omega) ?_);conv=>whnf)|((refine PickR.map bn hrow1 (by omega) ?_);conv=>whnf)|((refine PickE.mk _ hxD ?_);conv=>whnf)|((with_reducible refine Split.dec (fun _=>?_) (fun _=>?_))<;>conv=>whnf)|((with_reducible refine Need.mk ?_ ?_);(first|omega|rfl|decide|(refine ⟨?_,?_⟩<;>simp<;>omega)|(simp;omega));conv=>whnf)|((with_reducible refine Wr.inr ?_ ?_);(first|omega|(simp;omega));conv=>whnf)|(exfalso;first|omega|contradiction)|fail)
    refine Again.av (i + 1, apSt fin fc ((bn : Int), (pn : Int), (fn : Int))) ⟨by dsimp only; omega, hac, hok', by dsimp only; rw [apSt_len]; exact hfl, by dsimp only; exact apSt_row hrow⟩ (by dsimp only; omega) ?_
    dsimp only
    have hmp3 : ((fc.map fun r => some (r.map iD)).set bn (some ((row.map iD).set pn (iD (c + fin))))).set bn (some (((row.set pn (c + fin)).map iD).set fn (iD (c2 - fin)))) = (apSt fin fc ((bn : Int), (pn : Int), (fn : Int))).map fun r => some (r.map iD) := by
     rw [hmp1, eap, ead2]; simp only [List.map_set]
    exact (by refine ⟨?_, ?_, rfl⟩<;>(repeat' (first|exact True.intro|exact rfl|(refine ⟨?_,?_⟩)|(intro h;cases h;done)|(simp;done)|exact hmp3|fail));done)
   ·have eap : apSt fin fc ((bn : Int), (pn : Int), f') = addF fc bn pn fin := by rw [apSt, if_neg hf]; rfl
    have hxD : (st.map stD)[(i : Int).toNat]? = some (D.agg [iD (bn : Int), iD (pn : Int), iD f']) := by rw [Int.toNat_natCast, List.getElem?_map, hx]; rfl
    conv => whnf
    repeat' (first|((refine PickE.map pn hc (by omega) ?_);conv=>whnf)|((refine PickR.map bn hrow1 (by omega) ?_);conv=>whnf)|((refine PickE.mk _ hxD ?_);conv=>whnf)|((with_reducible refine Split.dec (fun _=>?_) (fun _=>?_))<;>conv=>whnf)|((with_reducible refine Need.mk ?_ ?_);(first|omega|rfl|decide|(refine ⟨?_,?_⟩<;>simp<;>omega)|(simp;omega));conv=>whnf)|((with_reducible refine Wr.inr ?_ ?_);(first|omega|(simp;omega));conv=>whnf)|(exfalso;first|omega|contradiction)|fail)
    all_goals first
     |(exfalso; omega)
     | skip
    refine Again.av (i + 1, apSt fin fc ((bn : Int), (pn : Int), f')) ⟨by dsimp only; omega, hac, hok', by dsimp only; rw [apSt_len]; exact hfl, by dsimp only; exact apSt_row hrow⟩ (by dsimp only; omega) ?_
    dsimp only
    rw [eap]
    exact (by refine ⟨?_, ?_, rfl⟩<;>(repeat' (first|exact True.intro|exact rfl|(refine ⟨?_,?_⟩)|(intro h;cases h;done)|(simp;done)|exact hmp1|fail));done)
  ·have hie : i = st.length := by omega
   subst hie
   rw [List.drop_length, apF] at hac
   cases hac
   conv => whnf
   repeat' (first|((with_reducible refine Split.dec (fun _=>?_) (fun _=>?_))<;>conv=>whnf)|((with_reducible refine Need.mk ?_ ?_);(first|omega|rfl|decide|(refine ⟨?_,?_⟩<;>simp<;>omega)|(simp;omega));conv=>whnf)|(exfalso;first|omega|contradiction)|fail)
   exact ⟨⟨[], (by refine ⟨?_, ?_, rfl⟩<;>(repeat' (first|exact True.intro|exact rfl|(refine ⟨?_,?_⟩)|(intro h;cases h;done)|(simp;done)|fail));done)⟩, rfl⟩
 ·subst hr
  obtain ⟨row, hrow⟩ := some_of_lt (show b < fl.length by omega)
  have hrm := List.mem_of_getElem? hrow
  have hrl := h.row row hrm
  obtain ⟨x, hx⟩ := some_of_lt (show f.toNat < row.length by omega)
  have hxb := okFl_cell h.fb hrm (List.mem_of_getElem? hx)
  have hcx : cellZ fl b f.toNat = x := by simp [cellZ, List.getD, hrow, hx]
  rw [hcx] at hpt'
  have hmb := minI_bd (a := a) (b := x) ⟨ha1, ha2⟩ (by omega)
  have hlf : (fl.map fun r => some (r.map iD)).length = fl.length := List.length_map _
  have hlr : (row.map iD).length = row.length := List.length_map _
  have hmp1 : pre.map stD ++ D.agg [iD (b : Int), iD (p : Int), iD f] :: List.replicate 0 (D.agg [.int .i64 0, .int .i64 0, .int .i64 0]) = (pre ++ [((b : Int), (p : Int), f)]).map stD := by simp [stD]
  have hfe : (f.toNat : Int) = f := by omega
  conv => whnf
  repeat' (first|((with_reducible refine Need.mk ?_ ?_);(first|omega|rfl|decide|(refine ⟨?_,?_⟩<;>simp<;>omega)|(simp;omega));conv=>whnf)|fail)
  refine LookK.mk (fun v hv => ?_) (fun hv => ?_)
  case refine_2 => rw [hq1] at hv; cases hv
  rw [hq1] at hv; cases hv
  conv => whnf
  repeat' (first|((with_reducible refine Need.mk ?_ ?_);(first|omega|rfl|decide|(refine ⟨?_,?_⟩<;>simp<;>omega)|(simp;omega));conv=>whnf)|fail)
  refine LookK.mk (fun v hv => ?_) (fun hv => ?_)
  case refine_2 => rw [hq2] at hv; cases hv
  rw [hq2] at hv; cases hv
  conv => whnf
  repeat' (first|((refine PickE.map f.toNat hx (by omega) ?_);conv=>whnf)|((refine PickR.map b hrow (by omega) ?_);conv=>whnf)|((with_reducible refine Split.dec (fun _=>?_) (fun _=>?_))<;>conv=>whnf)|((with_reducible refine Need.mk ?_ ?_);(first|omega|rfl|decide|(refine ⟨?_,?_⟩<;>simp<;>omega)|(simp;omega));conv=>whnf)|(exfalso;first|omega|contradiction)|fail)
  all_goals first
   |(exfalso; omega)
   | skip
  refine Again.av (m', f.toNat, minI a x, pre ++ [((b : Int), (p : Int), f)]) ⟨⟨r, hpt', by rw [hst]; simp⟩, hmb.1, hmb.2, by simp only [List.length_append, List.length_singleton]; omega⟩ (by dsimp only; omega) ?_
  dsimp only
  rw [hfe]
  exact (by refine ⟨?_, ?_, rfl⟩<;>(repeat' (first|exact True.intro|exact rfl|(refine ⟨?_,?_⟩)|(intro h;cases h;done)|(refine own_congr ?_;simp;done)|(simp;done)|exact hmp1|fail));done)
end Go.Proofs.Try
end

section
namespace Go.Proofs.Try
open Go Go.Vm
set_option maxRecDepth 20000
set_option maxHeartbeats 8000000
/-! The task: pits in the order of their prices. -/
def cmpZ (a b : Int) : Int := if a < b then -1 else if b < a then 1 else 0
theorem ev_isNaNi (x : Int) : Ev Try.prog 108 [iD x] (.bool false) := by
 refine ev_of_awp tysOk mixed (fn := Try.f108) Try.func108 rfl rfl rfl ?_
 conv => whnf
 skip
 all_goals first
  |(simp [retOf]; done)
  |(exfalso; omega)
theorem ev_CompareI (x y : Int) : Ev Try.prog 88 [iD x, iD y] (iD (cmpZ x y)) := by
 have h1 := ev_isNaNi x
 have h2 := ev_isNaNi y
 unfold cmpZ
 refine ev_of_awp tysOk mixed (fn := Try.f88) Try.func88 rfl rfl rfl ?_
 conv => whnf
 repeat' (first|((with_reducible refine Split.of_false ?_);conv=>whnf)|((with_reducible refine Split.dec (fun _=>?_) (fun _=>?_))<;>conv=>whnf)|((with_reducible refine AltK.l ?_);(conv=>whnf);(first|(refine CallK.mk _ (h1) ?_)|(refine CallK.mk _ (h2) ?_));conv=>whnf)|fail)
 ·rw [if_pos (by assumption)]; rfl
 ·rw [if_neg (by omega), if_pos (by omega)]; rfl
 ·rw [if_neg (by omega), if_neg (by omega)]; rfl
def priceF (y : Yd) (p : Nat) : Int := match y.pits[p]? with
 | some q => q.price
 | none => 0
def cmX : List (Nat × Bx) := [(1011, .var [.ptr 1000 0] false)]
theorem xv_cmp {y : Yd} {l : List Bt} {vol room : List Int} {fl : List (List Int)} {a b : Nat} (ha : a < y.pits.length) (hb : b < y.pits.length) :
 EvX Try.prog 87 [.d (nD a), .d (nD b), .ptr 1011 0] (tkX y l vol room fl ++ cmX) (.d (iD (cmpZ (priceF y a) (priceF y b)))) (tkX y l vol room fl ++ cmX) := by
 obtain ⟨p, hp⟩ := some_of_lt ha
 obtain ⟨q, hq⟩ := some_of_lt hb
 have hlp : (y.pits.map ptD).length = y.pits.length := List.length_map _
 have e1 : priceF y a = p.price := by simp [priceF, hp]
 have e2 : priceF y b = q.price := by simp [priceF, hq]
 rw [e1, e2]
 have hc := ev_CompareI p.price q.price
 unfold tkX cmX
 refine evx_of_awp tysOk mixed (fn := Try.f87) Try.func87 rfl rfl rfl ?_
 conv => whnf
 repeat' (first|((refine PickE.map b hq (by omega) ?_);conv=>whnf)|((refine PickE.map a hp (by omega) ?_);conv=>whnf)|((with_reducible refine Need.mk ?_ ?_);(first|omega|rfl|decide|(refine ⟨?_,?_⟩<;>simp<;>omega)|(simp;omega));conv=>whnf)|((with_reducible refine AltK.l ?_);(conv=>whnf);(first|(refine CallK.mk _ (hc) ?_));conv=>whnf)|fail)
 exact ⟨⟨[], (by refine ⟨?_, ?_, rfl⟩<;>(repeat' (first|exact True.intro|exact rfl|(refine ⟨?_,?_⟩)|(intro h;cases h;done)|(simp;done)|fail));done)⟩, rfl⟩
def insR (pr : Nat → Int) (x : Nat) : List Nat → List Nat
 | [] => [x]
 | a :: r => if pr x < pr a then a :: insR pr x r else x :: a :: r
def sortGo (pr : Nat → Int) : List Nat → List Nat → List Nat
 | R, [] => R.reverse
 | R, x :: r => sortGo pr (insR pr x R) r
theorem insR_len {pr : Nat → Int} {x : Nat} : ∀ {R : List Nat}, (insR pr x R).length = R.length + 1
 | [] => rfl
 | a :: r => by
  rw [insR]
  split
  ·simp [insR_len]
  ·simp
theorem insR_mem {pr : Nat → Int} {x z : Nat} : ∀ {R : List Nat}, z ∈ insR pr x R ↔ z = x ∨ z ∈ R
 | [] => by simp [insR]
 | a :: r => by
  rw [insR]
  split
  ·rw [List.mem_cons, insR_mem (R := r), List.mem_cons]
   constructor
   ·rintro (h | h | h)
    ·exact .inr (.inl h)
    ·exact .inl h
    ·exact .inr (.inr h)
   ·rintro (h | h | h)
    ·exact .inr (.inl h)
    ·exact .inl h
    ·exact .inr (.inr h)
  ·simp
theorem xv_insert {y : Yd} {l : List Bt} {vol room : List Int} {fl : List (List Int)} (s : List Nat) (hs : ∀ x ∈ s, x < y.pits.length) (hl : s.length ≤ 8) :
 EvX Try.prog 122 [.own 1010 1 (s.map nD).length, .d (iD 0), .d (iD s.length), .fnv 87 [.box 1011]]
  (tkX y l vol room fl ++ cmX ++ [(1010, .row 3 1 (s.map nD) false)]) (.tup []) (tkX y l vol room fl ++ cmX ++ [(1010, .row 3 1 ((sortGo (priceF y) [] s).map nD) false)]) := by
 have hC := fun (a b : Nat) (ha : a < y.pits.length) (hb : b < y.pits.length) => xv_cmp (l := l) (vol := vol) (room := room) (fl := fl) ha hb
 have hsl : (s.map nD).length = s.length := List.length_map _
 unfold tkX cmX at hC ⊢
 cases s with
 | nil =>
  refine evx_of_awp tysOk mixed (fn := Try.f122) Try.func122 rfl rfl rfl ?_
  conv => whnf
  repeat' (first|((with_reducible refine Wr.inr ?_ ?_);(first|omega|(simp;omega));conv=>whnf)|fail)
  refine LoopK.o3 (fun _ : Unit => True) (fun _ => [(8, .d (iD 1))]) (fun _ => []) (fun _ => 0) () trivial (by refine ⟨?_, ?_, rfl⟩<;>(repeat' (first|exact True.intro|exact rfl|(refine ⟨?_,?_⟩)|(intro h;cases h;done)|(simp;done)|fail));done) ?_
  rintro ⟨⟩ -
  conv => whnf
  repeat' (first|((with_reducible refine Split.is_false ?_ ?_);decide;conv=>whnf)|fail)
  exact ⟨⟨[], (by refine ⟨?_, ?_, rfl⟩<;>(repeat' (first|exact True.intro|exact rfl|(refine ⟨?_,?_⟩)|(intro h;cases h;done)|(simp;done)|fail));done)⟩, rfl⟩
 | cons x0 r0 =>
  have hl0 : ((x0 :: r0).map nD).length = r0.length + 1 := by simp
  have hl1 : (x0 :: r0).length = r0.length + 1 := rfl
  have hmp0 : (x0 :: r0).map nD = ([x0].reverse ++ r0).map nD := rfl
  refine evx_of_awp tysOk mixed (fn := Try.f122) Try.func122 rfl rfl rfl ?_
  conv => whnf
  repeat' (first|((with_reducible refine Wr.inr ?_ ?_);(first|omega|(simp;omega));conv=>whnf)|fail)
  refine LoopK.o3 (fun x : List Nat × List Nat => sortGo (priceF y) x.1 x.2 = sortGo (priceF y) [] (x0 :: r0) ∧ x.1.length + x.2.length = r0.length + 1 ∧ (∀ z ∈ x.1, z < y.pits.length) ∧ (∀ z ∈ x.2, z < y.pits.length))
   (fun x => [(8, .d (iD x.1.length))]) (fun x => [(1010, .row 3 1 ((x.1.reverse ++ x.2).map nD) false)]) (fun x => x.2.length) ([x0], r0)
   ⟨rfl, by simp only [List.length_singleton];omega, fun z hz => hs z (by simp at hz;simp [hz]), fun z hz => hs z (List.mem_cons_of_mem _ hz)⟩ (by refine ⟨?_, ?_, rfl⟩<;>(repeat' (first|exact True.intro|exact rfl|(refine ⟨?_,?_⟩)|(intro h;cases h;done)|(simp;done)|fail));done) ?_
  rintro ⟨R, rest⟩ ⟨hgo, hlen, hR, hrest⟩
  dsimp only at hgo hlen hR hrest ⊢
  cases rest with
  | nil =>
   have e0 : ((R.reverse ++ []).map nD).length = R.length := by simp
   have e1 : ([] : List Nat).length = 0 := rfl
   have hmp1 : (R.reverse ++ []).map nD = (sortGo (priceF y) [] (x0 :: r0)).map nD := by rw [← hgo, sortGo, List.append_nil]
   conv => whnf
   repeat' (first|((with_reducible refine Split.dec (fun _=>?_) (fun _=>?_))<;>conv=>whnf)|(exfalso;first|omega|contradiction)|fail)
   exact ⟨⟨[], (by refine ⟨?_, ?_, rfl⟩<;>(repeat' (first|exact True.intro|exact rfl|(refine ⟨?_,?_⟩)|(intro h;cases h;done)|(simp;done)|exact hmp1|fail));done)⟩, rfl⟩
  | cons x r =>
   rw [sortGo] at hgo
   have e0 : ((R.reverse ++ x :: r).map nD).length = R.length + (r.length + 1) := by simp
   have e1 : (x :: r).length = r.length + 1 := rfl
   have hxP := hrest x (by simp)
   have hmp2 : (R.reverse ++ x :: r).map nD = (R.reverse ++ x :: ([] ++ r)).map nD := rfl
   conv => whnf
   repeat' (first|((with_reducible refine Split.dec (fun _=>?_) (fun _=>?_))<;>conv=>whnf)|(exfalso;first|omega|contradiction)|fail)
   refine LoopK.o3 (fun z : List Nat × List Nat => z.2.reverse ++ insR (priceF y) x z.1 = insR (priceF y) x R ∧ z.1.length + z.2.length = R.length ∧ (∀ q ∈ z.1, q < y.pits.length))
    (fun z => [(9, .d (iD z.1.length))]) (fun z => [(1010, .row 3 1 ((z.1.reverse ++ x :: (z.2 ++ r)).map nD) false)]) (fun z => z.1.length) (R, []) ⟨rfl, by simp, hR⟩ (by refine ⟨?_, ?_, rfl⟩<;>(repeat' (first|exact True.intro|exact rfl|(refine ⟨?_,?_⟩)|(intro h;cases h;done)|(simp;done)|fail));done) ?_
   rintro ⟨A, B⟩ ⟨hins, hAB, hA⟩
   dsimp only at hins hAB hA ⊢
   cases A with
   | nil =>
    have e2 : ([] : List Nat).length = 0 := rfl
    conv => whnf
    repeat' (first|((with_reducible refine Split.of_false ?_);conv=>whnf)|((with_reducible refine Split.is_false ?_ ?_);decide;conv=>whnf)|((with_reducible refine Wr.inr ?_ ?_);(first|omega|(simp;omega));conv=>whnf)|fail)
    have hfin : R.reverse.length = B.length := by rw [List.length_reverse]; omega
    rw [insR] at hins
    have hins' : insR (priceF y) x R = B.reverse ++ [x] := hins.symm
    have hil : ((insR (priceF y) x R).length : Int) = R.length + 1 := by rw [insR_len]; simp
    have hmp3 : (([] : List Nat).reverse ++ x :: (B ++ r)).map nD = ((insR (priceF y) x R).reverse ++ r).map nD := by rw [hins']; simp
    refine Again.av (insR (priceF y) x R, r) ⟨hgo, by rw [insR_len]; dsimp only; omega, fun z hz => (insR_mem.1 hz).elim (fun e => e ▸ hxP) (hR z), fun z hz => hrest z (List.mem_cons_of_mem _ hz)⟩ (by dsimp only; omega) ?_
    dsimp only
    rw [hil]
    exact (by refine ⟨?_, ?_, rfl⟩<;>(repeat' (first|exact True.intro|exact rfl|(refine ⟨?_,?_⟩)|(intro h;cases h;done)|(simp;done)|exact hmp3|fail));done)
   | cons a A =>
    have e2 : (a :: A).length = A.length + 1 := rfl
    have haP := hA a (by simp)
    have e3 : (((a :: A).reverse ++ x :: (B ++ r)).map nD).length = A.length + 2 + (B.length + r.length) := by simp; omega
    have hx1 : ((a :: A).reverse ++ x :: (B ++ r))[A.length + 1]? = some x := by simp
    have ha1 : ((a :: A).reverse ++ x :: (B ++ r))[A.length]? = some a := by simp
    have hc := hC x a hxP haP
    by_cases hlt : priceF y x < priceF y a
    ·have ec : cmpZ (priceF y x) (priceF y a) = -1 := by rw [cmpZ, if_pos hlt]
     rw [ec] at hc
     have i1 : ((a :: A).length : Int).toNat = A.length + 1 := by omega
     have i2 : (((a :: A).length : Int) - 1).toNat = A.length := by omega
     have hset : ((((a :: A).reverse ++ x :: (B ++ r)).map nD).set ((a :: A).length : Int).toNat (nD a))[(((a :: A).length : Int) - 1).toNat]? = some (nD a) := by
      rw [i1, i2, List.getElem?_set_ne (by omega), List.getElem?_map, ha1]; rfl
     have hmp4 : ((((a :: A).reverse ++ x :: (B ++ r)).map nD).set ((a :: A).length : Int).toNat (nD a)).set (((a :: A).length : Int) - 1).toNat (nD x) = (A.reverse ++ x :: ((a :: B) ++ r)).map nD := by
      rw [i1, i2]
      simp
     have hi3 : (A.length : Int) = ((a :: A).length : Int) - 1 := by omega
     conv => whnf
     repeat' (first|((refine PickE.map A.length ha1 (by omega) ?_);conv=>whnf)|((refine PickE.map (A.length + 1) hx1 (by omega) ?_);conv=>whnf)|((refine PickE.mk _ hset ?_);conv=>whnf)|((with_reducible refine Split.of_false ?_);conv=>whnf)|((with_reducible refine Split.is_true ?_ ?_);decide;conv=>whnf)|((with_reducible refine Split.dec (fun _=>?_) (fun _=>?_))<;>conv=>whnf)|((with_reducible refine Need.mk ?_ ?_);(first|omega|rfl|decide|(refine ⟨?_,?_⟩<;>simp<;>omega)|(simp;omega));conv=>whnf)|((with_reducible refine Wr.inr ?_ ?_);(first|omega|(simp;omega));conv=>whnf)|((with_reducible refine AltK.r ?_);(conv=>whnf);(first|(refine CallX.mk _ _ (hc) rfl ?_));conv=>whnf)|(exfalso;first|omega|contradiction)|fail)
     refine Again.av (A, a :: B) ⟨by dsimp only; rw [← hins, insR, if_pos hlt]; simp, by dsimp only; rw [List.length_cons]; omega, fun z hz => hA z (List.mem_cons_of_mem _ hz)⟩ (by dsimp only; omega) ?_
     dsimp only
     rw [hi3]
     exact (by refine ⟨?_, ?_, rfl⟩<;>(repeat' (first|exact True.intro|exact rfl|(refine ⟨?_,?_⟩)|(intro h;cases h;done)|(simp;done)|fail));done)
    ·have ec : ¬ cmpZ (priceF y x) (priceF y a) < 0 := by unfold cmpZ; split <;> (try split) <;> omega
     generalize cmpZ (priceF y x) (priceF y a) = cz at *
     conv => whnf
     repeat' (first|((refine PickE.map A.length ha1 (by omega) ?_);conv=>whnf)|((refine PickE.map (A.length + 1) hx1 (by omega) ?_);conv=>whnf)|((with_reducible refine Split.of_false ?_);conv=>whnf)|((with_reducible refine Split.dec (fun _=>?_) (fun _=>?_))<;>conv=>whnf)|((with_reducible refine Need.mk ?_ ?_);(first|omega|rfl|decide|(refine ⟨?_,?_⟩<;>simp<;>omega)|(simp;omega));conv=>whnf)|((with_reducible refine Wr.inr ?_ ?_);(first|omega|(simp;omega));conv=>whnf)|((with_reducible refine AltK.r ?_);(conv=>whnf);(first|(refine CallX.mk _ _ (hc) rfl ?_));conv=>whnf)|(exfalso;first|omega|contradiction)|fail)
     all_goals first
      |(exfalso; omega)
      | skip
     rw [insR, if_neg hlt] at hins
     have hins' : insR (priceF y) x R = B.reverse ++ x :: a :: A := hins.symm
     have hil : ((insR (priceF y) x R).length : Int) = R.length + 1 := by rw [insR_len]; simp
     have hmp3 : ((a :: A).reverse ++ x :: (B ++ r)).map nD = ((insR (priceF y) x R).reverse ++ r).map nD := by rw [hins']; simp
     refine Again.av (insR (priceF y) x R, r) ⟨hgo, by rw [insR_len]; dsimp only; omega, fun z hz => (insR_mem.1 hz).elim (fun e => e ▸ hxP) (hR z), fun z hz => hrest z (List.mem_cons_of_mem _ hz)⟩ (by dsimp only; omega) ?_
     dsimp only
     rw [hil]
     exact (by refine ⟨?_, ?_, rfl⟩<;>(repeat' (first|exact True.intro|exact rfl|(refine ⟨?_,?_⟩)|(intro h;cases h;done)|(simp;done)|exact hmp3|fail));done)
theorem xv_stable {y : Yd} {l : List Bt} {vol room : List Int} {fl : List (List Int)} (s : List Nat) (hs : ∀ x ∈ s, x < y.pits.length) (hl : s.length ≤ 8) :
 EvX Try.prog 107 [.own 1010 1 (s.map nD).length, .d (iD s.length), .fnv 87 [.box 1011]]
  (tkX y l vol room fl ++ cmX ++ [(1010, .row 3 1 (s.map nD) false)]) (.tup []) (tkX y l vol room fl ++ cmX ++ [(1010, .row 3 1 ((sortGo (priceF y) [] s).map nD) false)]) := by
 have hI := xv_insert (l := l) (vol := vol) (room := room) (fl := fl) s hs hl
 have hsl : (s.map nD).length = s.length := List.length_map _
 unfold tkX cmX at hI ⊢
 refine evx_of_awp tysOk mixed (fn := Try.f107) Try.func107 rfl rfl rfl ?_
 conv => whnf
 skip
 refine LoopK.unr 1 ?_
 conv => whnf
 repeat' (first|((with_reducible refine Split.dec (fun _=>?_) (fun _=>?_))<;>conv=>whnf)|((with_reducible refine AltK.r ?_);(conv=>whnf);(first|(refine CallX.mk _ _ (hI) rfl ?_));conv=>whnf)|(exfalso;first|omega|contradiction)|fail)
 refine LoopK.unr 1 ?_
 conv => whnf
 repeat' (first|((with_reducible refine Split.dec (fun _=>?_) (fun _=>?_))<;>conv=>whnf)|((with_reducible refine Wr.inr ?_ ?_);(first|omega|(simp;omega));conv=>whnf)|(exfalso;first|omega|contradiction)|fail)
 exact ⟨⟨[], (by refine ⟨?_, ?_, rfl⟩<;>(repeat' (first|exact True.intro|exact rfl|(refine ⟨?_,?_⟩)|(intro h;cases h;done)|(simp;done)|fail));done)⟩, rfl⟩
theorem xv_sortStable {y : Yd} {l : List Bt} {vol room : List Int} {fl : List (List Int)} (s : List Nat) (hs : ∀ x ∈ s, x < y.pits.length) (hl : s.length ≤ 8) :
 EvX Try.prog 86 [.own 1010 1 (s.map nD).length, .fnv 87 [.box 1011]]
  (tkX y l vol room fl ++ cmX ++ [(1010, .row 3 1 (s.map nD) false)]) (.tup []) (tkX y l vol room fl ++ cmX ++ [(1010, .row 3 1 ((sortGo (priceF y) [] s).map nD) false)]) := by
 have hI := xv_stable (l := l) (vol := vol) (room := room) (fl := fl) s hs hl
 have hsl : (s.map nD).length = s.length := List.length_map _
 rw [← hsl] at hI
 unfold tkX cmX at hI ⊢
 refine evx_of_awp tysOk mixed (fn := Try.f86) Try.func86 rfl rfl rfl ?_
 conv => whnf
 repeat' (first|((with_reducible refine AltK.r ?_);(conv=>whnf);(first|(refine CallX.mk _ _ (hI) rfl ?_));conv=>whnf)|fail)
 exact ⟨⟨[], (by refine ⟨?_, ?_, rfl⟩<;>(repeat' (first|exact True.intro|exact rfl|(refine ⟨?_,?_⟩)|(intro h;cases h;done)|(simp;done)|fail));done)⟩, rfl⟩
end Go.Proofs.Try
end

section
namespace Go.Proofs.Try
open Go Go.Vm
set_option maxRecDepth 20000
set_option maxHeartbeats 8000000
/-! The task: solve. -/
theorem TkOk.with {y : Yd} {l : List Bt} {vol room : List Int} {fl fl' : List (List Int)} (h : TkOk y l vol room fl) (h1 : fl'.length = fl.length) (h2 : ∀ r ∈ fl', r.length = y.pits.length) (h3 : okFl fl' = true) : TkOk y l vol room fl' :=
 ⟨h.hP, h.hL, h.hv, h.hr, h1.trans h.hf, h2, h.vb, h.rb, h3, h.cl⟩
theorem xv_push {y : Yd} {l : List Bt} {vol room : List Int} {fl : List (List Int)} (h : TkOk y l vol room fl) {n : Nat} (hn : n ≤ 1000) {pit : Nat} (hp : pit < y.pits.length) {r : Option (List (List Int))} (hr : pushF (accF y l) y.pits.length l.length n vol room fl pit = some r) :
 EvX Try.prog 89 [.ptr 1000 0, .d (iD pit)] (tkX y l vol room fl) (.d (.bool r.isSome)) (tkX y l vol room (r.getD fl)) ∧ TkOk y l vol room (r.getD fl) := by
 unfold pushF at hr
 cases hw : reachF (accF y l) y.pits.length l.length n vol fl with
 | none => rw [hw] at hr; cases hr
 | some w =>
  rw [hw] at hr
  simp only at hr
  split at hr
  ·rename_i hno
   cases hr
   exact ⟨xv_pushNo h hw hn hp hno, h⟩
  ·rename_i hno
   rw [not_or] at hno
   split at hr
   ·cases hr
   ·rename_i st a hpa
    split at hr
    ·cases hr
    ·rename_i fl' hap
     cases hr
     obtain ⟨k1, k2, k3⟩ := apF_keep hap h.fb h.row
     exact ⟨xv_pushYes h hw hn hp (by simpa using hno.1) hno.2 hpa hap, h.with k1 k2 k3⟩
def doneF (L : Nat) (vol : List Int) (fl : List (List Int)) : Bool := (List.range L).all fun b => !decide (0 < leftF vol fl b)
theorem sortGo_mem {pr : Nat → Int} {z : Nat} : ∀ {s R : List Nat}, z ∈ sortGo pr R s ↔ z ∈ R ∨ z ∈ s
 | [], R => by simp [sortGo]
 | x :: r, R => by
  rw [sortGo, sortGo_mem (s := r), insR_mem, List.mem_cons]
  constructor
  ·rintro ((h | h) | h)
   ·exact .inr (.inl h)
   ·exact .inl h
   ·exact .inr (.inr h)
  ·rintro (h | h | h)
   ·exact .inl (.inr h)
   ·exact .inl (.inl h)
   ·exact .inr h
theorem sortGo_len {pr : Nat → Int} : ∀ {s R : List Nat}, (sortGo pr R s).length = R.length + s.length
 | [], R => by simp [sortGo]
 | x :: r, R => by rw [sortGo, sortGo_len (s := r), insR_len, List.length_cons]; omega
theorem fills_at {acc : Nat → Nat → Bool} {P L n k : Nat} {vol room : List Int} {p : Nat} {r : List Nat} {fl fl' : List (List Int)} (h : fillsF acc P L n k vol room (p :: r) fl = some fl') :
 ∃ fm, fillF acc P L n vol room p k fl = some fm ∧ fillsF acc P L n k vol room r fm = some fl' := by
 rw [fillsF] at h
 split at h
 ·cases h
 ·rename_i fm hm
  exact ⟨fm, hm, h⟩
theorem fill_at {acc : Nat → Nat → Bool} {P L n : Nat} {vol room : List Int} {p k : Nat} {fl fl' : List (List Int)} (h : fillF acc P L n vol room p k fl = some fl') :
 ∃ m r, k = m + 1 ∧ pushF acc P L n vol room fl p = some r ∧ ((r = none ∧ fl' = fl) ∨ ∃ f, r = some f ∧ fillF acc P L n vol room p m f = some fl') := by
 cases k with
 | zero => rw [fillF] at h; cases h
 | succ m =>
  rw [fillF] at h
  split at h
  ·cases h
  ·rename_i hp
   cases h
   exact ⟨m, _, rfl, hp, .inl ⟨rfl, rfl⟩⟩
  ·rename_i f hp
   exact ⟨m, _, rfl, hp, .inr ⟨f, rfl, h⟩⟩
theorem fill_ok {y : Yd} {l : List Bt} {vol room : List Int} {n : Nat} (hn : n ≤ 1000) {p : Nat} (hp : p < y.pits.length) {fl' : List (List Int)} : ∀ {k : Nat} {fl : List (List Int)}, TkOk y l vol room fl → fillF (accF y l) y.pits.length l.length n vol room p k fl = some fl' → TkOk y l vol room fl'
 | 0, _, _, hf => by rw [fillF] at hf; cases hf
 | k + 1, fl, h, hf => by
  obtain ⟨m, r, hm, hr, hor⟩ := fill_at hf
  have hko := (xv_push h hn hp hr).2
  rcases hor with ⟨rfl, rfl⟩ | ⟨f, rfl, hf'⟩
  ·exact hko
  ·have hm : k = m := by omega
   subst hm
   exact fill_ok hn hp hko hf'
theorem fills_ok {y : Yd} {l : List Bt} {vol room : List Int} {n k : Nat} (hn : n ≤ 1000) {fl' : List (List Int)} : ∀ {s : List Nat} {fl : List (List Int)}, (∀ p ∈ s, p < y.pits.length) → TkOk y l vol room fl → fillsF (accF y l) y.pits.length l.length n k vol room s fl = some fl' → TkOk y l vol room fl'
 | [], fl, _, h, hf => by rw [fillsF] at hf; cases hf; exact h
 | p :: r, fl, hs, h, hf => by
  obtain ⟨fm, h1, h2⟩ := fills_at hf
  exact fills_ok hn (fun q hq => hs q (List.mem_cons_of_mem _ hq)) (fill_ok hn (hs p (by simp)) h h1) h2
theorem xv_solve {y : Yd} {l : List Bt} {vol room : List Int} {fl fl' : List (List Int)} (h : TkOk y l vol room fl) {n k : Nat} (hn : n ≤ 1000)
 (hf : fillsF (accF y l) y.pits.length l.length n k vol room (sortGo (priceF y) [] (List.range y.pits.length)) fl = some fl') :
 EvX Try.prog 42 [.ptr 1000 0] (tkX y l vol room fl) (.d (.bool (doneF l.length vol fl'))) (tkX y l vol room fl') := by
 have e1 := h.hv
 have e2 := h.hf
 have e3 := h.hL
 have e4 := h.hP
 have hlp : (y.pits.map ptD).length = y.pits.length := List.length_map _
 have hll : (l.map btD).length = l.length := List.length_map _
 have hS := xv_sortStable (y := y) (l := l) (vol := vol) (room := room) (fl := fl) (List.range y.pits.length) (fun x hx => List.mem_range.1 hx) (by rw [List.length_range]; exact e4)
 have hSm : ∀ z ∈ sortGo (priceF y) [] (List.range y.pits.length), z < y.pits.length := fun z hz => by
  rcases sortGo_mem.1 hz with h | h
  ·simp at h
  ·exact List.mem_range.1 h
 have hSl : (sortGo (priceF y) [] (List.range y.pits.length)).length = y.pits.length := by rw [sortGo_len]; simp
 have efl := (fills_ok hn hSm h hf).hf
 unfold tkX cmX at hS
 rw [h.hf] at hS
 have hS := hS.rn [(1010, 200), (1011, 1)] rfl
 replace hS : EvX Try.prog 86 [.own 200 1 ((List.range y.pits.length).map nD).length, .fnv 87 [.box 1]]
  [(1003, .mat 25 3 0 (fl.map fun r => some (r.map iD))), (1002, .row 3 1 (room.map iD) false), (1001, .row 3 1 (vol.map iD) false),
   (1000, .var [.d (.sl 6 (y.pits.map ptD)), .d (.sl 3 (y.bulk.map bkD)), .d (.sl 3 (y.deps.map dpD)), .d (.sl 1 (y.carry.map iD)), .d (.sl 5 (l.map btD)), .own 1001 1 (vol.map iD).length, .own 1002 1 (room.map iD).length, .own 1003 1 l.length] false), (1, .var [.ptr 1000 0] false), (200, .row 3 1 ((List.range y.pits.length).map nD) false)]
  (.tup [])
  [(1003, .mat 25 3 0 (fl.map fun r => some (r.map iD))), (1002, .row 3 1 (room.map iD) false), (1001, .row 3 1 (vol.map iD) false),
   (1000, .var [.d (.sl 6 (y.pits.map ptD)), .d (.sl 3 (y.bulk.map bkD)), .d (.sl 3 (y.deps.map dpD)), .d (.sl 1 (y.carry.map iD)), .d (.sl 5 (l.map btD)), .own 1001 1 (vol.map iD).length, .own 1002 1 (room.map iD).length, .own 1003 1 l.length] false), (1, .var [.ptr 1000 0] false), (200, .row 3 1 ((sortGo (priceF y) [] (List.range y.pits.length)).map nD) false)] := hS
 generalize sortGo (priceF y) [] (List.range y.pits.length) = ss at *
 unfold tkX
 rw [h.hf, efl]
 refine evx_of_awp tysOk mixed (fn := Try.f42) Try.func42 rfl rfl rfl ?_
 conv => whnf
 skip
 refine LoopK.o3 (fun i : Nat => i ≤ y.pits.length) (fun i => [(3, .own 200 1 ((List.range i).map nD).length), (14, .d (iD i))]) (fun i => [(200, .row 3 1 ((List.range i).map nD) false)]) (fun i => y.pits.length - i) 0 (by omega) (by refine ⟨?_, ?_, rfl⟩<;>(repeat' (first|exact True.intro|exact rfl|(refine ⟨?_,?_⟩)|(intro h;cases h;done)|(simp;done)|fail));done) ?_
 rintro i hi
 dsimp only at hi ⊢
 have hri : ((List.range i).map nD).length = i := by simp
 by_cases hil : i < y.pits.length
 ·have hmp1 : (List.range i).map nD ++ iD (i : Int) :: List.replicate 0 (D.int .i64 0) = (List.range (i + 1)).map nD := by rw [List.range_succ]; simp [nD]
  conv => whnf
  repeat' (first|((with_reducible refine Split.dec (fun _=>?_) (fun _=>?_))<;>conv=>whnf)|((with_reducible refine Need.mk ?_ ?_);(first|omega|rfl|decide|(refine ⟨?_,?_⟩<;>simp<;>omega)|(simp;omega));conv=>whnf)|((with_reducible refine Wr.inr ?_ ?_);(first|omega|(simp;omega));conv=>whnf)|(exfalso;first|omega|contradiction)|fail)
  exact Again.av (i + 1) (by omega) (by omega) (by refine ⟨?_, ?_, rfl⟩<;>(repeat' (first|exact True.intro|exact rfl|(refine ⟨?_,?_⟩)|(intro h;cases h;done)|(refine own_congr ?_;simp;done)|(simp;done)|exact hmp1|fail));done)
 ·have hie : i = y.pits.length := by omega
  subst hie
  conv => whnf
  repeat' (first|((with_reducible refine Split.dec (fun _=>?_) (fun _=>?_))<;>conv=>whnf)|((with_reducible refine Need.mk ?_ ?_);(first|omega|rfl|decide|(refine ⟨?_,?_⟩<;>simp<;>omega)|(simp;omega));conv=>whnf)|((with_reducible refine Wr.inr ?_ ?_);(first|omega|(simp;omega));conv=>whnf)|((with_reducible refine AltK.r ?_);(conv=>whnf);(first|(refine CallX.mk _ _ (hS) rfl ?_));conv=>whnf)|(exfalso;first|omega|contradiction)|fail)
  clear hS
  have hsl : (ss.map nD).length = ss.length := List.length_map _
  refine LoopK.o3 (fun x : Nat × List (List Int) => x.1 ≤ ss.length ∧ fillsF (accF y l) y.pits.length l.length n k vol room (ss.drop x.1) x.2 = some fl' ∧ TkOk y l vol room x.2)
   (fun x => [(27, .d (iD x.1))]) (fun x => [(1003, .mat 25 3 0 (x.2.map fun r => some (r.map iD)))]) (fun x => ss.length - x.1) (0, fl) ⟨by omega, hf, h⟩ (by refine ⟨?_, ?_, rfl⟩<;>(repeat' (first|exact True.intro|exact rfl|(refine ⟨?_,?_⟩)|(intro h;cases h;done)|(simp;done)|fail));done) ?_
  rintro ⟨j, fc⟩ ⟨hj, hfc, hk⟩
  dsimp only at hj hfc hk ⊢
  by_cases hjl : j < ss.length
  ·obtain ⟨p, hp⟩ := some_of_lt hjl
   have hpP := hSm p (List.mem_of_getElem? hp)
   rw [drop_of hp] at hfc
   obtain ⟨fm, hfm, hfc'⟩ := fills_at hfc
   conv => whnf
   repeat' (first|((refine PickE.map j hp (by omega) ?_);conv=>whnf)|((with_reducible refine Split.dec (fun _=>?_) (fun _=>?_))<;>conv=>whnf)|((with_reducible refine Need.mk ?_ ?_);(first|omega|rfl|decide|(refine ⟨?_,?_⟩<;>simp<;>omega)|(simp;omega));conv=>whnf)|(exfalso;first|omega|contradiction)|fail)
   refine LoopK.o3 (fun x : Nat × List (List Int) => fillF (accF y l) y.pits.length l.length n vol room p x.1 x.2 = some fm ∧ TkOk y l vol room x.2)
    (fun _ => []) (fun x => [(1003, .mat 25 3 0 (x.2.map fun r => some (r.map iD)))]) (fun x => x.1) (k, fc) ⟨hfm, hk⟩ (by refine ⟨?_, ?_, rfl⟩<;>(repeat' (first|exact True.intro|exact rfl|(refine ⟨?_,?_⟩)|(intro h;cases h;done)|(simp;done)|fail));done) ?_
   rintro ⟨m, fd⟩ ⟨hfd, hkd⟩
   dsimp only at hfd hkd ⊢
   obtain ⟨m', r, rfl, hr, hor⟩ := fill_at hfd
   obtain ⟨hc, hko⟩ := xv_push hkd hn hpP hr
   unfold tkX at hc
   rw [hkd.hf, hko.hf] at hc
   rcases hor with ⟨rfl, rfl⟩ | ⟨f, rfl, hf'⟩
   ·conv => whnf
    repeat' (first|((with_reducible refine Split.is_false ?_ ?_);decide;conv=>whnf)|((with_reducible refine Wr.inr ?_ ?_);(first|omega|(simp;omega));conv=>whnf)|((with_reducible refine AltK.r ?_);(conv=>whnf);(first|(refine CallX.mk _ _ (hc) rfl ?_));conv=>whnf)|fail)
    refine Again.av (j + 1, fm) ⟨by dsimp only; omega, hfc', hkd⟩ (by dsimp only; omega) ?_
    exact (by refine ⟨?_, ?_, rfl⟩<;>(repeat' (first|exact True.intro|exact rfl|(refine ⟨?_,?_⟩)|(intro h;cases h;done)|(simp;done)|fail));done)
   ·conv => whnf
    repeat' (first|((with_reducible refine Split.mk (fun _=>?_) (fun _=>?_))<;>conv=>whnf)|((with_reducible refine Wr.inr ?_ ?_);(first|omega|(simp;omega));conv=>whnf)|((with_reducible refine AltK.r ?_);(conv=>whnf);(first|(refine CallX.mk _ _ (hc) rfl ?_));conv=>whnf)|(exfalso;first|omega|contradiction)|fail)
    refine Again.av (m', f) ⟨hf', hko⟩ (by dsimp only; omega) ?_
    exact (by refine ⟨?_, ?_, rfl⟩<;>(repeat' (first|exact True.intro|exact rfl|(refine ⟨?_,?_⟩)|(intro h;cases h;done)|(simp;done)|fail));done)
  ·have hje : j = ss.length := by omega
   subst hje
   rw [List.drop_length, fillsF] at hfc
   cases hfc
   conv => whnf
   repeat' (first|((with_reducible refine Split.dec (fun _=>?_) (fun _=>?_))<;>conv=>whnf)|((with_reducible refine Need.mk ?_ ?_);(first|omega|rfl|decide|(refine ⟨?_,?_⟩<;>simp<;>omega)|(simp;omega));conv=>whnf)|(exfalso;first|omega|contradiction)|fail)
   refine LoopK.o3 (fun b : Nat => b ≤ l.length ∧ (List.range b).all (fun b => !decide (0 < leftF vol fl' b)) = true) (fun b => [(40, .d (iD b))]) (fun _ => []) (fun b => l.length - b) 0 ⟨by omega, rfl⟩ (by refine ⟨?_, ?_, rfl⟩<;>(repeat' (first|exact True.intro|exact rfl|(refine ⟨?_,?_⟩)|(intro h;cases h;done)|(simp;done)|fail));done) ?_
   rintro b ⟨hb, hall⟩
   dsimp only at hb hall ⊢
   by_cases hbl : b < l.length
   ·have hc := xv_left hk hbl
    unfold tkX at hc
    rw [hk.hf] at hc
    by_cases hz : 0 < leftF vol fl' b
    ·have hd : doneF l.length vol fl' = false := by
      rw [doneF, List.all_eq_false]
      exact ⟨b, List.mem_range.2 hbl, by simpa using hz⟩
     rw [hd]
     generalize leftF vol fl' b = z at *
     conv => whnf
     repeat' (first|((with_reducible refine Split.dec (fun _=>?_) (fun _=>?_))<;>conv=>whnf)|((with_reducible refine Wr.inr ?_ ?_);(first|omega|(simp;omega));conv=>whnf)|((with_reducible refine AltK.r ?_);(conv=>whnf);(first|(refine CallX.mk _ _ (hc) rfl ?_));conv=>whnf)|(exfalso;first|omega|contradiction)|fail)
     all_goals first
      | exact ⟨⟨[], (by refine ⟨?_, ?_, rfl⟩<;>(repeat' (first|exact True.intro|exact rfl|(refine ⟨?_,?_⟩)|(intro h;cases h;done)|(simp;done)|fail));done)⟩, rfl⟩
      |(exfalso; omega)
    ·have hn' : (List.range (b + 1)).all (fun b => !decide (0 < leftF vol fl' b)) = true := by
      rw [List.range_succ, List.all_append, hall]; simpa using hz
     generalize leftF vol fl' b = z at *
     conv => whnf
     repeat' (first|((with_reducible refine Split.dec (fun _=>?_) (fun _=>?_))<;>conv=>whnf)|((with_reducible refine Wr.inr ?_ ?_);(first|omega|(simp;omega));conv=>whnf)|((with_reducible refine AltK.r ?_);(conv=>whnf);(first|(refine CallX.mk _ _ (hc) rfl ?_));conv=>whnf)|(exfalso;first|omega|contradiction)|fail)
     all_goals first
      | exact Again.av (b + 1) ⟨by omega, hn'⟩ (by omega) (by refine ⟨?_, ?_, rfl⟩<;>(repeat' (first|exact True.intro|exact rfl|(refine ⟨?_,?_⟩)|(intro h;cases h;done)|(simp;done)|fail));done)
      |(exfalso; omega)
   ·have hbe : b = l.length := by omega
    subst hbe
    have hd : doneF l.length vol fl' = true := hall
    rw [hd]
    conv => whnf
    repeat' (first|((with_reducible refine Split.dec (fun _=>?_) (fun _=>?_))<;>conv=>whnf)|(exfalso;first|omega|contradiction)|fail)
    exact ⟨⟨[], (by refine ⟨?_, ?_, rfl⟩<;>(repeat' (first|exact True.intro|exact rfl|(refine ⟨?_,?_⟩)|(intro h;cases h;done)|(simp;done)|fail));done)⟩, rfl⟩
end Go.Proofs.Try
end

section
namespace Go.Proofs.Try
open Go Go.Vm
set_option maxRecDepth 20000
set_option maxHeartbeats 8000000
/-! The task: the assignment, its cost. -/
structure Al where
 n : Int
 pit : ByteArray
 vol : Int
def alD (a : Al) : D := .agg [iD a.n, .str a.pit, iD a.vol]
def numF (l : List Bt) (b : Nat) : Int := match l[b]? with
 | some x => x.n
 | none => 0
def nameF (y : Yd) (p : Nat) : ByteArray := match y.pits[p]? with
 | some q => q.name
 | none => ⟨#[]⟩
def cellA (y : Yd) (l : List Bt) (fl : List (List Int)) (b p : Nat) : Option Al := if 0 < cellZ fl b p then some ⟨numF l b, nameF y p, cellZ fl b p⟩ else none
def rowA (y : Yd) (l : List Bt) (fl : List (List Int)) (b k : Nat) : List Al := (List.range k).filterMap (cellA y l fl b)
def allF (y : Yd) (l : List Bt) (fl : List (List Int)) (i : Nat) : List Al := (List.range i).flatMap fun b => rowA y l fl b y.pits.length
theorem rowA_succ {y : Yd} {l : List Bt} {fl : List (List Int)} {b k : Nat} : rowA y l fl b (k + 1) = rowA y l fl b k ++ if 0 < cellZ fl b k then [⟨numF l b, nameF y k, cellZ fl b k⟩] else [] := by
 rw [rowA, List.range_succ, List.filterMap_append, rowA]
 congr 1
 simp only [List.filterMap_cons, cellA, List.filterMap_nil]
 split <;> rename_i h <;> split at h <;> simp_all
theorem rowA_len {y : Yd} {l : List Bt} {fl : List (List Int)} {b k : Nat} : (rowA y l fl b k).length ≤ k := by
 have := List.length_filterMap_le (cellA y l fl b) (List.range k)
 rwa [List.length_range] at this
theorem allF_succ {y : Yd} {l : List Bt} {fl : List (List Int)} {i : Nat} : allF y l fl (i + 1) = allF y l fl i ++ rowA y l fl i y.pits.length := by
 rw [allF, List.range_succ, List.flatMap_append, allF]; simp
theorem allF_len {y : Yd} {l : List Bt} {fl : List (List Int)} (h : y.pits.length ≤ 8) : ∀ i, (allF y l fl i).length ≤ 8 * i
 | 0 => by simp [allF]
 | i + 1 => by
  rw [allF_succ, List.length_append]
  have := allF_len (l := l) (fl := fl) h i
  have := rowA_len (y := y) (l := l) (fl := fl) (b := i) (k := y.pits.length)
  omega
theorem xv_allots {y : Yd} {l : List Bt} {vol room : List Int} {fl : List (List Int)} (h : TkOk y l vol room fl) :
 EvX Try.prog 43 [.ptr 1000 0] (tkX y l vol room fl) (.own 9 3 ((allF y l fl l.length).map alD).length) (tkX y l vol room fl ++ [(9, .row 106 3 ((allF y l fl l.length).map alD) false)]) := by
 have e1 := h.hv
 have e2 := h.hf
 have e3 := h.hL
 have e4 := h.hP
 have hlp : (y.pits.map ptD).length = y.pits.length := List.length_map _
 have hll : (l.map btD).length = l.length := List.length_map _
 have hlf : (fl.map fun r => some (r.map iD)).length = fl.length := List.length_map _
 unfold tkX
 refine evx_of_awp tysOk mixed (fn := Try.f43) Try.func43 rfl rfl rfl ?_
 conv => whnf
 skip
 refine LoopK.o3 (fun i : Nat => i ≤ l.length) (fun i => [(3, .own 200 3 ((allF y l fl i).map alD).length), (13, .d (iD i))]) (fun i => [(200, .row 106 3 ((allF y l fl i).map alD) false)]) (fun i => l.length - i) 0 (by omega) (by refine ⟨?_, ?_, rfl⟩<;>(repeat' (first|exact True.intro|exact rfl|(refine ⟨?_,?_⟩)|(intro h;cases h;done)|(simp;done)|fail));done) ?_
 rintro i hi
 dsimp only at hi ⊢
 have hAl := allF_len (l := l) (fl := fl) e4 i
 have hAm : ((allF y l fl i).map alD).length = (allF y l fl i).length := List.length_map _
 by_cases hil : i < l.length
 ·obtain ⟨b, hb⟩ := some_of_lt hil
  obtain ⟨row, hrow⟩ := some_of_lt (show i < fl.length by omega)
  have hrm := List.mem_of_getElem? hrow
  have hrl := h.row row hrm
  have hlr : (row.map iD).length = row.length := List.length_map _
  have hst := allF_succ (y := y) (l := l) (fl := fl) (i := i)
  generalize allF y l fl i = A at *
  have hmp0 : A.map alD = (A ++ rowA y l fl i 0).map alD := by simp [rowA]
  have hnb : numF l i = b.n := by simp [numF, hb]
  conv => whnf
  repeat' (first|((refine PickR.map i hrow (by omega) ?_);conv=>whnf)|((with_reducible refine Split.dec (fun _=>?_) (fun _=>?_))<;>conv=>whnf)|((with_reducible refine Need.mk ?_ ?_);(first|omega|rfl|decide|(refine ⟨?_,?_⟩<;>simp<;>omega)|(simp;omega));conv=>whnf)|(exfalso;first|omega|contradiction)|fail)
  refine LoopK.o3 (fun k : Nat => k ≤ y.pits.length) (fun k => [(3, .own 200 3 ((A ++ rowA y l fl i k).map alD).length), (20, .d (iD k)), (18, .sub 1003 0 (i : Int).toNat)]) (fun k => [(200, .row 106 3 ((A ++ rowA y l fl i k).map alD) false)]) (fun k => y.pits.length - k) 0 (by omega) (by refine ⟨?_, ?_, rfl⟩<;>(repeat' (first|exact True.intro|exact rfl|(refine ⟨?_,?_⟩)|(intro h;cases h;done)|(simp;done)|exact hmp0|((first|refine own_congr ?_|refine int_congr ?_|skip);simp [rowA];done)|fail));done) ?_
  rintro k hk
  dsimp only at hk ⊢
  by_cases hkl : k < y.pits.length
  ·obtain ⟨q, hq⟩ := some_of_lt hkl
   obtain ⟨x, hx⟩ := some_of_lt (show k < row.length by omega)
   have hcx : cellZ fl i k = x := by simp [cellZ, List.getD, hrow, hx]
   have hnq : nameF y k = q.name := by simp [nameF, hq]
   have hs := rowA_succ (y := y) (l := l) (fl := fl) (b := i) (k := k)
   rw [hcx, hnb, hnq] at hs
   have hRl := rowA_len (y := y) (l := l) (fl := fl) (b := i) (k := k)
   generalize rowA y l fl i k = R at *
   have hRm : ((A ++ R).map alD).length = A.length + R.length := by simp
   by_cases hx0 : 0 < x
   ·rw [if_pos hx0] at hs
    have hmp1 : ∀ z : D, (A ++ R).map alD ++ D.agg [iD b.n, .str q.name, iD x] :: List.replicate 0 z = (A ++ rowA y l fl i (k + 1)).map alD := fun z => by rw [hs]; simp [alD]
    conv => whnf
    repeat' (first|((refine PickE.map k hq (by omega) ?_);conv=>whnf)|((refine PickE.map i hb (by omega) ?_);conv=>whnf)|((refine PickE.map k hx (by omega) ?_);conv=>whnf)|((refine PickR.map i hrow (by omega) ?_);conv=>whnf)|((with_reducible refine Split.dec (fun _=>?_) (fun _=>?_))<;>conv=>whnf)|((with_reducible refine Need.mk ?_ ?_);(first|omega|rfl|decide|(refine ⟨?_,?_⟩<;>simp<;>omega)|(simp;omega));conv=>whnf)|((with_reducible refine Wr.inr ?_ ?_);(first|omega|(simp;omega));conv=>whnf)|(exfalso;first|omega|contradiction)|fail)
    all_goals first
     |(exfalso; omega)
     | skip
    refine Again.av (k + 1) (by omega) (by omega) ?_
    exact (by refine ⟨?_, ?_, rfl⟩<;>(repeat' (first|exact True.intro|exact rfl|(refine ⟨?_,?_⟩)|(intro h;cases h;done)|(simp;done)|exact hmp1 _|((first|refine own_congr ?_|refine int_congr ?_);simp [hs];omega)|fail));done)
   ·rw [if_neg hx0, List.append_nil] at hs
    conv => whnf
    repeat' (first|((refine PickE.map k hx (by omega) ?_);conv=>whnf)|((refine PickR.map i hrow (by omega) ?_);conv=>whnf)|((with_reducible refine Split.dec (fun _=>?_) (fun _=>?_))<;>conv=>whnf)|((with_reducible refine Need.mk ?_ ?_);(first|omega|rfl|decide|(refine ⟨?_,?_⟩<;>simp<;>omega)|(simp;omega));conv=>whnf)|((with_reducible refine Wr.inr ?_ ?_);(first|omega|(simp;omega));conv=>whnf)|(exfalso;first|omega|contradiction)|fail)
    all_goals first
     |(exfalso; omega)
     | skip
    refine Again.av (k + 1) (by omega) (by omega) ?_
    rw [hs]
    exact (by refine ⟨?_, ?_, rfl⟩<;>(repeat' (first|exact True.intro|exact rfl|(refine ⟨?_,?_⟩)|(intro h;cases h;done)|(simp;done)|fail));done)
  ·have hke : k = y.pits.length := by omega
   subst hke
   rw [← hst]
   conv => whnf
   repeat' (first|((with_reducible refine Split.dec (fun _=>?_) (fun _=>?_))<;>conv=>whnf)|((with_reducible refine Need.mk ?_ ?_);(first|omega|rfl|decide|(refine ⟨?_,?_⟩<;>simp<;>omega)|(simp;omega));conv=>whnf)|((with_reducible refine Wr.inr ?_ ?_);(first|omega|(simp;omega));conv=>whnf)|(exfalso;first|omega|contradiction)|fail)
   exact Again.av (i + 1) (by omega) (by omega) (by refine ⟨?_, ?_, rfl⟩<;>(repeat' (first|exact True.intro|exact rfl|(refine ⟨?_,?_⟩)|(intro h;cases h;done)|(simp;done)|fail));done)
 ·have hie : i = l.length := by omega
  subst hie
  conv => whnf
  repeat' (first|((with_reducible refine Split.dec (fun _=>?_) (fun _=>?_))<;>conv=>whnf)|((with_reducible refine Need.mk ?_ ?_);(first|omega|rfl|decide|(refine ⟨?_,?_⟩<;>simp<;>omega)|(simp;omega));conv=>whnf)|(exfalso;first|omega|contradiction)|fail)
  exact ⟨⟨[(9, some 200)], (by refine ⟨?_, ?_, rfl⟩<;>(repeat' (first|exact True.intro|exact rfl|(refine ⟨?_,?_⟩)|(intro h;cases h;done)|(simp;done)|fail));done)⟩, rfl⟩
def prA (y : Yd) (a : Al) : Int := a.vol * priceF y (pitI y a.pit).toNat
def costF (y : Yd) (xs : List Al) : Int := (xs.map (prA y)).sum
theorem sum_nn : ∀ {l : List Int}, (∀ x ∈ l, 0 ≤ x) → 0 ≤ l.sum
 | [], _ => by simp
 | x :: r, h => by
  have h1 := h x (by simp)
  have h2 := sum_nn (l := r) fun z hz => h z (by simp [hz])
  rw [List.sum_cons]; omega
theorem sum_take_le {l : List Int} (h : ∀ x ∈ l, 0 ≤ x) (i : Nat) : (l.take i).sum ≤ l.sum := by
 have e : l.sum = (l.take i).sum + (l.drop i).sum := by rw [← List.sum_append, List.take_append_drop]
 have := sum_nn (l := l.drop i) fun x hx => h x (List.mem_of_mem_drop hx)
 omega
theorem priceF_nn {y : Yd} (hp : ∀ p ∈ y.pits, 0 ≤ p.price) (j : Nat) : 0 ≤ priceF y j := by
 unfold priceF
 cases hq : y.pits[j]? with
 | none => simp
 | some q => exact hp q (List.mem_of_getElem? hq)
theorem prA_nn {y : Yd} {xs : List Al} (hx : ∀ a ∈ xs, 0 ≤ a.vol ∧ 0 ≤ pitI y a.pit) (hp : ∀ p ∈ y.pits, 0 ≤ p.price) : ∀ z ∈ xs.map (prA y), 0 ≤ z := by
 intro z hz
 obtain ⟨a, ha, rfl⟩ := List.mem_map.1 hz
 exact Int.mul_nonneg (hx a ha).1 (priceF_nn hp _)
theorem cost_le {y : Yd} {xs : List Al} (hx : ∀ a ∈ xs, 0 ≤ a.vol ∧ 0 ≤ pitI y a.pit) (hp : ∀ p ∈ y.pits, 0 ≤ p.price) (i : Nat) : costF y (xs.take i) ≤ costF y xs := by
 rw [costF, List.map_take]
 exact sum_take_le (prA_nn hx hp) i
theorem cost_nn {y : Yd} {xs : List Al} (hx : ∀ a ∈ xs, 0 ≤ a.vol ∧ 0 ≤ pitI y a.pit) (hp : ∀ p ∈ y.pits, 0 ≤ p.price) (i : Nat) : 0 ≤ costF y (xs.take i) := by
 rw [costF, List.map_take]
 exact sum_nn fun z hz => prA_nn hx hp z (List.mem_of_mem_take hz)
theorem xv_price {y : Yd} {l : List Bt} {vol room : List Int} {fl : List (List Int)} (h : TkOk y l vol room fl) (xs : List Al) (hn : xs.length ≤ 1000) (hx : ∀ a ∈ xs, 0 ≤ pitI y a.pit ∧ 0 ≤ a.vol ∧ a.vol ≤ 100000000000000000) (hp : ∀ p ∈ y.pits, 0 ≤ p.price ∧ p.price ≤ 10000) (hT : costF y xs ≤ 9000000000000000000) :
 EvX Try.prog 44 [.ptr 1000 0, .own 1004 3 (xs.map alD).length] ((1004, .row 106 3 (xs.map alD) false) :: tkX y l vol room fl) (.d (iD (costF y xs))) ((1004, .row 106 3 (xs.map alD) false) :: tkX y l vol room fl) := by
 have e4 := h.hP
 have hlp : (y.pits.map ptD).length = y.pits.length := List.length_map _
 have hlx : (xs.map alD).length = xs.length := List.length_map _
 have h0 : costF y (xs.take 0) = 0 := rfl
 unfold tkX
 refine evx_of_awp tysOk mixed (fn := Try.f44) Try.func44 rfl rfl rfl ?_
 conv => whnf
 skip
 refine LoopK.o3 (fun i : Nat => i ≤ xs.length) (fun i => [(5, .d (iD (costF y (xs.take i)))), (10, .d (iD i))]) (fun _ => []) (fun i => xs.length - i) 0 (by omega) (by refine ⟨?_, ?_, rfl⟩<;>(repeat' (first|exact True.intro|exact rfl|(refine ⟨?_,?_⟩)|(intro h;cases h;done)|(simp;done)|fail));done) ?_
 rintro i hi
 dsimp only at hi ⊢
 by_cases hil : i < xs.length
 ·obtain ⟨a, ha⟩ := some_of_lt hil
  obtain ⟨a1, a2, a3⟩ := hx a (List.mem_of_getElem? ha)
  obtain ⟨j, q, hj, hq, -⟩ := ix_at (show ¬ ixI (fun p => sEq p.name a.pit) y.pits < 0 by have : 0 ≤ ixI (fun p => sEq p.name a.pit) y.pits := a1; omega)
  have hw := ev_pitOf y a.pit (by omega)
  have hj : pitI y a.pit = j := hj
  rw [hj] at hw
  have hqp := hp q (List.mem_of_getElem? hq)
  have hpr : prA y a = a.vol * q.price := by rw [prA, hj, Int.toNat_natCast, priceF, hq]
  have hst : costF y (xs.take (i + 1)) = costF y (xs.take i) + a.vol * q.price := by rw [List.take_add_one, ha, ← hpr]; simp [costF]
  have hle := cost_le (y := y) (xs := xs) (fun a ha => ⟨(hx a ha).2.1, (hx a ha).1⟩) (fun p hp' => (hp p hp').1) (i + 1)
  have hge := cost_nn (y := y) (xs := xs) (fun a ha => ⟨(hx a ha).2.1, (hx a ha).1⟩) (fun p hp' => (hp p hp').1) i
  have hmul : 0 ≤ a.vol * q.price := Int.mul_nonneg a2 hqp.1
  have hxD : (xs.map alD)[(i : Int).toNat]? = some (D.agg [iD a.n, .str a.pit, iD a.vol]) := by rw [Int.toNat_natCast, List.getElem?_map, ha]; rfl
  rw [hst] at hle
  generalize costF y (xs.take i) = c at *
  conv => whnf
  repeat' (first|((refine PickE.map j hq (by omega) ?_);conv=>whnf)|((refine PickE.mk _ hxD ?_);conv=>whnf)|((with_reducible refine Split.dec (fun _=>?_) (fun _=>?_))<;>conv=>whnf)|((with_reducible refine Need.mk ?_ ?_);(first|omega|rfl|decide|(refine ⟨?_,?_⟩<;>simp<;>omega)|(simp;omega));conv=>whnf)|((with_reducible refine Wr.inr ?_ ?_);(first|omega|(simp;omega));conv=>whnf)|((with_reducible refine AltK.l ?_);(conv=>whnf);(first|(refine CallK.mk _ (hw) ?_));conv=>whnf)|(exfalso;first|omega|contradiction)|fail)
  refine Again.av (i + 1) (by omega) (by omega) ?_
  rw [hst]
  exact (by refine ⟨?_, ?_, rfl⟩<;>(repeat' (first|exact True.intro|exact rfl|(refine ⟨?_,?_⟩)|(intro h;cases h;done)|(simp;done)|fail));done)
 ·have hie : i = xs.length := by omega
  subst hie
  rw [List.take_length]
  conv => whnf
  repeat' (first|((with_reducible refine Split.dec (fun _=>?_) (fun _=>?_))<;>conv=>whnf)|((with_reducible refine Need.mk ?_ ?_);(first|omega|rfl|decide|(refine ⟨?_,?_⟩<;>simp<;>omega)|(simp;omega));conv=>whnf)|(exfalso;first|omega|contradiction)|fail)
  exact ⟨⟨[], (by refine ⟨?_, ?_, rfl⟩<;>(repeat' (first|exact True.intro|exact rfl|(refine ⟨?_,?_⟩)|(intro h;cases h;done)|(simp;done)|fail));done)⟩, rfl⟩
end Go.Proofs.Try
end

section
namespace Go.Proofs.Try
open Go Go.Vm
set_option maxRecDepth 20000
set_option maxHeartbeats 8000000
/-! The task: the tariff. -/
structure TfOk (P L : Nat) (B : Int) (s : Tf) : Prop where
 bl : s.bs.length = L
 pl : s.ps.length = P
 bb : ∀ x ∈ s.bs, -B ≤ x ∧ x ≤ B
 pb : ∀ x ∈ s.ps, -B ≤ x ∧ x ≤ B
theorem TfOk.mono {P L : Nat} {B B' : Int} {s : Tf} (h : TfOk P L B s) (hB : B ≤ B') : TfOk P L B' s :=
 ⟨h.bl, h.pl, fun x hx => by have := h.bb x hx; omega, fun x hx => by have := h.pb x hx; omega⟩
theorem getD_bd {B : Int} {l : List Int} (h : ∀ x ∈ l, -B ≤ x ∧ x ≤ B) (hB : 0 ≤ B) (i : Nat) : -B ≤ l.getD i 0 ∧ l.getD i 0 ≤ B := by
 rw [List.getD]
 cases hx : l[i]? with
 | none => simp; omega
 | some x => exact h x (List.mem_of_getElem? hx)
theorem set_bd {B B' v : Int} {l : List Int} (h : ∀ x ∈ l, -B ≤ x ∧ x ≤ B) (hB : B ≤ B') (hv : -B' ≤ v ∧ v ≤ B') (i : Nat) : ∀ x ∈ l.set i v, -B' ≤ x ∧ x ≤ B' := by
 intro x hx
 rcases List.mem_or_eq_of_mem_set hx with h1 | h1
 ·have := h x h1; omega
 ·rw [h1]; exact hv
theorem tf1_ok {P L : Nat} {B : Int} {s : Tf} {pr : Nat → Int} {b p : Nat} (hp : 0 ≤ pr p ∧ pr p ≤ 10000) (h : TfOk P L B s) (hB : 0 ≤ B) : TfOk P L (B + 10000) (tf1 pr b s p) := by
 have h1 := getD_bd h.pb hB p
 unfold tf1
 split
 ·exact ⟨by simp [h.bl], h.pl, set_bd h.bb (by omega) (by omega) b, fun x hx => by have := h.pb x hx; omega⟩
 ·exact h.mono (by omega)
theorem tf2_ok {P L : Nat} {B : Int} {s : Tf} {pr : Nat → Int} {fl : List (List Int)} {b p : Nat} (hp : 0 ≤ pr p ∧ pr p ≤ 10000) (h : TfOk P L B s) (hB : 0 ≤ B) : TfOk P L (B + 10000) (tf2 pr fl b s p) := by
 have h1 := getD_bd h.bb hB b
 unfold tf2
 split
 ·exact ⟨h.bl, by simp [h.pl], fun x hx => by have := h.bb x hx; omega, set_bd h.pb (by omega) (by omega) p⟩
 ·exact h.mono (by omega)
theorem tfP_ok {P L : Nat} {B : Int} {s : Tf} {acc : Nat → Nat → Bool} {pr : Nat → Int} {fl : List (List Int)} {b p : Nat} (hp : 0 ≤ pr p ∧ pr p ≤ 10000) (h : TfOk P L B s) (hB : 0 ≤ B) : TfOk P L (B + 20000) (tfP acc pr fl b s p) := by
 unfold tfP
 split
 ·exact (tf2_ok hp (tf1_ok hp h hB) (by omega)).mono (by omega)
 ·exact h.mono (by omega)
theorem okTf_ok {P L : Nat} {s : Tf} (h : okTf s = true) (h1 : s.bs.length = L) (h2 : s.ps.length = P) : TfOk P L 1000000000000 s := by
 simp only [okTf, Bool.and_eq_true, List.all_eq_true, okT, decide_eq_true_eq] at h
 exact ⟨h1, h2, h.1, h.2⟩
def tfS (P L : Nat) (room : List Int) (fl : List (List Int)) : Tf :=
 ⟨(List.range L).foldl (fun s b => s.set b 10000) (List.replicate L 0), (List.range P).foldl (fun s p => s.set p (if 0 < freeF room fl p then 0 else 10000)) (List.replicate P 0), true⟩
theorem setF_len {g : Nat → Int} {n : Nat} : ∀ i, ((List.range i).foldl (fun s p => s.set p (g p)) (List.replicate n (0 : Int))).length = n
 | 0 => by simp
 | i + 1 => by rw [range_snoc, List.length_set]; exact setF_len i
def tfD (t : Tf) : D := .agg [.sl 1 (t.bs.map iD), .sl 1 (t.ps.map iD)]
theorem tfGo_at {acc : Nat → Nat → Bool} {pr : Nat → Int} {fl : List (List Int)} {P L m : Nat} {s t : Tf} (h : tfGo acc pr fl P L m s = some t) :
 (s.again = false ∧ s = t) ∨ (s.again = true ∧ okTf s = true ∧ ∃ k, m = k + 1 ∧ tfGo acc pr fl P L k (tfR acc pr fl P L s) = some t) := by
 cases m with
 | zero =>
  rw [tfGo] at h
  split at h
  ·rename_i h1; cases h; exact .inl ⟨h1, rfl⟩
  ·cases h
 | succ k =>
  rw [tfGo] at h
  split at h
  ·rename_i h1; cases h; exact .inl ⟨h1, rfl⟩
  ·rename_i h1
   split at h
   ·rename_i h2
    exact .inr ⟨by simpa using h1, h2, k, rfl, h⟩
   ·cases h
theorem xv_tariff {y : Yd} {l : List Bt} {vol room : List Int} {fl : List (List Int)} (h : TkOk y l vol room fl) (hpp : ∀ p ∈ y.pits, 0 ≤ p.price ∧ p.price ≤ 10000) {m : Nat} {t : Tf} (ht : tfGo (accF y l) (priceF y) fl y.pits.length l.length m (tfS y.pits.length l.length room fl) = some t) :
 EvX Try.prog 45 [.ptr 1000 0] (tkX y l vol room fl) (.d (tfD t)) (tkX y l vol room fl) := by
 have e1 := h.hv
 have e2 := h.hf
 have e3 := h.hL
 have e4 := h.hP
 have hlp : (y.pits.map ptD).length = y.pits.length := List.length_map _
 have hll : (l.map btD).length = l.length := List.length_map _
 have hlf : (fl.map fun r => some (r.map iD)).length = fl.length := List.length_map _
 have hFr := fun (p : Nat) (hp : p < y.pits.length) => xv_free h hp
 have hAc := fun (p b : Nat) (hp : p < y.pits.length) (hb : b < l.length) => xv_accepts h hp hb
 unfold tkX at hFr hAc ⊢
 have hmp0 : List.replicate ((y.pits.map ptD).length : Int).toNat (D.int .i64 0) = ((List.range 0).foldl (fun s p => s.set p (if 0 < freeF room fl p then 0 else 10000)) (List.replicate y.pits.length (0 : Int))).map iD := by simp [iD]
 have hrb : ((List.replicate ((l.map btD).length : Int).toNat (D.int .i64 0)).length : Int) = l.length := by simp
 have hrp : ((List.replicate ((y.pits.map ptD).length : Int).toNat (D.int .i64 0)).length : Int) = y.pits.length := by simp
 refine evx_of_awp tysOk mixed (fn := Try.f45) Try.func45 rfl rfl rfl ?_
 conv => whnf
 repeat' (first|((with_reducible refine Need.mk ?_ ?_);(first|omega|rfl|decide|(refine ⟨?_,?_⟩<;>simp<;>omega)|(simp;omega));conv=>whnf)|fail)
 refine LoopK.o3 (fun i : Nat => i ≤ y.pits.length) (fun i => [(27, .d (iD i))]) (fun i => [(18, .row 3 1 (((List.range i).foldl (fun s p => s.set p (if 0 < freeF room fl p then 0 else 10000)) (List.replicate y.pits.length (0 : Int))).map iD) false)]) (fun i => y.pits.length - i) 0 (by omega) (by refine ⟨?_, ?_, rfl⟩<;>(repeat' (first|exact True.intro|exact rfl|(refine ⟨?_,?_⟩)|(intro h;cases h;done)|(simp;done)|exact hmp0|fail));done) ?_
 rintro i hi
 dsimp only at hi ⊢
 have hln := setF_len (g := fun p => if 0 < freeF room fl p then 0 else 10000) (n := y.pits.length) i
 have hst := range_snoc (fun (s : List Int) p => s.set p (if 0 < freeF room fl p then 0 else 10000)) (List.replicate y.pits.length (0 : Int)) i
 by_cases hil : i < y.pits.length
 ·have hc := hFr i hil
  generalize (List.range i).foldl (fun (s : List Int) p => s.set p (if 0 < freeF room fl p then 0 else 10000)) (List.replicate y.pits.length (0 : Int)) = ps at *
  have hlm : (ps.map iD).length = ps.length := List.length_map _
  obtain ⟨x, hx⟩ := some_of_lt (show i < ps.length by omega)
  by_cases hz : 0 < freeF room fl i
  ·rw [if_pos hz] at hst
   have hset : ((ps.map iD).set (i : Int).toNat (iD 10000))[(i : Int).toNat]? = some (iD 10000) := by rw [List.getElem?_set_self (by omega)]
   have hmp1 : ((ps.map iD).set (i : Int).toNat (iD 10000)).set (i : Int).toNat (iD 0) = (ps.set i 0).map iD := by rw [List.set_set, Int.toNat_natCast, List.map_set]
   generalize freeF room fl i = z at *
   conv => whnf
   repeat' (first|((refine PickE.map i hx (by omega) ?_);conv=>whnf)|((refine PickE.mk _ hset ?_);conv=>whnf)|((with_reducible refine Split.dec (fun _=>?_) (fun _=>?_))<;>conv=>whnf)|((with_reducible refine Need.mk ?_ ?_);(first|omega|rfl|decide|(refine ⟨?_,?_⟩<;>simp<;>omega)|(simp;omega));conv=>whnf)|((with_reducible refine Wr.inr ?_ ?_);(first|omega|(simp;omega));conv=>whnf)|((with_reducible refine AltK.r ?_);(conv=>whnf);(first|(refine CallX.mk _ _ (hc) rfl ?_));conv=>whnf)|(exfalso;first|omega|contradiction)|fail)
   all_goals first
    |(exfalso; omega)
    | skip
   refine Again.av (i + 1) (by omega) (by omega) ?_
   rw [hst]
   exact (by refine ⟨?_, ?_, rfl⟩<;>(repeat' (first|exact True.intro|exact rfl|(refine ⟨?_,?_⟩)|(intro h;cases h;done)|(simp;done)|exact hmp1|fail));done)
  ·rw [if_neg hz] at hst
   have hmp1 : (ps.map iD).set (i : Int).toNat (iD 10000) = (ps.set i 10000).map iD := by rw [Int.toNat_natCast, List.map_set]
   generalize freeF room fl i = z at *
   conv => whnf
   repeat' (first|((refine PickE.map i hx (by omega) ?_);conv=>whnf)|((with_reducible refine Split.dec (fun _=>?_) (fun _=>?_))<;>conv=>whnf)|((with_reducible refine Need.mk ?_ ?_);(first|omega|rfl|decide|(refine ⟨?_,?_⟩<;>simp<;>omega)|(simp;omega));conv=>whnf)|((with_reducible refine Wr.inr ?_ ?_);(first|omega|(simp;omega));conv=>whnf)|((with_reducible refine AltK.r ?_);(conv=>whnf);(first|(refine CallX.mk _ _ (hc) rfl ?_));conv=>whnf)|(exfalso;first|omega|contradiction)|fail)
   all_goals first
    |(exfalso; omega)
    | skip
   refine Again.av (i + 1) (by omega) (by omega) ?_
   rw [hst]
   exact (by refine ⟨?_, ?_, rfl⟩<;>(repeat' (first|exact True.intro|exact rfl|(refine ⟨?_,?_⟩)|(intro h;cases h;done)|(simp;done)|exact hmp1|fail));done)
 have hie : i = y.pits.length := by omega
 subst hie
 clear hst hil hi hmp0
 have hps : (tfS y.pits.length l.length room fl).ps = (List.range y.pits.length).foldl (fun s p => s.set p (if 0 < freeF room fl p then 0 else 10000)) (List.replicate y.pits.length (0 : Int)) := rfl
 have hbs : (tfS y.pits.length l.length room fl).bs = (List.range l.length).foldl (fun s b => s.set b 10000) (List.replicate l.length (0 : Int)) := rfl
 have hag : (tfS y.pits.length l.length room fl).again = true := rfl
 rw [← hps] at hln ⊢
 generalize tfS y.pits.length l.length room fl = s0 at *
 have hmpa : AV.d (D.bool true) = AV.d (D.bool s0.again) := by rw [hag]
 have hmp0 : List.replicate ((l.map btD).length : Int).toNat (D.int .i64 0) = ((List.range 0).foldl (fun s b => s.set b 10000) (List.replicate l.length (0 : Int))).map iD := by simp [iD]
 conv => whnf
 repeat' (first|((with_reducible refine Split.dec (fun _=>?_) (fun _=>?_))<;>conv=>whnf)|((with_reducible refine Need.mk ?_ ?_);(first|omega|rfl|decide|(refine ⟨?_,?_⟩<;>simp<;>omega)|(simp;omega));conv=>whnf)|(exfalso;first|omega|contradiction)|fail)
 refine LoopK.o3 (fun i : Nat => i ≤ l.length) (fun i => [(43, .d (iD i))]) (fun i => [(24, .row 3 1 (((List.range i).foldl (fun s b => s.set b 10000) (List.replicate l.length (0 : Int))).map iD) false)]) (fun i => l.length - i) 0 (by omega) (by refine ⟨?_, ?_, rfl⟩<;>(repeat' (first|exact True.intro|exact rfl|(refine ⟨?_,?_⟩)|(intro h;cases h;done)|(simp;done)|exact hmp0|fail));done) ?_
 rintro i hi
 dsimp only at hi ⊢
 have hln2 := setF_len (g := fun _ => 10000) (n := l.length) i
 have hst := range_snoc (fun (s : List Int) b => s.set b 10000) (List.replicate l.length (0 : Int)) i
 by_cases hil : i < l.length
 ·generalize (List.range i).foldl (fun (s : List Int) b => s.set b 10000) (List.replicate l.length (0 : Int)) = bs at *
  have hlm : (bs.map iD).length = bs.length := List.length_map _
  obtain ⟨x, hx⟩ := some_of_lt (show i < bs.length by omega)
  have hmp1 : (bs.map iD).set (i : Int).toNat (iD 10000) = (bs.set i 10000).map iD := by rw [Int.toNat_natCast, List.map_set]
  conv => whnf
  repeat' (first|((refine PickE.map i hx (by omega) ?_);conv=>whnf)|((with_reducible refine Split.dec (fun _=>?_) (fun _=>?_))<;>conv=>whnf)|((with_reducible refine Need.mk ?_ ?_);(first|omega|rfl|decide|(refine ⟨?_,?_⟩<;>simp<;>omega)|(simp;omega));conv=>whnf)|((with_reducible refine Wr.inr ?_ ?_);(first|omega|(simp;omega));conv=>whnf)|(exfalso;first|omega|contradiction)|fail)
  refine Again.av (i + 1) (by omega) (by omega) ?_
  rw [hst]
  exact (by refine ⟨?_, ?_, rfl⟩<;>(repeat' (first|exact True.intro|exact rfl|(refine ⟨?_,?_⟩)|(intro h;cases h;done)|(simp;done)|exact hmp1|fail));done)
 have hie : i = l.length := by omega
 subst hie
 rw [← hbs] at hln2 ⊢
 clear hst hil hi hmp0 hbs hps
 conv => whnf
 repeat' (first|((with_reducible refine Split.dec (fun _=>?_) (fun _=>?_))<;>conv=>whnf)|((with_reducible refine Need.mk ?_ ?_);(first|omega|rfl|decide|(refine ⟨?_,?_⟩<;>simp<;>omega)|(simp;omega));conv=>whnf)|(exfalso;first|omega|contradiction)|fail)
 refine LoopK.o3 (fun x : Nat × Tf => tfGo (accF y l) (priceF y) fl y.pits.length l.length x.1 x.2 = some t ∧ x.2.bs.length = l.length ∧ x.2.ps.length = y.pits.length)
  (fun x => [(7, .d (.bool x.2.again))]) (fun x => [(18, .row 3 1 (x.2.ps.map iD) false), (24, .row 3 1 (x.2.bs.map iD) false)]) (fun x => x.1) (m, s0) ⟨ht, hln2, hln⟩ (by refine ⟨?_, ?_, rfl⟩<;>(repeat' (first|exact True.intro|exact rfl|(refine ⟨?_,?_⟩)|(intro h;cases h;done)|(simp;done)|exact hmpa|fail));done) ?_
 clear ht hln hln2 hag hmpa
 rintro ⟨m, s⟩ ⟨hgo, hbl, hpl⟩
 dsimp only at hgo hbl hpl ⊢
 rcases tfGo_at hgo with ⟨hag, rfl⟩ | ⟨hag, hok, m', rfl, hgo'⟩
 ·have w1 := ev_cloned s.bs (by omega)
  have w2 := ev_cloned s.ps (by omega)
  rw [hag]
  conv => whnf
  repeat' (first|((with_reducible refine Split.of_false ?_);conv=>whnf)|((with_reducible refine Need.mk ?_ ?_);(first|omega|rfl|decide|(refine ⟨?_,?_⟩<;>simp<;>omega)|(simp;omega));conv=>whnf)|((with_reducible refine AltK.l ?_);(conv=>whnf);(first|(refine CallK.mk _ (w1) ?_)|(refine CallK.mk _ (w2) ?_));conv=>whnf)|fail)
  exact ⟨⟨[], (by refine ⟨?_, ?_, rfl⟩<;>(repeat' (first|exact True.intro|exact rfl|(refine ⟨?_,?_⟩)|(intro h;cases h;done)|(simp;done)|fail));done)⟩, rfl⟩
 ·have hT := okTf_ok hok hbl hpl
  rw [hag]
  obtain ⟨W, hW⟩ : ∃ W : Nat → Tf, ∀ b, W b = (List.range b).foldl (tfB (accF y l) (priceF y) fl y.pits.length) ⟨s.bs, s.ps, false⟩ := ⟨_, fun _ => rfl⟩
  have hW0 : W 0 = ⟨s.bs, s.ps, false⟩ := hW 0
  have hWs : ∀ b, W (b + 1) = tfB (accF y l) (priceF y) fl y.pits.length (W b) b := fun b => by rw [hW, range_snoc, ← hW]
  have hWL : tfR (accF y l) (priceF y) fl y.pits.length l.length s = W l.length := by rw [tfR, hW]
  rw [hWL] at hgo'
  clear hW hWL
  have hT0 : TfOk y.pits.length l.length (1000000000000 + 20000 * (8 * (0 : Nat))) (W 0) := by rw [hW0]; exact ⟨hT.bl, hT.pl, fun x hx => by have := hT.bb x hx; omega, fun x hx => by have := hT.pb x hx; omega⟩
  conv => whnf
  repeat' (first|((with_reducible refine Split.of_true ?_);conv=>whnf)|fail)
  refine LoopK.o3 (fun b : Nat => b ≤ l.length ∧ TfOk y.pits.length l.length (1000000000000 + 20000 * (8 * b)) (W b)) (fun b => [(7, .d (.bool (W b).again)), (53, .d (iD b))]) (fun b => [(18, .row 3 1 ((W b).ps.map iD) false), (24, .row 3 1 ((W b).bs.map iD) false)]) (fun b => l.length - b) 0 ⟨by omega, hT0⟩ (by dsimp only;rw [hW0];exact (by refine ⟨?_, ?_, rfl⟩<;>(repeat' (first|exact True.intro|exact rfl|(refine ⟨?_,?_⟩)|(intro h;cases h;done)|(simp;done)|fail));done)) ?_
  have hsbs : (s.bs.map iD).length = l.length := by rw [List.length_map]; exact hbl
  clear hT0 hT hbl hpl hag hok hgo
  rintro b ⟨hb, hTb⟩
  dsimp only at hb hTb ⊢
  have hws := hWs b
  have hlbs : ((W b).bs.map iD).length = l.length := by rw [List.length_map]; exact hTb.bl
  have hlps : ((W b).ps.map iD).length = y.pits.length := by rw [List.length_map]; exact hTb.pl
  by_cases hbl : b < l.length
  ·obtain ⟨row, hrow⟩ := some_of_lt (show b < fl.length by omega)
   have hrm := List.mem_of_getElem? hrow
   have hrl := h.row row hrm
   have hlr : (row.map iD).length = row.length := List.length_map _
   generalize W b = w at *
   obtain ⟨U, hU⟩ : ∃ U : Nat → Tf, ∀ p, U p = (List.range p).foldl (tfP (accF y l) (priceF y) fl b) w := ⟨_, fun _ => rfl⟩
   have hU0 : U 0 = w := hU 0
   have hUs : ∀ p, U (p + 1) = tfP (accF y l) (priceF y) fl b (U p) p := fun p => by rw [hU, range_snoc, ← hU]
   have hUP : W (b + 1) = U y.pits.length := by rw [hws, tfB, hU]
   clear hU hws
   conv => whnf
   repeat' (first|((with_reducible refine Split.dec (fun _=>?_) (fun _=>?_))<;>conv=>whnf)|(exfalso;first|omega|contradiction)|fail)
   refine LoopK.o3 (fun p : Nat => p ≤ y.pits.length ∧ TfOk y.pits.length l.length (1000000000000 + 20000 * (8 * b + p)) (U p)) (fun p => [(7, .d (.bool (U p).again)), (58, .d (iD p))]) (fun p => [(18, .row 3 1 ((U p).ps.map iD) false), (24, .row 3 1 ((U p).bs.map iD) false)]) (fun p => y.pits.length - p) 0 ⟨by omega, by rw [hU0];exact hTb.mono (by omega)⟩ (by dsimp only;rw [hU0];exact (by refine ⟨?_, ?_, rfl⟩<;>(repeat' (first|exact True.intro|exact rfl|(refine ⟨?_,?_⟩)|(intro h;cases h;done)|(simp;done)|fail));done)) ?_
   have hwps := hlps
   clear hlbs hlps hTb
   rintro p ⟨hp, hTp⟩
   dsimp only at hp hTp ⊢
   have hus := hUs p
   by_cases hpl : p < y.pits.length
   ·obtain ⟨q, hq⟩ := some_of_lt hpl
    have hqp := hpp q (List.mem_of_getElem? hq)
    have hprq : priceF y p = q.price := by rw [priceF, hq]
    have hTn : TfOk y.pits.length l.length (1000000000000 + 20000 * (8 * b + (p + 1 : Nat))) (U (p + 1)) := by
     rw [hus]
     exact (tfP_ok (by rw [hprq]; exact hqp) hTp (by omega)).mono (by omega)
    have hac := hAc p b hpl hbl
    generalize U p = u at *
    have hlbs : (u.bs.map iD).length = l.length := by rw [List.length_map]; exact hTp.bl
    have hlps : (u.ps.map iD).length = y.pits.length := by rw [List.length_map]; exact hTp.pl
    cases ha : accF y l p b with
    | false =>
     have hst : U (p + 1) = u := by rw [hus, tfP, ha]; rfl
     rw [ha] at hac
     conv => whnf
     repeat' (first|((with_reducible refine Split.of_false ?_);conv=>whnf)|(with_reducible refine Split.neg ?_)|((with_reducible refine Split.dec (fun _=>?_) (fun _=>?_))<;>conv=>whnf)|((with_reducible refine Wr.inr ?_ ?_);(first|omega|(simp;omega));conv=>whnf)|((with_reducible refine AltK.r ?_);(conv=>whnf);(first|(refine CallX.mk _ _ (hac) rfl ?_));conv=>whnf)|(exfalso;first|omega|contradiction)|fail)
     refine Again.av (p + 1) ⟨by omega, hTn⟩ (by omega) ?_
     rw [hst]
     exact (by refine ⟨?_, ?_, rfl⟩<;>(repeat' (first|exact True.intro|exact rfl|(refine ⟨?_,?_⟩)|(intro h;cases h;done)|(simp;done)|fail));done)
    | true =>
     rw [ha] at hac
     obtain ⟨pv, hpv⟩ := some_of_lt (show p < u.ps.length by rw [hTp.pl]; exact hpl)
     obtain ⟨bv, hbv⟩ := some_of_lt (show b < u.bs.length by rw [hTp.bl]; exact hbl)
     obtain ⟨cx, hcx⟩ := some_of_lt (show p < row.length by omega)
     have hpvb := hTp.pb pv (List.mem_of_getElem? hpv)
     have hbvb := hTp.bb bv (List.mem_of_getElem? hbv)
     have d1 : u.ps.getD p 0 = pv := by rw [List.getD, hpv]; rfl
     have d2 : u.bs.getD b 0 = bv := by rw [List.getD, hbv]; rfl
     have d3 : cellZ fl b p = cx := by simp [cellZ, List.getD, hrow, hcx]
     by_cases h1 : q.price + pv < bv
     ·have t1 : tf1 (priceF y) b u p = ⟨u.bs.set b (q.price + pv), u.ps, true⟩ := by rw [tf1, hprq, d1, d2, if_pos h1]
      have hset : ((u.bs.map iD).set (b : Int).toNat (iD (q.price + pv)))[(b : Int).toNat]? = some (iD (q.price + pv)) := by rw [List.getElem?_set_self (by rw [Int.toNat_natCast, hlbs]; exact hbl)]
      have hsl : ((u.bs.map iD).set (b : Int).toNat (D.int .i64 (q.price + pv))).length = l.length := by rw [List.length_set]; exact hlbs
      have d4 : (u.bs.set b (q.price + pv)).getD b 0 = q.price + pv := by rw [List.getD, List.getElem?_set_self (by rw [hTp.bl]; exact hbl)]; rfl
      have hst : U (p + 1) = ⟨u.bs.set b (q.price + pv), u.ps, true⟩ := by
       rw [hus, tfP, if_pos ha, t1, tf2, hprq]
       dsimp only
       rw [d4, d1, if_neg (by omega)]
      have hmp1 : (u.bs.map iD).set (b : Int).toNat (iD (q.price + pv)) = (u.bs.set b (q.price + pv)).map iD := by rw [Int.toNat_natCast, List.map_set]
      conv => whnf
      repeat' (first|((refine PickE.map p hcx (by omega) ?_);conv=>whnf)|((refine PickR.map b hrow (by omega) ?_);conv=>whnf)|((refine PickE.map b hbv (by omega) ?_);conv=>whnf)|((refine PickE.mk _ hset ?_);conv=>whnf)|((refine PickE.map p hpv (by omega) ?_);conv=>whnf)|((refine PickE.map p hq (by omega) ?_);conv=>whnf)|((with_reducible first|refine Split.of_true ?_|refine Split.of_false ?_);conv=>whnf)|(with_reducible refine Split.neg ?_)|((with_reducible refine Split.dec (fun _=>?_) (fun _=>?_))<;>conv=>whnf)|((with_reducible refine Need.mk ?_ ?_);(first|omega|rfl|decide|(refine ⟨?_,?_⟩<;>simp<;>omega)|(simp;omega));conv=>whnf)|((with_reducible refine Wr.inr ?_ ?_);(first|omega|(simp;omega));conv=>whnf)|((with_reducible refine AltK.r ?_);(conv=>whnf);(first|(refine CallX.mk _ _ (hac) rfl ?_));conv=>whnf)|(exfalso;first|omega|contradiction)|fail)
      all_goals first
       |(exfalso; omega)
       | skip
      all_goals (
       refine Again.av (p + 1) ⟨by omega, hTn⟩ (by omega) ?_
       rw [hst]
       exact (by refine ⟨?_, ?_, rfl⟩<;>(repeat' (first|exact True.intro|exact rfl|(refine ⟨?_,?_⟩)|(intro h;cases h;done)|(simp;done)|exact hmp1|fail));done))
     ·have t1 : tf1 (priceF y) b u p = u := by rw [tf1, hprq, d1, d2, if_neg h1]
      by_cases h2 : 0 < cx ∧ bv - q.price < pv
      ·have hst : U (p + 1) = ⟨u.bs, u.ps.set p (bv - q.price), true⟩ := by
        rw [hus, tfP, if_pos ha, t1, tf2, hprq, d2, d1, d3, if_pos h2]
       have hmp1 : (u.ps.map iD).set (p : Int).toNat (iD (bv - q.price)) = (u.ps.set p (bv - q.price)).map iD := by rw [Int.toNat_natCast, List.map_set]
       conv => whnf
       repeat' (first|((refine PickE.map p hcx (by omega) ?_);conv=>whnf)|((refine PickR.map b hrow (by omega) ?_);conv=>whnf)|((refine PickE.map b hbv (by omega) ?_);conv=>whnf)|((refine PickE.map p hpv (by omega) ?_);conv=>whnf)|((refine PickE.map p hq (by omega) ?_);conv=>whnf)|((with_reducible first|refine Split.of_true ?_|refine Split.of_false ?_);conv=>whnf)|(with_reducible refine Split.neg ?_)|((with_reducible refine Split.dec (fun _=>?_) (fun _=>?_))<;>conv=>whnf)|((with_reducible refine Need.mk ?_ ?_);(first|omega|rfl|decide|(refine ⟨?_,?_⟩<;>simp<;>omega)|(simp;omega));conv=>whnf)|((with_reducible refine Wr.inr ?_ ?_);(first|omega|(simp;omega));conv=>whnf)|((with_reducible refine AltK.r ?_);(conv=>whnf);(first|(refine CallX.mk _ _ (hac) rfl ?_));conv=>whnf)|(exfalso;first|omega|contradiction)|fail)
       all_goals first
        |(exfalso; omega)
        | skip
       all_goals (
        refine Again.av (p + 1) ⟨by omega, hTn⟩ (by omega) ?_
        rw [hst]
        exact (by refine ⟨?_, ?_, rfl⟩<;>(repeat' (first|exact True.intro|exact rfl|(refine ⟨?_,?_⟩)|(intro h;cases h;done)|(simp;done)|exact hmp1|fail));done))
      ·have hst : U (p + 1) = u := by
        rw [hus, tfP, if_pos ha, t1, tf2, hprq, d2, d1, d3, if_neg h2]
       conv => whnf
       repeat' (first|((refine PickE.map p hcx (by omega) ?_);conv=>whnf)|((refine PickR.map b hrow (by omega) ?_);conv=>whnf)|((refine PickE.map b hbv (by omega) ?_);conv=>whnf)|((refine PickE.map p hpv (by omega) ?_);conv=>whnf)|((refine PickE.map p hq (by omega) ?_);conv=>whnf)|((with_reducible first|refine Split.of_true ?_|refine Split.of_false ?_);conv=>whnf)|(with_reducible refine Split.neg ?_)|((with_reducible refine Split.dec (fun _=>?_) (fun _=>?_))<;>conv=>whnf)|((with_reducible refine Need.mk ?_ ?_);(first|omega|rfl|decide|(refine ⟨?_,?_⟩<;>simp<;>omega)|(simp;omega));conv=>whnf)|((with_reducible refine Wr.inr ?_ ?_);(first|omega|(simp;omega));conv=>whnf)|((with_reducible refine AltK.r ?_);(conv=>whnf);(first|(refine CallX.mk _ _ (hac) rfl ?_));conv=>whnf)|(exfalso;first|omega|contradiction)|fail)
       all_goals first
        |(exfalso; omega)
        | skip
       all_goals (
        refine Again.av (p + 1) ⟨by omega, hTn⟩ (by omega) ?_
        rw [hst]
        exact (by refine ⟨?_, ?_, rfl⟩<;>(repeat' (first|exact True.intro|exact rfl|(refine ⟨?_,?_⟩)|(intro h;cases h;done)|(simp;done)|fail));done))
   ·have hpe : p = y.pits.length := by omega
    subst hpe
    have hTn : TfOk y.pits.length l.length (1000000000000 + 20000 * (8 * (b + 1 : Nat))) (W (b + 1)) := by rw [hUP]; exact hTp.mono (by omega)
    rw [← hUP]
    have hlps : ((W (b + 1)).ps.map iD).length = y.pits.length := by rw [List.length_map]; exact hTn.pl
    generalize hw' : W (b + 1) = w' at *
    conv => whnf
    repeat' (first|((with_reducible refine Split.dec (fun _=>?_) (fun _=>?_))<;>conv=>whnf)|((with_reducible refine Wr.inr ?_ ?_);(first|omega|(simp;omega));conv=>whnf)|(exfalso;first|omega|contradiction)|fail)
    refine Again.av (b + 1) ⟨by omega, by rw [hw']; exact hTn⟩ (by omega) ?_
    rw [hw']
    exact (by refine ⟨?_, ?_, rfl⟩<;>(repeat' (first|exact True.intro|exact rfl|(refine ⟨?_,?_⟩)|(intro h;cases h;done)|(simp;done)|fail));done)
  ·have hbe : b = l.length := by omega
   subst hbe
   generalize W l.length = w at *
   conv => whnf
   repeat' (first|((with_reducible refine Split.dec (fun _=>?_) (fun _=>?_))<;>conv=>whnf)|(exfalso;first|omega|contradiction)|fail)
   refine Again.av (m', w) ⟨hgo', hTb.bl, hTb.pl⟩ (by dsimp only; omega) ?_
   exact (by refine ⟨?_, ?_, rfl⟩<;>(repeat' (first|exact True.intro|exact rfl|(refine ⟨?_,?_⟩)|(intro h;cases h;done)|(simp;done)|fail));done)
end Go.Proofs.Try
end
