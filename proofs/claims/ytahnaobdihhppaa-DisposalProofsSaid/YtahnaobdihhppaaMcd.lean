/- Texts DpZ DqC DqD DqE DpM DpQ DrA DrB DrC DqF DrL DrG DrI DqI, joined; what is not needed is left out. -/
import Derived.Test.YtahnaobdihhppaaMgI
import Derived.Test.YtahnaobdihhppaaMgH
import Derived.Test.YtahnaobdihhppaaProg
import Derived.Test.YtahnaobdihhppaaMcc
section
namespace Go.Proofs.Try
open Go Go.Vm
set_option maxRecDepth 20000
set_option maxHeartbeats 8000000
/-! The task: solve. -/
theorem TkOk.with {y : Yd} {l : List Bt} {vol room : List Int} {fl fl' : List (List Int)} (h : TkOk y l vol room fl) (h1 : fl'.length = fl.length) (h2 : ∀ r ∈ fl', r.length = y.pits.length) (h3 : okFl fl' = true) : TkOk y l vol room fl' :=
 ⟨h.hP, h.hL, h.hv, h.hr, h1.trans h.hf, h2, h.vb, h.rb, h3, h.cl⟩
theorem xv_push {y : Yd} {l : List Bt} {vol room : List Int} {fl : List (List Int)} (h : TkOk y l vol room fl) {n : Nat} (hn : n ≤ 1000) {pit : Nat} (hp : pit < y.pits.length) {r : Option (List (List Int))} (hr : pushF (accF y l) y.pits.length l.length n vol room fl pit = some r) :
 EvX Try.prog 122 [.ptr 1000 0, .d (iD pit)] (tkX y l vol room fl) (.d (.bool r.isSome)) (tkX y l vol room (r.getD fl)) ∧ TkOk y l vol room (r.getD fl) := by
 unfold pushF at hr
 cases hw : reachF (accF y l) y.pits.length l.length n vol fl with
 | none => rw [hw] at hr; cases hr
 | some w =>
  rw [hw] at hr
  simp only at hr
  split at hr
  ·rename_i hno
   cases hr
   exact ⟨xv_pushNo h hw hn hp hno, h⟩
  ·rename_i hno
   rw [not_or] at hno
   split at hr
   ·cases hr
   ·rename_i st a hpa
    split at hr
    ·cases hr
    ·rename_i fl' hap
     cases hr
     obtain ⟨k1, k2, k3⟩ := apF_keep hap h.fb h.row
     exact ⟨xv_pushYes h hw hn hp (by simpa using hno.1) hno.2 hpa hap, h.with k1 k2 k3⟩
def doneF (L : Nat) (vol : List Int) (fl : List (List Int)) : Bool := (List.range L).all fun b => !decide (0 < leftF vol fl b)
theorem sortGo_mem {pr : Nat → Int} {z : Nat} : ∀ {s R : List Nat}, z ∈ sortGo pr R s ↔ z ∈ R ∨ z ∈ s
 | [], R => by simp [sortGo]
 | x :: r, R => by
  rw [sortGo, sortGo_mem (s := r), insR_mem, List.mem_cons]
  constructor
  ·rintro ((h | h) | h)
   ·exact .inr (.inl h)
   ·exact .inl h
   ·exact .inr (.inr h)
  ·rintro (h | h | h)
   ·exact .inl (.inr h)
   ·exact .inl (.inl h)
   ·exact .inr h
theorem sortGo_len {pr : Nat → Int} : ∀ {s R : List Nat}, (sortGo pr R s).length = R.length + s.length
 | [], R => by simp [sortGo]
 | x :: r, R => by rw [sortGo, sortGo_len (s := r), insR_len, List.length_cons]; omega
theorem fills_at {acc : Nat → Nat → Bool} {P L n k : Nat} {vol room : List Int} {p : Nat} {r : List Nat} {fl fl' : List (List Int)} (h : fillsF acc P L n k vol room (p :: r) fl = some fl') :
 ∃ fm, fillF acc P L n vol room p k fl = some fm ∧ fillsF acc P L n k vol room r fm = some fl' := by
 rw [fillsF] at h
 split at h
 ·cases h
 ·rename_i fm hm
  exact ⟨fm, hm, h⟩
theorem fill_at {acc : Nat → Nat → Bool} {P L n : Nat} {vol room : List Int} {p k : Nat} {fl fl' : List (List Int)} (h : fillF acc P L n vol room p k fl = some fl') :
 ∃ m r, k = m + 1 ∧ pushF acc P L n vol room fl p = some r ∧ ((r = none ∧ fl' = fl) ∨ ∃ f, r = some f ∧ fillF acc P L n vol room p m f = some fl') := by
 cases k with
 | zero => rw [fillF] at h; cases h
 | succ m =>
  rw [fillF] at h
  split at h
  ·cases h
  ·rename_i hp
   cases h
   exact ⟨m, _, rfl, hp, .inl ⟨rfl, rfl⟩⟩
  ·rename_i f hp
   exact ⟨m, _, rfl, hp, .inr ⟨f, rfl, h⟩⟩
theorem fill_ok {y : Yd} {l : List Bt} {vol room : List Int} {n : Nat} (hn : n ≤ 1000) {p : Nat} (hp : p < y.pits.length) {fl' : List (List Int)} : ∀ {k : Nat} {fl : List (List Int)}, TkOk y l vol room fl → fillF (accF y l) y.pits.length l.length n vol room p k fl = some fl' → TkOk y l vol room fl'
 | 0, _, _, hf => by rw [fillF] at hf; cases hf
 | k + 1, fl, h, hf => by
  obtain ⟨m, r, hm, hr, hor⟩ := fill_at hf
  have hko := (xv_push h hn hp hr).2
  rcases hor with ⟨rfl, rfl⟩ | ⟨f, rfl, hf'⟩
  ·exact hko
  ·have hm : k = m := by omega
   subst hm
   exact fill_ok hn hp hko hf'
theorem fills_ok {y : Yd} {l : List Bt} {vol room : List Int} {n k : Nat} (hn : n ≤ 1000) {fl' : List (List Int)} : ∀ {s : List Nat} {fl : List (List Int)}, (∀ p ∈ s, p < y.pits.length) → TkOk y l vol room fl → fillsF (accF y l) y.pits.length l.length n k vol room s fl = some fl' → TkOk y l vol room fl'
 | [], fl, _, h, hf => by rw [fillsF] at hf; cases hf; exact h
 | p :: r, fl, hs, h, hf => by
  obtain ⟨fm, h1, h2⟩ := fills_at hf
  exact fills_ok hn (fun q hq => hs q (List.mem_cons_of_mem _ hq)) (fill_ok hn (hs p (by simp)) h h1) h2
theorem xv_solve {y : Yd} {l : List Bt} {vol room : List Int} {fl fl' : List (List Int)} (h : TkOk y l vol room fl) {n k : Nat} (hn : n ≤ 1000)
 (hf : fillsF (accF y l) y.pits.length l.length n k vol room (sortGo (priceF y) [] (List.range y.pits.length)) fl = some fl') :
 EvX Try.prog 97 [.ptr 1000 0] (tkX y l vol room fl) (.d (.bool (doneF l.length vol fl'))) (tkX y l vol room fl') := by
 have e1 := h.hv
 have e2 := h.hf
 have e3 := h.hL
 have e4 := h.hP
 have hlp : (y.pits.map ptD).length = y.pits.length := List.length_map _
 have hll : (l.map btD).length = l.length := List.length_map _
 have hS := xv_sortStable (y := y) (l := l) (vol := vol) (room := room) (fl := fl) (List.range y.pits.length) (fun x hx => List.mem_range.1 hx) (by rw [List.length_range]; exact e4)
 have hSm : ∀ z ∈ sortGo (priceF y) [] (List.range y.pits.length), z < y.pits.length := fun z hz => by
  rcases sortGo_mem.1 hz with h | h
  ·simp at h
  ·exact List.mem_range.1 h
 have hSl : (sortGo (priceF y) [] (List.range y.pits.length)).length = y.pits.length := by rw [sortGo_len]; simp
 have efl := (fills_ok hn hSm h hf).hf
 unfold tkX cmX at hS
 rw [h.hf] at hS
 have hS := hS.rn [(1010, 200), (1011, 1)] rfl
 replace hS : EvX Try.prog 119 [.own 200 1 ((List.range y.pits.length).map nD).length, .fnv 120 [.box 1]]
  [(1003, .mat 25 3 0 (fl.map fun r => some (r.map iD))), (1002, .row 3 1 (room.map iD) false), (1001, .row 3 1 (vol.map iD) false),
   (1000, .var [.d (.sl 6 (y.pits.map ptD)), .d (.sl 3 (y.bulk.map bkD)), .d (.sl 3 (y.deps.map dpD)), .d (.sl 1 (y.carry.map iD)), .d (.sl 5 (l.map btD)), .own 1001 1 (vol.map iD).length, .own 1002 1 (room.map iD).length, .own 1003 1 l.length] false), (1, .var [.ptr 1000 0] false), (200, .row 3 1 ((List.range y.pits.length).map nD) false)]
  (.tup [])
  [(1003, .mat 25 3 0 (fl.map fun r => some (r.map iD))), (1002, .row 3 1 (room.map iD) false), (1001, .row 3 1 (vol.map iD) false),
   (1000, .var [.d (.sl 6 (y.pits.map ptD)), .d (.sl 3 (y.bulk.map bkD)), .d (.sl 3 (y.deps.map dpD)), .d (.sl 1 (y.carry.map iD)), .d (.sl 5 (l.map btD)), .own 1001 1 (vol.map iD).length, .own 1002 1 (room.map iD).length, .own 1003 1 l.length] false), (1, .var [.ptr 1000 0] false), (200, .row 3 1 ((sortGo (priceF y) [] (List.range y.pits.length)).map nD) false)] := hS
 generalize sortGo (priceF y) [] (List.range y.pits.length) = ss at *
 unfold tkX
 rw [h.hf, efl]
 refine evx_of_awp tysOk mixed (fn := Try.f97) Try.func97 rfl rfl rfl ?_
 conv => whnf
 skip
 refine LoopK.o3 (fun i : Nat => i ≤ y.pits.length) (fun i => [(3, .own 200 1 ((List.range i).map nD).length), (14, .d (iD i))]) (fun i => [(200, .row 3 1 ((List.range i).map nD) false)]) (fun i => y.pits.length - i) 0 (by omega) (by refine ⟨?_, ?_, rfl⟩<;>(repeat' (first|exact True.intro|exact rfl|(refine ⟨?_,?_⟩)|(intro h;cases h;done)|(simp;done)|fail));done) ?_
 rintro i hi
 dsimp only at hi ⊢
 have hri : ((List.range i).map nD).length = i := by simp
 by_cases hil : i < y.pits.length
 ·have hmp1 : (List.range i).map nD ++ iD (i : Int) :: List.replicate 0 (D.int .i64 0) = (List.range (i + 1)).map nD := by rw [List.range_succ]; simp [nD]
  conv => whnf
  repeat' (first|((with_reducible refine Split.dec (fun _=>?_) (fun _=>?_))<;>conv=>whnf)|((with_reducible refine Need.mk ?_ ?_);(first|omega|rfl|decide|(refine ⟨?_,?_⟩<;>simp<;>omega)|(simp;omega));conv=>whnf)|((with_reducible refine Wr.inr ?_ ?_);(first|omega|(simp;omega));conv=>whnf)|(exfalso;first|omega|contradiction)|fail)
  exact Again.av (i + 1) (by omega) (by omega) (by refine ⟨?_, ?_, rfl⟩<;>(repeat' (first|exact True.intro|exact rfl|(refine ⟨?_,?_⟩)|(intro h;cases h;done)|(refine own_congr ?_;simp;done)|(simp;done)|exact hmp1|fail));done)
 ·have hie : i = y.pits.length := by omega
  subst hie
  conv => whnf
  repeat' (first|((with_reducible refine Split.dec (fun _=>?_) (fun _=>?_))<;>conv=>whnf)|((with_reducible refine Need.mk ?_ ?_);(first|omega|rfl|decide|(refine ⟨?_,?_⟩<;>simp<;>omega)|(simp;omega));conv=>whnf)|((with_reducible refine Wr.inr ?_ ?_);(first|omega|(simp;omega));conv=>whnf)|((with_reducible refine AltK.r ?_);(conv=>whnf);(first|(refine CallX.mk _ _ (hS) rfl ?_));conv=>whnf)|(exfalso;first|omega|contradiction)|fail)
  clear hS
  have hsl : (ss.map nD).length = ss.length := List.length_map _
  refine LoopK.o3 (fun x : Nat × List (List Int) => x.1 ≤ ss.length ∧ fillsF (accF y l) y.pits.length l.length n k vol room (ss.drop x.1) x.2 = some fl' ∧ TkOk y l vol room x.2)
   (fun x => [(27, .d (iD x.1))]) (fun x => [(1003, .mat 25 3 0 (x.2.map fun r => some (r.map iD)))]) (fun x => ss.length - x.1) (0, fl) ⟨by omega, hf, h⟩ (by refine ⟨?_, ?_, rfl⟩<;>(repeat' (first|exact True.intro|exact rfl|(refine ⟨?_,?_⟩)|(intro h;cases h;done)|(simp;done)|fail));done) ?_
  rintro ⟨j, fc⟩ ⟨hj, hfc, hk⟩
  dsimp only at hj hfc hk ⊢
  by_cases hjl : j < ss.length
  ·obtain ⟨p, hp⟩ := some_of_lt hjl
   have hpP := hSm p (List.mem_of_getElem? hp)
   rw [drop_of hp] at hfc
   obtain ⟨fm, hfm, hfc'⟩ := fills_at hfc
   conv => whnf
   repeat' (first|((refine PickE.map j hp (by omega) ?_);conv=>whnf)|((with_reducible refine Split.dec (fun _=>?_) (fun _=>?_))<;>conv=>whnf)|((with_reducible refine Need.mk ?_ ?_);(first|omega|rfl|decide|(refine ⟨?_,?_⟩<;>simp<;>omega)|(simp;omega));conv=>whnf)|(exfalso;first|omega|contradiction)|fail)
   refine LoopK.o3 (fun x : Nat × List (List Int) => fillF (accF y l) y.pits.length l.length n vol room p x.1 x.2 = some fm ∧ TkOk y l vol room x.2)
    (fun _ => []) (fun x => [(1003, .mat 25 3 0 (x.2.map fun r => some (r.map iD)))]) (fun x => x.1) (k, fc) ⟨hfm, hk⟩ (by refine ⟨?_, ?_, rfl⟩<;>(repeat' (first|exact True.intro|exact rfl|(refine ⟨?_,?_⟩)|(intro h;cases h;done)|(simp;done)|fail));done) ?_
   rintro ⟨m, fd⟩ ⟨hfd, hkd⟩
   dsimp only at hfd hkd ⊢
   obtain ⟨m', r, rfl, hr, hor⟩ := fill_at hfd
   obtain ⟨hc, hko⟩ := xv_push hkd hn hpP hr
   unfold tkX at hc
   rw [hkd.hf, hko.hf] at hc
   rcases hor with ⟨rfl, rfl⟩ | ⟨f, rfl, hf'⟩
   ·conv => whnf
    repeat' (first|((with_reducible refine Split.is_false ?_ ?_);decide;conv=>whnf)|((with_reducible refine Wr.inr ?_ ?_);(first|omega|(simp;omega));conv=>whnf)|((with_reducible refine AltK.r ?_);(conv=>whnf);(first|(refine CallX.mk _ _ (hc) rfl ?_));conv=>whnf)|fail)
    refine Again.av (j + 1, fm) ⟨by dsimp only; omega, hfc', hkd⟩ (by dsimp only; omega) ?_
    exact (by refine ⟨?_, ?_, rfl⟩<;>(repeat' (first|exact True.intro|exact rfl|(refine ⟨?_,?_⟩)|(intro h;cases h;done)|(simp;done)|fail));done)
   ·conv => whnf
    repeat' (first|((with_reducible refine Split.mk (fun _=>?_) (fun _=>?_))<;>conv=>whnf)|((with_reducible refine Wr.inr ?_ ?_);(first|omega|(simp;omega));conv=>whnf)|((with_reducible refine AltK.r ?_);(conv=>whnf);(first|(refine CallX.mk _ _ (hc) rfl ?_));conv=>whnf)|(exfalso;first|omega|contradiction)|fail)
    refine Again.av (m', f) ⟨hf', hko⟩ (by dsimp only; omega) ?_
    exact (by refine ⟨?_, ?_, rfl⟩<;>(repeat' (first|exact True.intro|exact rfl|(refine ⟨?_,?_⟩)|(intro h;cases h;done)|(simp;done)|fail));done)
  ·have hje : j = ss.length := by omega
   subst hje
   rw [List.drop_length, fillsF] at hfc
   cases hfc
   conv => whnf
   repeat' (first|((with_reducible refine Split.dec (fun _=>?_) (fun _=>?_))<;>conv=>whnf)|((with_reducible refine Need.mk ?_ ?_);(first|omega|rfl|decide|(refine ⟨?_,?_⟩<;>simp<;>omega)|(simp;omega));conv=>whnf)|(exfalso;first|omega|contradiction)|fail)
   refine LoopK.o3 (fun b : Nat => b ≤ l.length ∧ (List.range b).all (fun b => !decide (0 < leftF vol fl' b)) = true) (fun b => [(40, .d (iD b))]) (fun _ => []) (fun b => l.length - b) 0 ⟨by omega, rfl⟩ (by refine ⟨?_, ?_, rfl⟩<;>(repeat' (first|exact True.intro|exact rfl|(refine ⟨?_,?_⟩)|(intro h;cases h;done)|(simp;done)|fail));done) ?_
   rintro b ⟨hb, hall⟩
   dsimp only at hb hall ⊢
   by_cases hbl : b < l.length
   ·have hc := xv_left hk hbl
    unfold tkX at hc
    rw [hk.hf] at hc
    by_cases hz : 0 < leftF vol fl' b
    ·have hd : doneF l.length vol fl' = false := by
      rw [doneF, List.all_eq_false]
      exact ⟨b, List.mem_range.2 hbl, by simpa using hz⟩
     rw [hd]
     generalize leftF vol fl' b = z at *
     conv => whnf
     repeat' (first|((with_reducible refine Split.dec (fun _=>?_) (fun _=>?_))<;>conv=>whnf)|((with_reducible refine Wr.inr ?_ ?_);(first|omega|(simp;omega));conv=>whnf)|((with_reducible refine AltK.r ?_);(conv=>whnf);(first|(refine CallX.mk _ _ (hc) rfl ?_));conv=>whnf)|(exfalso;first|omega|contradiction)|fail)
     all_goals first
      | exact ⟨⟨[], (by refine ⟨?_, ?_, rfl⟩<;>(repeat' (first|exact True.intro|exact rfl|(refine ⟨?_,?_⟩)|(intro h;cases h;done)|(simp;done)|fail));done)⟩, rfl⟩
      |(exfalso; omega)
    ·have hn' : (List.range (b + 1)).all (fun b => !decide (0 < leftF vol fl' b)) = true := by
      rw [List.range_succ, List.all_append, hall]; simpa using hz
     generalize leftF vol fl' b = z at *
     conv => whnf
     repeat' (first|((with_reducible refine Split.dec (fun _=>?_) (fun _=>?_))<;>conv=>whnf)|((with_reducible refine Wr.inr ?_ ?_);(first|omega|(simp;omega));conv=>whnf)|((with_reducible refine AltK.r ?_);(conv=>whnf);(first|(refine CallX.mk _ _ (hc) rfl ?_));conv=>whnf)|(exfalso;first|omega|contradiction)|fail)
     all_goals first
      | exact Again.av (b + 1) ⟨by omega, hn'⟩ (by omega) (by refine ⟨?_, ?_, rfl⟩<;>(repeat' (first|exact True.intro|exact rfl|(refine ⟨?_,?_⟩)|(intro h;cases h;done)|(simp;done)|fail));done)
      |(exfalso; omega)
   ·have hbe : b = l.length := by omega
    subst hbe
    have hd : doneF l.length vol fl' = true := hall
    rw [hd]
    conv => whnf
    repeat' (first|((with_reducible refine Split.dec (fun _=>?_) (fun _=>?_))<;>conv=>whnf)|(exfalso;first|omega|contradiction)|fail)
    exact ⟨⟨[], (by refine ⟨?_, ?_, rfl⟩<;>(repeat' (first|exact True.intro|exact rfl|(refine ⟨?_,?_⟩)|(intro h;cases h;done)|(simp;done)|fail));done)⟩, rfl⟩
end Go.Proofs.Try
end

section
namespace Go.Proofs.Try
open Go Go.Vm
set_option maxRecDepth 20000
set_option maxHeartbeats 8000000
/-! The task: the assignment, its cost. -/
structure Al where
 n : Int
 pit : ByteArray
 vol : Int
def alD (a : Al) : D := .agg [iD a.n, .str a.pit, iD a.vol]
def numF (l : List Bt) (b : Nat) : Int := match l[b]? with
 | some x => x.n
 | none => 0
def nameF (y : Yd) (p : Nat) : ByteArray := match y.pits[p]? with
 | some q => q.name
 | none => ⟨#[]⟩
def cellA (y : Yd) (l : List Bt) (fl : List (List Int)) (b p : Nat) : Option Al := if 0 < cellZ fl b p then some ⟨numF l b, nameF y p, cellZ fl b p⟩ else none
def rowA (y : Yd) (l : List Bt) (fl : List (List Int)) (b k : Nat) : List Al := (List.range k).filterMap (cellA y l fl b)
def allF (y : Yd) (l : List Bt) (fl : List (List Int)) (i : Nat) : List Al := (List.range i).flatMap fun b => rowA y l fl b y.pits.length
theorem rowA_succ {y : Yd} {l : List Bt} {fl : List (List Int)} {b k : Nat} : rowA y l fl b (k + 1) = rowA y l fl b k ++ if 0 < cellZ fl b k then [⟨numF l b, nameF y k, cellZ fl b k⟩] else [] := by
 rw [rowA, List.range_succ, List.filterMap_append, rowA]
 congr 1
 simp only [List.filterMap_cons, cellA, List.filterMap_nil]
 split <;> rename_i h <;> split at h <;> simp_all
theorem rowA_len {y : Yd} {l : List Bt} {fl : List (List Int)} {b k : Nat} : (rowA y l fl b k).length ≤ k := by
 have := List.length_filterMap_le (cellA y l fl b) (List.range k)
 rwa [List.length_range] at this
theorem allF_succ {y : Yd} {l : List Bt} {fl : List (List Int)} {i : Nat} : allF y l fl (i + 1) = allF y l fl i ++ rowA y l fl i y.pits.length := by
 rw [allF, List.range_succ, List.flatMap_append, allF]; simp
theorem allF_len {y : Yd} {l : List Bt} {fl : List (List Int)} (h : y.pits.length ≤ 8) : ∀ i, (allF y l fl i).length ≤ 8 * i
 | 0 => by simp [allF]
 | i + 1 => by
  rw [allF_succ, List.length_append]
  have := allF_len (l := l) (fl := fl) h i
  have := rowA_len (y := y) (l := l) (fl := fl) (b := i) (k := y.pits.length)
  omega
theorem xv_allots {y : Yd} {l : List Bt} {vol room : List Int} {fl : List (List Int)} (h : TkOk y l vol room fl) :
 EvX Try.prog 98 [.ptr 1000 0] (tkX y l vol room fl) (.own 9 3 ((allF y l fl l.length).map alD).length) (tkX y l vol room fl ++ [(9, .row 130 3 ((allF y l fl l.length).map alD) false)]) := by
 have e1 := h.hv
 have e2 := h.hf
 have e3 := h.hL
 have e4 := h.hP
 have hlp : (y.pits.map ptD).length = y.pits.length := List.length_map _
 have hll : (l.map btD).length = l.length := List.length_map _
 have hlf : (fl.map fun r => some (r.map iD)).length = fl.length := List.length_map _
 unfold tkX
 refine evx_of_awp tysOk mixed (fn := Try.f98) Try.func98 rfl rfl rfl ?_
 conv => whnf
 skip
 refine LoopK.o3 (fun i : Nat => i ≤ l.length) (fun i => [(3, .own 200 3 ((allF y l fl i).map alD).length), (13, .d (iD i))]) (fun i => [(200, .row 130 3 ((allF y l fl i).map alD) false)]) (fun i => l.length - i) 0 (by omega) (by refine ⟨?_, ?_, rfl⟩<;>(repeat' (first|exact True.intro|exact rfl|(refine ⟨?_,?_⟩)|(intro h;cases h;done)|(simp;done)|fail));done) ?_
 rintro i hi
 dsimp only at hi ⊢
 have hAl := allF_len (l := l) (fl := fl) e4 i
 have hAm : ((allF y l fl i).map alD).length = (allF y l fl i).length := List.length_map _
 by_cases hil : i < l.length
 ·obtain ⟨b, hb⟩ := some_of_lt hil
  obtain ⟨row, hrow⟩ := some_of_lt (show i < fl.length by omega)
  have hrm := List.mem_of_getElem? hrow
  have hrl := h.row row hrm
  have hlr : (row.map iD).length = row.length := List.length_map _
  have hst := allF_succ (y := y) (l := l) (fl := fl) (i := i)
  generalize allF y l fl i = A at *
  have hmp0 : A.map alD = (A ++ rowA y l fl i 0).map alD := by simp [rowA]
  have hnb : numF l i = b.n := by simp [numF, hb]
  conv => whnf
  repeat' (first|((refine PickR.map i hrow (by omega) ?_);conv=>whnf)|((with_reducible refine Split.dec (fun _=>?_) (fun _=>?_))<;>conv=>whnf)|((with_reducible refine Need.mk ?_ ?_);(first|omega|rfl|decide|(refine ⟨?_,?_⟩<;>simp<;>omega)|(simp;omega));conv=>whnf)|(exfalso;first|omega|contradiction)|fail)
  refine LoopK.o3 (fun k : Nat => k ≤ y.pits.length) (fun k => [(3, .own 200 3 ((A ++ rowA y l fl i k).map alD).length), (20, .d (iD k)), (18, .sub 1003 0 (i : Int).toNat)]) (fun k => [(200, .row 130 3 ((A ++ rowA y l fl i k).map alD) false)]) (fun k => y.pits.length - k) 0 (by omega) (by refine ⟨?_, ?_, rfl⟩<;>(repeat' (first|exact True.intro|exact rfl|(refine ⟨?_,?_⟩)|(intro h;cases h;done)|(simp;done)|exact hmp0|((first|refine own_congr ?_|refine int_congr ?_|skip);simp [rowA];done)|fail));done) ?_
  rintro k hk
  dsimp only at hk ⊢
  by_cases hkl : k < y.pits.length
  ·obtain ⟨q, hq⟩ := some_of_lt hkl
   obtain ⟨x, hx⟩ := some_of_lt (show k < row.length by omega)
   have hcx : cellZ fl i k = x := by simp [cellZ, List.getD, hrow, hx]
   have hnq : nameF y k = q.name := by simp [nameF, hq]
   have hs := rowA_succ (y := y) (l := l) (fl := fl) (b := i) (k := k)
   rw [hcx, hnb, hnq] at hs
   have hRl := rowA_len (y := y) (l := l) (fl := fl) (b := i) (k := k)
   generalize rowA y l fl i k = R at *
   have hRm : ((A ++ R).map alD).length = A.length + R.length := by simp
   by_cases hx0 : 0 < x
   ·rw [if_pos hx0] at hs
    have hmp1 : ∀ z : D, (A ++ R).map alD ++ D.agg [iD b.n, .str q.name, iD x] :: List.replicate 0 z = (A ++ rowA y l fl i (k + 1)).map alD := fun z => by rw [hs]; simp [alD]
    conv => whnf
    repeat' (first|((refine PickE.map k hq (by omega) ?_);conv=>whnf)|((refine PickE.map i hb (by omega) ?_);conv=>whnf)|((refine PickE.map k hx (by omega) ?_);conv=>whnf)|((refine PickR.map i hrow (by omega) ?_);conv=>whnf)|((with_reducible refine Split.dec (fun _=>?_) (fun _=>?_))<;>conv=>whnf)|((with_reducible refine Need.mk ?_ ?_);(first|omega|rfl|decide|(refine ⟨?_,?_⟩<;>simp<;>omega)|(simp;omega));conv=>whnf)|((with_reducible refine Wr.inr ?_ ?_);(first|omega|(simp;omega));conv=>whnf)|(exfalso;first|omega|contradiction)|fail)
    all_goals first
     |(exfalso; omega)
     | skip
    refine Again.av (k + 1) (by omega) (by omega) ?_
    exact (by refine ⟨?_, ?_, rfl⟩<;>(repeat' (first|exact True.intro|exact rfl|(refine ⟨?_,?_⟩)|(intro h;cases h;done)|(simp;done)|exact hmp1 _|((first|refine own_congr ?_|refine int_congr ?_);simp [hs];omega)|fail));done)
   ·rw [if_neg hx0, List.append_nil] at hs
    conv => whnf
    repeat' (first|((refine PickE.map k hx (by omega) ?_);conv=>whnf)|((refine PickR.map i hrow (by omega) ?_);conv=>whnf)|((with_reducible refine Split.dec (fun _=>?_) (fun _=>?_))<;>conv=>whnf)|((with_reducible refine Need.mk ?_ ?_);(first|omega|rfl|decide|(refine ⟨?_,?_⟩<;>simp<;>omega)|(simp;omega));conv=>whnf)|((with_reducible refine Wr.inr ?_ ?_);(first|omega|(simp;omega));conv=>whnf)|(exfalso;first|omega|contradiction)|fail)
    all_goals first
     |(exfalso; omega)
     | skip
    refine Again.av (k + 1) (by omega) (by omega) ?_
    rw [hs]
    exact (by refine ⟨?_, ?_, rfl⟩<;>(repeat' (first|exact True.intro|exact rfl|(refine ⟨?_,?_⟩)|(intro h;cases h;done)|(simp;done)|fail));done)
  ·have hke : k = y.pits.length := by omega
   subst hke
   rw [← hst]
   conv => whnf
   repeat' (first|((with_reducible refine Split.dec (fun _=>?_) (fun _=>?_))<;>conv=>whnf)|((with_reducible refine Need.mk ?_ ?_);(first|omega|rfl|decide|(refine ⟨?_,?_⟩<;>simp<;>omega)|(simp;omega));conv=>whnf)|((with_reducible refine Wr.inr ?_ ?_);(first|omega|(simp;omega));conv=>whnf)|(exfalso;first|omega|contradiction)|fail)
   exact Again.av (i + 1) (by omega) (by omega) (by refine ⟨?_, ?_, rfl⟩<;>(repeat' (first|exact True.intro|exact rfl|(refine ⟨?_,?_⟩)|(intro h;cases h;done)|(simp;done)|fail));done)
 ·have hie : i = l.length := by omega
  subst hie
  conv => whnf
  repeat' (first|((with_reducible refine Split.dec (fun _=>?_) (fun _=>?_))<;>conv=>whnf)|((with_reducible refine Need.mk ?_ ?_);(first|omega|rfl|decide|(refine ⟨?_,?_⟩<;>simp<;>omega)|(simp;omega));conv=>whnf)|(exfalso;first|omega|contradiction)|fail)
  exact ⟨⟨[(9, some 200)], (by refine ⟨?_, ?_, rfl⟩<;>(repeat' (first|exact True.intro|exact rfl|(refine ⟨?_,?_⟩)|(intro h;cases h;done)|(simp;done)|fail));done)⟩, rfl⟩
def prA (y : Yd) (a : Al) : Int := a.vol * priceF y (pitI y a.pit).toNat
def costF (y : Yd) (xs : List Al) : Int := (xs.map (prA y)).sum
theorem sum_nn : ∀ {l : List Int}, (∀ x ∈ l, 0 ≤ x) → 0 ≤ l.sum
 | [], _ => by simp
 | x :: r, h => by
  have h1 := h x (by simp)
  have h2 := sum_nn (l := r) fun z hz => h z (by simp [hz])
  rw [List.sum_cons]; omega
theorem sum_take_le {l : List Int} (h : ∀ x ∈ l, 0 ≤ x) (i : Nat) : (l.take i).sum ≤ l.sum := by
 have e : l.sum = (l.take i).sum + (l.drop i).sum := by rw [← List.sum_append, List.take_append_drop]
 have := sum_nn (l := l.drop i) fun x hx => h x (List.mem_of_mem_drop hx)
 omega
theorem priceF_nn {y : Yd} (hp : ∀ p ∈ y.pits, 0 ≤ p.price) (j : Nat) : 0 ≤ priceF y j := by
 unfold priceF
 cases hq : y.pits[j]? with
 | none => simp
 | some q => exact hp q (List.mem_of_getElem? hq)
theorem prA_nn {y : Yd} {xs : List Al} (hx : ∀ a ∈ xs, 0 ≤ a.vol ∧ 0 ≤ pitI y a.pit) (hp : ∀ p ∈ y.pits, 0 ≤ p.price) : ∀ z ∈ xs.map (prA y), 0 ≤ z := by
 intro z hz
 obtain ⟨a, ha, rfl⟩ := List.mem_map.1 hz
 exact Int.mul_nonneg (hx a ha).1 (priceF_nn hp _)
theorem cost_le {y : Yd} {xs : List Al} (hx : ∀ a ∈ xs, 0 ≤ a.vol ∧ 0 ≤ pitI y a.pit) (hp : ∀ p ∈ y.pits, 0 ≤ p.price) (i : Nat) : costF y (xs.take i) ≤ costF y xs := by
 rw [costF, List.map_take]
 exact sum_take_le (prA_nn hx hp) i
theorem cost_nn {y : Yd} {xs : List Al} (hx : ∀ a ∈ xs, 0 ≤ a.vol ∧ 0 ≤ pitI y a.pit) (hp : ∀ p ∈ y.pits, 0 ≤ p.price) (i : Nat) : 0 ≤ costF y (xs.take i) := by
 rw [costF, List.map_take]
 exact sum_nn fun z hz => prA_nn hx hp z (List.mem_of_mem_take hz)
theorem xv_price {y : Yd} {l : List Bt} {vol room : List Int} {fl : List (List Int)} (h : TkOk y l vol room fl) (xs : List Al) (hn : xs.length ≤ 1000) (hx : ∀ a ∈ xs, 0 ≤ pitI y a.pit ∧ 0 ≤ a.vol ∧ a.vol ≤ 100000000000000000) (hp : ∀ p ∈ y.pits, 0 ≤ p.price ∧ p.price ≤ 10000) (hT : costF y xs ≤ 9000000000000000000) :
 EvX Try.prog 94 [.ptr 1000 0, .own 1004 3 (xs.map alD).length] ((1004, .row 130 3 (xs.map alD) false) :: tkX y l vol room fl) (.d (iD (costF y xs))) ((1004, .row 130 3 (xs.map alD) false) :: tkX y l vol room fl) := by
 have e4 := h.hP
 have hlp : (y.pits.map ptD).length = y.pits.length := List.length_map _
 have hlx : (xs.map alD).length = xs.length := List.length_map _
 have h0 : costF y (xs.take 0) = 0 := rfl
 unfold tkX
 refine evx_of_awp tysOk mixed (fn := Try.f94) Try.func94 rfl rfl rfl ?_
 conv => whnf
 skip
 refine LoopK.o3 (fun i : Nat => i ≤ xs.length) (fun i => [(5, .d (iD (costF y (xs.take i)))), (10, .d (iD i))]) (fun _ => []) (fun i => xs.length - i) 0 (by omega) (by refine ⟨?_, ?_, rfl⟩<;>(repeat' (first|exact True.intro|exact rfl|(refine ⟨?_,?_⟩)|(intro h;cases h;done)|(simp;done)|fail));done) ?_
 rintro i hi
 dsimp only at hi ⊢
 by_cases hil : i < xs.length
 ·obtain ⟨a, ha⟩ := some_of_lt hil
  obtain ⟨a1, a2, a3⟩ := hx a (List.mem_of_getElem? ha)
  obtain ⟨j, q, hj, hq, -⟩ := ix_at (show ¬ ixI (fun p => sEq p.name a.pit) y.pits < 0 by have : 0 ≤ ixI (fun p => sEq p.name a.pit) y.pits := a1; omega)
  have hw := ev_pitOf y a.pit (by omega)
  have hj : pitI y a.pit = j := hj
  rw [hj] at hw
  have hqp := hp q (List.mem_of_getElem? hq)
  have hpr : prA y a = a.vol * q.price := by rw [prA, hj, Int.toNat_natCast, priceF, hq]
  have hst : costF y (xs.take (i + 1)) = costF y (xs.take i) + a.vol * q.price := by rw [List.take_add_one, ha, ← hpr]; simp [costF]
  have hle := cost_le (y := y) (xs := xs) (fun a ha => ⟨(hx a ha).2.1, (hx a ha).1⟩) (fun p hp' => (hp p hp').1) (i + 1)
  have hge := cost_nn (y := y) (xs := xs) (fun a ha => ⟨(hx a ha).2.1, (hx a ha).1⟩) (fun p hp' => (hp p hp').1) i
  have hmul : 0 ≤ a.vol * q.price := Int.mul_nonneg a2 hqp.1
  have hxD : (xs.map alD)[(i : Int).toNat]? = some (D.agg [iD a.n, .str a.pit, iD a.vol]) := by rw [Int.toNat_natCast, List.getElem?_map, ha]; rfl
  rw [hst] at hle
  generalize costF y (xs.take i) = c at *
  conv => whnf
  repeat' (first|((refine PickE.map j hq (by omega) ?_);conv=>whnf)|((refine PickE.mk _ hxD ?_);conv=>whnf)|((with_reducible refine Split.dec (fun _=>?_) (fun _=>?_))<;>conv=>whnf)|((with_reducible refine Need.mk ?_ ?_);(first|omega|rfl|decide|(refine ⟨?_,?_⟩<;>simp<;>omega)|(simp;omega));conv=>whnf)|((with_reducible refine Wr.inr ?_ ?_);(first|omega|(simp;omega));conv=>whnf)|((with_reducible refine AltK.l ?_);(conv=>whnf);(first|(refine CallK.mk _ (hw) ?_));conv=>whnf)|(exfalso;first|omega|contradiction)|fail)
  refine Again.av (i + 1) (by omega) (by omega) ?_
  rw [hst]
  exact (by refine ⟨?_, ?_, rfl⟩<;>(repeat' (first|exact True.intro|exact rfl|(refine ⟨?_,?_⟩)|(intro h;cases h;done)|(simp;done)|fail));done)
 ·have hie : i = xs.length := by omega
  subst hie
  rw [List.take_length]
  conv => whnf
  repeat' (first|((with_reducible refine Split.dec (fun _=>?_) (fun _=>?_))<;>conv=>whnf)|((with_reducible refine Need.mk ?_ ?_);(first|omega|rfl|decide|(refine ⟨?_,?_⟩<;>simp<;>omega)|(simp;omega));conv=>whnf)|(exfalso;first|omega|contradiction)|fail)
  exact ⟨⟨[], (by refine ⟨?_, ?_, rfl⟩<;>(repeat' (first|exact True.intro|exact rfl|(refine ⟨?_,?_⟩)|(intro h;cases h;done)|(simp;done)|fail));done)⟩, rfl⟩
end Go.Proofs.Try
end

section
namespace Go.Proofs.Try
open Go Go.Vm
set_option maxRecDepth 20000
set_option maxHeartbeats 8000000
/-! The task: the tariff. -/
structure TfOk (P L : Nat) (B : Int) (s : Tf) : Prop where
 bl : s.bs.length = L
 pl : s.ps.length = P
 bb : ∀ x ∈ s.bs, -B ≤ x ∧ x ≤ B
 pb : ∀ x ∈ s.ps, -B ≤ x ∧ x ≤ B
theorem TfOk.mono {P L : Nat} {B B' : Int} {s : Tf} (h : TfOk P L B s) (hB : B ≤ B') : TfOk P L B' s :=
 ⟨h.bl, h.pl, fun x hx => by have := h.bb x hx; omega, fun x hx => by have := h.pb x hx; omega⟩
theorem getD_bd {B : Int} {l : List Int} (h : ∀ x ∈ l, -B ≤ x ∧ x ≤ B) (hB : 0 ≤ B) (i : Nat) : -B ≤ l.getD i 0 ∧ l.getD i 0 ≤ B := by
 rw [List.getD]
 cases hx : l[i]? with
 | none => simp; omega
 | some x => exact h x (List.mem_of_getElem? hx)
theorem set_bd {B B' v : Int} {l : List Int} (h : ∀ x ∈ l, -B ≤ x ∧ x ≤ B) (hB : B ≤ B') (hv : -B' ≤ v ∧ v ≤ B') (i : Nat) : ∀ x ∈ l.set i v, -B' ≤ x ∧ x ≤ B' := by
 intro x hx
 rcases List.mem_or_eq_of_mem_set hx with h1 | h1
 ·have := h x h1; omega
 ·rw [h1]; exact hv
theorem tf1_ok {P L : Nat} {B : Int} {s : Tf} {pr : Nat → Int} {b p : Nat} (hp : 0 ≤ pr p ∧ pr p ≤ 10000) (h : TfOk P L B s) (hB : 0 ≤ B) : TfOk P L (B + 10000) (tf1 pr b s p) := by
 have h1 := getD_bd h.pb hB p
 unfold tf1
 split
 ·exact ⟨by simp [h.bl], h.pl, set_bd h.bb (by omega) (by omega) b, fun x hx => by have := h.pb x hx; omega⟩
 ·exact h.mono (by omega)
theorem tf2_ok {P L : Nat} {B : Int} {s : Tf} {pr : Nat → Int} {fl : List (List Int)} {b p : Nat} (hp : 0 ≤ pr p ∧ pr p ≤ 10000) (h : TfOk P L B s) (hB : 0 ≤ B) : TfOk P L (B + 10000) (tf2 pr fl b s p) := by
 have h1 := getD_bd h.bb hB b
 unfold tf2
 split
 ·exact ⟨h.bl, by simp [h.pl], fun x hx => by have := h.bb x hx; omega, set_bd h.pb (by omega) (by omega) p⟩
 ·exact h.mono (by omega)
theorem tfP_ok {P L : Nat} {B : Int} {s : Tf} {acc : Nat → Nat → Bool} {pr : Nat → Int} {fl : List (List Int)} {b p : Nat} (hp : 0 ≤ pr p ∧ pr p ≤ 10000) (h : TfOk P L B s) (hB : 0 ≤ B) : TfOk P L (B + 20000) (tfP acc pr fl b s p) := by
 unfold tfP
 split
 ·exact (tf2_ok hp (tf1_ok hp h hB) (by omega)).mono (by omega)
 ·exact h.mono (by omega)
theorem okTf_ok {P L : Nat} {s : Tf} (h : okTf s = true) (h1 : s.bs.length = L) (h2 : s.ps.length = P) : TfOk P L 1000000000000 s := by
 simp only [okTf, Bool.and_eq_true, List.all_eq_true, okT, decide_eq_true_eq] at h
 exact ⟨h1, h2, h.1, h.2⟩
def tfS (P L : Nat) (room : List Int) (fl : List (List Int)) : Tf :=
 ⟨(List.range L).foldl (fun s b => s.set b 10000) (List.replicate L 0), (List.range P).foldl (fun s p => s.set p (if 0 < freeF room fl p then 0 else 10000)) (List.replicate P 0), true⟩
theorem setF_len {g : Nat → Int} {n : Nat} : ∀ i, ((List.range i).foldl (fun s p => s.set p (g p)) (List.replicate n (0 : Int))).length = n
 | 0 => by simp
 | i + 1 => by rw [range_snoc, List.length_set]; exact setF_len i
def tfD (t : Tf) : D := .agg [.sl 1 (t.bs.map iD), .sl 1 (t.ps.map iD)]
theorem tfGo_at {acc : Nat → Nat → Bool} {pr : Nat → Int} {fl : List (List Int)} {P L m : Nat} {s t : Tf} (h : tfGo acc pr fl P L m s = some t) :
 (s.again = false ∧ s = t) ∨ (s.again = true ∧ okTf s = true ∧ ∃ k, m = k + 1 ∧ tfGo acc pr fl P L k (tfR acc pr fl P L s) = some t) := by
 cases m with
 | zero =>
  rw [tfGo] at h
  split at h
  ·rename_i h1; cases h; exact .inl ⟨h1, rfl⟩
  ·cases h
 | succ k =>
  rw [tfGo] at h
  split at h
  ·rename_i h1; cases h; exact .inl ⟨h1, rfl⟩
  ·rename_i h1
   split at h
   ·rename_i h2
    exact .inr ⟨by simpa using h1, h2, k, rfl, h⟩
   ·cases h
theorem xv_tariff {y : Yd} {l : List Bt} {vol room : List Int} {fl : List (List Int)} (h : TkOk y l vol room fl) (hpp : ∀ p ∈ y.pits, 0 ≤ p.price ∧ p.price ≤ 10000) {m : Nat} {t : Tf} (ht : tfGo (accF y l) (priceF y) fl y.pits.length l.length m (tfS y.pits.length l.length room fl) = some t) :
 EvX Try.prog 99 [.ptr 1000 0] (tkX y l vol room fl) (.d (tfD t)) (tkX y l vol room fl) := by
 have e1 := h.hv
 have e2 := h.hf
 have e3 := h.hL
 have e4 := h.hP
 have hlp : (y.pits.map ptD).length = y.pits.length := List.length_map _
 have hll : (l.map btD).length = l.length := List.length_map _
 have hlf : (fl.map fun r => some (r.map iD)).length = fl.length := List.length_map _
 have hFr := fun (p : Nat) (hp : p < y.pits.length) => xv_free h hp
 have hAc := fun (p b : Nat) (hp : p < y.pits.length) (hb : b < l.length) => xv_accepts h hp hb
 unfold tkX at hFr hAc ⊢
 have hmp0 : List.replicate ((y.pits.map ptD).length : Int).toNat (D.int .i64 0) = ((List.range 0).foldl (fun s p => s.set p (if 0 < freeF room fl p then 0 else 10000)) (List.replicate y.pits.length (0 : Int))).map iD := by simp [iD]
 have hrb : ((List.replicate ((l.map btD).length : Int).toNat (D.int .i64 0)).length : Int) = l.length := by simp
 have hrp : ((List.replicate ((y.pits.map ptD).length : Int).toNat (D.int .i64 0)).length : Int) = y.pits.length := by simp
 refine evx_of_awp tysOk mixed (fn := Try.f99) Try.func99 rfl rfl rfl ?_
 conv => whnf
 repeat' (first|((with_reducible refine Need.mk ?_ ?_);(first|omega|rfl|decide|(refine ⟨?_,?_⟩<;>simp<;>omega)|(simp;omega));conv=>whnf)|fail)
 refine LoopK.o3 (fun i : Nat => i ≤ y.pits.length) (fun i => [(27, .d (iD i))]) (fun i => [(18, .row 3 1 (((List.range i).foldl (fun s p => s.set p (if 0 < freeF room fl p then 0 else 10000)) (List.replicate y.pits.length (0 : Int))).map iD) false)]) (fun i => y.pits.length - i) 0 (by omega) (by refine ⟨?_, ?_, rfl⟩<;>(repeat' (first|exact True.intro|exact rfl|(refine ⟨?_,?_⟩)|(intro h;cases h;done)|(simp;done)|exact hmp0|fail));done) ?_
 rintro i hi
 dsimp only at hi ⊢
 have hln := setF_len (g := fun p => if 0 < freeF room fl p then 0 else 10000) (n := y.pits.length) i
 have hst := range_snoc (fun (s : List Int) p => s.set p (if 0 < freeF room fl p then 0 else 10000)) (List.replicate y.pits.length (0 : Int)) i
 by_cases hil : i < y.pits.length
 ·have hc := hFr i hil
  generalize (List.range i).foldl (fun (s : List Int) p => s.set p (if 0 < freeF room fl p then 0 else 10000)) (List.replicate y.pits.length (0 : Int)) = ps at *
  have hlm : (ps.map iD).length = ps.length := List.length_map _
  obtain ⟨x, hx⟩ := some_of_lt (show i < ps.length by omega)
  by_cases hz : 0 < freeF room fl i
  ·rw [if_pos hz] at hst
   have hset : ((ps.map iD).set (i : Int).toNat (iD 10000))[(i : Int).toNat]? = some (iD 10000) := by rw [List.getElem?_set_self (by omega)]
   have hmp1 : ((ps.map iD).set (i : Int).toNat (iD 10000)).set (i : Int).toNat (iD 0) = (ps.set i 0).map iD := by rw [List.set_set, Int.toNat_natCast, List.map_set]
   generalize freeF room fl i = z at *
   conv => whnf
   repeat' (first|((refine PickE.map i hx (by omega) ?_);conv=>whnf)|((refine PickE.mk _ hset ?_);conv=>whnf)|((with_reducible refine Split.dec (fun _=>?_) (fun _=>?_))<;>conv=>whnf)|((with_reducible refine Need.mk ?_ ?_);(first|omega|rfl|decide|(refine ⟨?_,?_⟩<;>simp<;>omega)|(simp;omega));conv=>whnf)|((with_reducible refine Wr.inr ?_ ?_);(first|omega|(simp;omega));conv=>whnf)|((with_reducible refine AltK.r ?_);(conv=>whnf);(first|(refine CallX.mk _ _ (hc) rfl ?_));conv=>whnf)|(exfalso;first|omega|contradiction)|fail)
   all_goals first
    |(exfalso; omega)
    | skip
   refine Again.av (i + 1) (by omega) (by omega) ?_
   rw [hst]
   exact (by refine ⟨?_, ?_, rfl⟩<;>(repeat' (first|exact True.intro|exact rfl|(refine ⟨?_,?_⟩)|(intro h;cases h;done)|(simp;done)|exact hmp1|fail));done)
  ·rw [if_neg hz] at hst
   have hmp1 : (ps.map iD).set (i : Int).toNat (iD 10000) = (ps.set i 10000).map iD := by rw [Int.toNat_natCast, List.map_set]
   generalize freeF room fl i = z at *
   conv => whnf
   repeat' (first|((refine PickE.map i hx (by omega) ?_);conv=>whnf)|((with_reducible refine Split.dec (fun _=>?_) (fun _=>?_))<;>conv=>whnf)|((with_reducible refine Need.mk ?_ ?_);(first|omega|rfl|decide|(refine ⟨?_,?_⟩<;>simp<;>omega)|(simp;omega));conv=>whnf)|((with_reducible refine Wr.inr ?_ ?_);(first|omega|(simp;omega));conv=>whnf)|((with_reducible refine AltK.r ?_);(conv=>whnf);(first|(refine CallX.mk _ _ (hc) rfl ?_));conv=>whnf)|(exfalso;first|omega|contradiction)|fail)
   all_goals first
    |(exfalso; omega)
    | skip
   refine Again.av (i + 1) (by omega) (by omega) ?_
   rw [hst]
   exact (by refine ⟨?_, ?_, rfl⟩<;>(repeat' (first|exact True.intro|exact rfl|(refine ⟨?_,?_⟩)|(intro h;cases h;done)|(simp;done)|exact hmp1|fail));done)
 have hie : i = y.pits.length := by omega
 subst hie
 clear hst hil hi hmp0
 have hps : (tfS y.pits.length l.length room fl).ps = (List.range y.pits.length).foldl (fun s p => s.set p (if 0 < freeF room fl p then 0 else 10000)) (List.replicate y.pits.length (0 : Int)) := rfl
 have hbs : (tfS y.pits.length l.length room fl).bs = (List.range l.length).foldl (fun s b => s.set b 10000) (List.replicate l.length (0 : Int)) := rfl
 have hag : (tfS y.pits.length l.length room fl).again = true := rfl
 rw [← hps] at hln ⊢
 generalize tfS y.pits.length l.length room fl = s0 at *
 have hmpa : AV.d (D.bool true) = AV.d (D.bool s0.again) := by rw [hag]
 have hmp0 : List.replicate ((l.map btD).length : Int).toNat (D.int .i64 0) = ((List.range 0).foldl (fun s b => s.set b 10000) (List.replicate l.length (0 : Int))).map iD := by simp [iD]
 conv => whnf
 repeat' (first|((with_reducible refine Split.dec (fun _=>?_) (fun _=>?_))<;>conv=>whnf)|((with_reducible refine Need.mk ?_ ?_);(first|omega|rfl|decide|(refine ⟨?_,?_⟩<;>simp<;>omega)|(simp;omega));conv=>whnf)|(exfalso;first|omega|contradiction)|fail)
 refine LoopK.o3 (fun i : Nat => i ≤ l.length) (fun i => [(43, .d (iD i))]) (fun i => [(24, .row 3 1 (((List.range i).foldl (fun s b => s.set b 10000) (List.replicate l.length (0 : Int))).map iD) false)]) (fun i => l.length - i) 0 (by omega) (by refine ⟨?_, ?_, rfl⟩<;>(repeat' (first|exact True.intro|exact rfl|(refine ⟨?_,?_⟩)|(intro h;cases h;done)|(simp;done)|exact hmp0|fail));done) ?_
 rintro i hi
 dsimp only at hi ⊢
 have hln2 := setF_len (g := fun _ => 10000) (n := l.length) i
 have hst := range_snoc (fun (s : List Int) b => s.set b 10000) (List.replicate l.length (0 : Int)) i
 by_cases hil : i < l.length
 ·generalize (List.range i).foldl (fun (s : List Int) b => s.set b 10000) (List.replicate l.length (0 : Int)) = bs at *
  have hlm : (bs.map iD).length = bs.length := List.length_map _
  obtain ⟨x, hx⟩ := some_of_lt (show i < bs.length by omega)
  have hmp1 : (bs.map iD).set (i : Int).toNat (iD 10000) = (bs.set i 10000).map iD := by rw [Int.toNat_natCast, List.map_set]
  conv => whnf
  repeat' (first|((refine PickE.map i hx (by omega) ?_);conv=>whnf)|((with_reducible refine Split.dec (fun _=>?_) (fun _=>?_))<;>conv=>whnf)|((with_reducible refine Need.mk ?_ ?_);(first|omega|rfl|decide|(refine ⟨?_,?_⟩<;>simp<;>omega)|(simp;omega));conv=>whnf)|((with_reducible refine Wr.inr ?_ ?_);(first|omega|(simp;omega));conv=>whnf)|(exfalso;first|omega|contradiction)|fail)
  refine Again.av (i + 1) (by omega) (by omega) ?_
  rw [hst]
  exact (by refine ⟨?_, ?_, rfl⟩<;>(repeat' (first|exact True.intro|exact rfl|(refine ⟨?_,?_⟩)|(intro h;cases h;done)|(simp;done)|exact hmp1|fail));done)
 have hie : i = l.length := by omega
 subst hie
 rw [← hbs] at hln2 ⊢
 clear hst hil hi hmp0 hbs hps
 conv => whnf
 repeat' (first|((with_reducible refine Split.dec (fun _=>?_) (fun _=>?_))<;>conv=>whnf)|((with_reducible refine Need.mk ?_ ?_);(first|omega|rfl|decide|(refine ⟨?_,?_⟩<;>simp<;>omega)|(simp;omega));conv=>whnf)|(exfalso;first|omega|contradiction)|fail)
 refine LoopK.o3 (fun x : Nat × Tf => tfGo (accF y l) (priceF y) fl y.pits.length l.length x.1 x.2 = some t ∧ x.2.bs.length = l.length ∧ x.2.ps.length = y.pits.length)
  (fun x => [(7, .d (.bool x.2.again))]) (fun x => [(18, .row 3 1 (x.2.ps.map iD) false), (24, .row 3 1 (x.2.bs.map iD) false)]) (fun x => x.1) (m, s0) ⟨ht, hln2, hln⟩ (by refine ⟨?_, ?_, rfl⟩<;>(repeat' (first|exact True.intro|exact rfl|(refine ⟨?_,?_⟩)|(intro h;cases h;done)|(simp;done)|exact hmpa|fail));done) ?_
 clear ht hln hln2 hag hmpa
 rintro ⟨m, s⟩ ⟨hgo, hbl, hpl⟩
 dsimp only at hgo hbl hpl ⊢
 rcases tfGo_at hgo with ⟨hag, rfl⟩ | ⟨hag, hok, m', rfl, hgo'⟩
 ·have w1 := ev_cloned s.bs (by omega)
  have w2 := ev_cloned s.ps (by omega)
  rw [hag]
  conv => whnf
  repeat' (first|((with_reducible refine Split.of_false ?_);conv=>whnf)|((with_reducible refine Need.mk ?_ ?_);(first|omega|rfl|decide|(refine ⟨?_,?_⟩<;>simp<;>omega)|(simp;omega));conv=>whnf)|((with_reducible refine AltK.l ?_);(conv=>whnf);(first|(refine CallK.mk _ (w1) ?_)|(refine CallK.mk _ (w2) ?_));conv=>whnf)|fail)
  exact ⟨⟨[], (by refine ⟨?_, ?_, rfl⟩<;>(repeat' (first|exact True.intro|exact rfl|(refine ⟨?_,?_⟩)|(intro h;cases h;done)|(simp;done)|fail));done)⟩, rfl⟩
 ·have hT := okTf_ok hok hbl hpl
  rw [hag]
  obtain ⟨W, hW⟩ : ∃ W : Nat → Tf, ∀ b, W b = (List.range b).foldl (tfB (accF y l) (priceF y) fl y.pits.length) ⟨s.bs, s.ps, false⟩ := ⟨_, fun _ => rfl⟩
  have hW0 : W 0 = ⟨s.bs, s.ps, false⟩ := hW 0
  have hWs : ∀ b, W (b + 1) = tfB (accF y l) (priceF y) fl y.pits.length (W b) b := fun b => by rw [hW, range_snoc, ← hW]
  have hWL : tfR (accF y l) (priceF y) fl y.pits.length l.length s = W l.length := by rw [tfR, hW]
  rw [hWL] at hgo'
  clear hW hWL
  have hT0 : TfOk y.pits.length l.length (1000000000000 + 20000 * (8 * (0 : Nat))) (W 0) := by rw [hW0]; exact ⟨hT.bl, hT.pl, fun x hx => by have := hT.bb x hx; omega, fun x hx => by have := hT.pb x hx; omega⟩
  conv => whnf
  repeat' (first|((with_reducible refine Split.of_true ?_);conv=>whnf)|fail)
  refine LoopK.o3 (fun b : Nat => b ≤ l.length ∧ TfOk y.pits.length l.length (1000000000000 + 20000 * (8 * b)) (W b)) (fun b => [(7, .d (.bool (W b).again)), (53, .d (iD b))]) (fun b => [(18, .row 3 1 ((W b).ps.map iD) false), (24, .row 3 1 ((W b).bs.map iD) false)]) (fun b => l.length - b) 0 ⟨by omega, hT0⟩ (by dsimp only;rw [hW0];exact (by refine ⟨?_, ?_, rfl⟩<;>(repeat' (first|exact True.intro|exact rfl|(refine ⟨?_,?_⟩)|(intro h;cases h;done)|(simp;done)|fail));done)) ?_
  have hsbs : (s.bs.map iD).length = l.length := by rw [List.length_map]; exact hbl
  clear hT0 hT hbl hpl hag hok hgo
  rintro b ⟨hb, hTb⟩
  dsimp only at hb hTb ⊢
  have hws := hWs b
  have hlbs : ((W b).bs.map iD).length = l.length := by rw [List.length_map]; exact hTb.bl
  have hlps : ((W b).ps.map iD).length = y.pits.length := by rw [List.length_map]; exact hTb.pl
  by_cases hbl : b < l.length
  ·obtain ⟨row, hrow⟩ := some_of_lt (show b < fl.length by omega)
   have hrm := List.mem_of_getElem? hrow
   have hrl := h.row row hrm
   have hlr : (row.map iD).length = row.length := List.length_map _
   generalize W b = w at *
   obtain ⟨U, hU⟩ : ∃ U : Nat → Tf, ∀ p, U p = (List.range p).foldl (tfP (accF y l) (priceF y) fl b) w := ⟨_, fun _ => rfl⟩
   have hU0 : U 0 = w := hU 0
   have hUs : ∀ p, U (p + 1) = tfP (accF y l) (priceF y) fl b (U p) p := fun p => by rw [hU, range_snoc, ← hU]
   have hUP : W (b + 1) = U y.pits.length := by rw [hws, tfB, hU]
   clear hU hws
   conv => whnf
   repeat' (first|((with_reducible refine Split.dec (fun _=>?_) (fun _=>?_))<;>conv=>whnf)|(exfalso;first|omega|contradiction)|fail)
   refine LoopK.o3 (fun p : Nat => p ≤ y.pits.length ∧ TfOk y.pits.length l.length (1000000000000 + 20000 * (8 * b + p)) (U p)) (fun p => [(7, .d (.bool (U p).again)), (58, .d (iD p))]) (fun p => [(18, .row 3 1 ((U p).ps.map iD) false), (24, .row 3 1 ((U p).bs.map iD) false)]) (fun p => y.pits.length - p) 0 ⟨by omega, by rw [hU0];exact hTb.mono (by omega)⟩ (by dsimp only;rw [hU0];exact (by refine ⟨?_, ?_, rfl⟩<;>(repeat' (first|exact True.intro|exact rfl|(refine ⟨?_,?_⟩)|(intro h;cases h;done)|(simp;done)|fail));done)) ?_
   have hwps := hlps
   clear hlbs hlps hTb
   rintro p ⟨hp, hTp⟩
   dsimp only at hp hTp ⊢
   have hus := hUs p
   by_cases hpl : p < y.pits.length
   ·obtain ⟨q, hq⟩ := some_of_lt hpl
    have hqp := hpp q (List.mem_of_getElem? hq)
    have hprq : priceF y p = q.price := by rw [priceF, hq]
    have hTn : TfOk y.pits.length l.length (1000000000000 + 20000 * (8 * b + (p + 1 : Nat))) (U (p + 1)) := by
     rw [hus]
     exact (tfP_ok (by rw [hprq]; exact hqp) hTp (by omega)).mono (by omega)
    have hac := hAc p b hpl hbl
    generalize U p = u at *
    have hlbs : (u.bs.map iD).length = l.length := by rw [List.length_map]; exact hTp.bl
    have hlps : (u.ps.map iD).length = y.pits.length := by rw [List.length_map]; exact hTp.pl
    cases ha : accF y l p b with
    | false =>
     have hst : U (p + 1) = u := by rw [hus, tfP, ha]; rfl
     rw [ha] at hac
     conv => whnf
     repeat' (first|((with_reducible refine Split.of_false ?_);conv=>whnf)|(with_reducible refine Split.neg ?_)|((with_reducible refine Split.dec (fun _=>?_) (fun _=>?_))<;>conv=>whnf)|((with_reducible refine Wr.inr ?_ ?_);(first|omega|(simp;omega));conv=>whnf)|((with_reducible refine AltK.r ?_);(conv=>whnf);(first|(refine CallX.mk _ _ (hac) rfl ?_));conv=>whnf)|(exfalso;first|omega|contradiction)|fail)
     refine Again.av (p + 1) ⟨by omega, hTn⟩ (by omega) ?_
     rw [hst]
     exact (by refine ⟨?_, ?_, rfl⟩<;>(repeat' (first|exact True.intro|exact rfl|(refine ⟨?_,?_⟩)|(intro h;cases h;done)|(simp;done)|fail));done)
    | true =>
     rw [ha] at hac
     obtain ⟨pv, hpv⟩ := some_of_lt (show p < u.ps.length by rw [hTp.pl]; exact hpl)
     obtain ⟨bv, hbv⟩ := some_of_lt (show b < u.bs.length by rw [hTp.bl]; exact hbl)
     obtain ⟨cx, hcx⟩ := some_of_lt (show p < row.length by omega)
     have hpvb := hTp.pb pv (List.mem_of_getElem? hpv)
     have hbvb := hTp.bb bv (List.mem_of_getElem? hbv)
     have d1 : u.ps.getD p 0 = pv := by rw [List.getD, hpv]; rfl
     have d2 : u.bs.getD b 0 = bv := by rw [List.getD, hbv]; rfl
     have d3 : cellZ fl b p = cx := by simp [cellZ, List.getD, hrow, hcx]
     by_cases h1 : q.price + pv < bv
     ·have t1 : tf1 (priceF y) b u p = ⟨u.bs.set b (q.price + pv), u.ps, true⟩ := by rw [tf1, hprq, d1, d2, if_pos h1]
      have hset : ((u.bs.map iD).set (b : Int).toNat (iD (q.price + pv)))[(b : Int).toNat]? = some (iD (q.price + pv)) := by rw [List.getElem?_set_self (by rw [Int.toNat_natCast, hlbs]; exact hbl)]
      have hsl : ((u.bs.map iD).set (b : Int).toNat (D.int .i64 (q.price + pv))).length = l.length := by rw [List.length_set]; exact hlbs
      have d4 : (u.bs.set b (q.price + pv)).getD b 0 = q.price + pv := by rw [List.getD, List.getElem?_set_self (by rw [hTp.bl]; exact hbl)]; rfl
      have hst : U (p + 1) = ⟨u.bs.set b (q.price + pv), u.ps, true⟩ := by
       rw [hus, tfP, if_pos ha, t1, tf2, hprq]
       dsimp only
       rw [d4, d1, if_neg (by omega)]
      have hmp1 : (u.bs.map iD).set (b : Int).toNat (iD (q.price + pv)) = (u.bs.set b (q.price + pv)).map iD := by rw [Int.toNat_natCast, List.map_set]
      conv => whnf
      repeat' (first|((refine PickE.map p hcx (by omega) ?_);conv=>whnf)|((refine PickR.map b hrow (by omega) ?_);conv=>whnf)|((refine PickE.map b hbv (by omega) ?_);conv=>whnf)|((refine PickE.mk _ hset ?_);conv=>whnf)|((refine PickE.map p hpv (by omega) ?_);conv=>whnf)|((refine PickE.map p hq (by omega) ?_);conv=>whnf)|((with_reducible first|refine Split.of_true ?_|refine Split.of_false ?_);conv=>whnf)|(with_reducible refine Split.neg ?_)|((with_reducible refine Split.dec (fun _=>?_) (fun _=>?_))<;>conv=>whnf)|((with_reducible refine Need.mk ?_ ?_);(first|omega|rfl|decide|(refine ⟨?_,?_⟩<;>simp<;>omega)|(simp;omega));conv=>whnf)|((with_reducible refine Wr.inr ?_ ?_);(first|omega|(simp;omega));conv=>whnf)|((with_reducible refine AltK.r ?_);(conv=>whnf);(first|(refine CallX.mk _ _ (hac) rfl ?_));conv=>whnf)|(exfalso;first|omega|contradiction)|fail)
      all_goals first
       |(exfalso; omega)
       | skip
      all_goals (
       refine Again.av (p + 1) ⟨by omega, hTn⟩ (by omega) ?_
       rw [hst]
       exact (by refine ⟨?_, ?_, rfl⟩<;>(repeat' (first|exact True.intro|exact rfl|(refine ⟨?_,?_⟩)|(intro h;cases h;done)|(simp;done)|exact hmp1|fail));done))
     ·have t1 : tf1 (priceF y) b u p = u := by rw [tf1, hprq, d1, d2, if_neg h1]
      by_cases h2 : 0 < cx ∧ bv - q.price < pv
      ·have hst : U (p + 1) = ⟨u.bs, u.ps.set p (bv - q.price), true⟩ := by
        rw [hus, tfP, if_pos ha, t1, tf2, hprq, d2, d1, d3, if_pos h2]
       have hmp1 : (u.ps.map iD).set (p : Int).toNat (iD (bv - q.price)) = (u.ps.set p (bv - q.price)).map iD := by rw [Int.toNat_natCast, List.map_set]
       conv => whnf
       repeat' (first|((refine PickE.map p hcx (by omega) ?_);conv=>whnf)|((refine PickR.map b hrow (by omega) ?_);conv=>whnf)|((refine PickE.map b hbv (by omega) ?_);conv=>whnf)|((refine PickE.map p hpv (by omega) ?_);conv=>whnf)|((refine PickE.map p hq (by omega) ?_);conv=>whnf)|((with_reducible first|refine Split.of_true ?_|refine Split.of_false ?_);conv=>whnf)|(with_reducible refine Split.neg ?_)|((with_reducible refine Split.dec (fun _=>?_) (fun _=>?_))<;>conv=>whnf)|((with_reducible refine Need.mk ?_ ?_);(first|omega|rfl|decide|(refine ⟨?_,?_⟩<;>simp<;>omega)|(simp;omega));conv=>whnf)|((with_reducible refine Wr.inr ?_ ?_);(first|omega|(simp;omega));conv=>whnf)|((with_reducible refine AltK.r ?_);(conv=>whnf);(first|(refine CallX.mk _ _ (hac) rfl ?_));conv=>whnf)|(exfalso;first|omega|contradiction)|fail)
       all_goals first
        |(exfalso; omega)
        | skip
       all_goals (
        refine Again.av (p + 1) ⟨by omega, hTn⟩ (by omega) ?_
        rw [hst]
        exact (by refine ⟨?_, ?_, rfl⟩<;>(repeat' (first|exact True.intro|exact rfl|(refine ⟨?_,?_⟩)|(intro h;cases h;done)|(simp;done)|exact hmp1|fail));done))
      ·have hst : U (p + 1) = u := by
        rw [hus, tfP, if_pos ha, t1, tf2, hprq, d2, d1, d3, if_neg h2]
       conv => whnf
       repeat' (first|((refine PickE.map p hcx (by omega) ?_);conv=>whnf)|((refine PickR.map b hrow (by omega) ?_);conv=>whnf)|((refine PickE.map b hbv (by omega) ?_);conv=>whnf)|((refine PickE.map p hpv (by omega) ?_);conv=>whnf)|((refine PickE.map p hq (by omega) ?_);conv=>whnf)|((with_reducible first|refine Split.of_true ?_|refine Split.of_false ?_);conv=>whnf)|(with_reducible refine Split.neg ?_)|((with_reducible refine Split.dec (fun _=>?_) (fun _=>?_))<;>conv=>whnf)|((with_reducible refine Need.mk ?_ ?_);(first|omega|rfl|decide|(refine ⟨?_,?_⟩<;>simp<;>omega)|(simp;omega));conv=>whnf)|((with_reducible refine Wr.inr ?_ ?_);(first|omega|(simp;omega));conv=>whnf)|((with_reducible refine AltK.r ?_);(conv=>whnf);(first|(refine CallX.mk _ _ (hac) rfl ?_));conv=>whnf)|(exfalso;first|omega|contradiction)|fail)
       all_goals first
        |(exfalso; omega)
        | skip
       all_goals (
        refine Again.av (p + 1) ⟨by omega, hTn⟩ (by omega) ?_
        rw [hst]
        exact (by refine ⟨?_, ?_, rfl⟩<;>(repeat' (first|exact True.intro|exact rfl|(refine ⟨?_,?_⟩)|(intro h;cases h;done)|(simp;done)|fail));done))
   ·have hpe : p = y.pits.length := by omega
    subst hpe
    have hTn : TfOk y.pits.length l.length (1000000000000 + 20000 * (8 * (b + 1 : Nat))) (W (b + 1)) := by rw [hUP]; exact hTp.mono (by omega)
    rw [← hUP]
    have hlps : ((W (b + 1)).ps.map iD).length = y.pits.length := by rw [List.length_map]; exact hTn.pl
    generalize hw' : W (b + 1) = w' at *
    conv => whnf
    repeat' (first|((with_reducible refine Split.dec (fun _=>?_) (fun _=>?_))<;>conv=>whnf)|((with_reducible refine Wr.inr ?_ ?_);(first|omega|(simp;omega));conv=>whnf)|(exfalso;first|omega|contradiction)|fail)
    refine Again.av (b + 1) ⟨by omega, by rw [hw']; exact hTn⟩ (by omega) ?_
    rw [hw']
    exact (by refine ⟨?_, ?_, rfl⟩<;>(repeat' (first|exact True.intro|exact rfl|(refine ⟨?_,?_⟩)|(intro h;cases h;done)|(simp;done)|fail));done)
  ·have hbe : b = l.length := by omega
   subst hbe
   generalize W l.length = w at *
   conv => whnf
   repeat' (first|((with_reducible refine Split.dec (fun _=>?_) (fun _=>?_))<;>conv=>whnf)|(exfalso;first|omega|contradiction)|fail)
   refine Again.av (m', w) ⟨hgo', hTb.bl, hTb.pl⟩ (by dsimp only; omega) ?_
   exact (by refine ⟨?_, ?_, rfl⟩<;>(repeat' (first|exact True.intro|exact rfl|(refine ⟨?_,?_⟩)|(intro h;cases h;done)|(simp;done)|fail));done)
end Go.Proofs.Try
end

section
namespace Go.Proofs.Try
open Go Go.Vm
set_option maxRecDepth 20000
set_option maxHeartbeats 8000000
/-! The task: checkList; begin. -/
def lsGo (y : Yd) (q : Int → Bool) : List Bt → List Bt → Int
 | _, [] => 0
 | o, b :: r => if batErr y b ≠ 0 then batErr y b else if o.any (fun x => x.n == b.n) = true then 5 else if q b.n = true then 5 else lsGo y q (o ++ [b]) r
def lsErr (y : Yd) (l : List Bt) (most : Nat) (q : Int → Bool) : Int := if ydErr y ≠ 0 then ydErr y else if most < l.length then 8 else lsGo y q [] l
theorem lsGo_at {y : Yd} {q : Int → Bool} {l : List Bt} {i : Nat} {b : Bt} (h : l[i]? = some b) : lsGo y q (l.take i) (l.drop i) =
 if batErr y b ≠ 0 then batErr y b else if (l.take i).any (fun x => x.n == b.n) = true then 5 else if q b.n = true then 5 else lsGo y q (l.take (i + 1)) (l.drop (i + 1)) := by
 rw [drop_of h, lsGo, take_snoc h]
theorem ev_checkList (y : Yd) (l : List Bt) (most : Nat) (f : Nat) (caps : List D) (q : Int → Bool) (hs : smallP y) (hl : l.length ≤ 1000000) (hq : ∀ b ∈ l, Ev Try.prog f ([iD b.n] ++ caps) (.bool (q b.n))) :
 Ev Try.prog 81 [ydD y, .sl 5 (l.map btD), iD most, .fn f caps] (iD (lsErr y l most q)) := by
 have hll : (l.map btD).length = l.length := List.length_map _
 have h1 := ev_DCheck y hs
 unfold lsErr
 by_cases h0 : ydErr y = 0
 case neg =>
  rw [if_pos h0]
  generalize ydErr y = er at *
  refine ev_of_awp tysOk mixed (fn := Try.f81) Try.func81 rfl rfl rfl ?_
  conv => whnf
  repeat' (first|((with_reducible refine Split.nez (fun _=>?_) (fun _=>?_))<;>conv=>whnf)|((with_reducible refine Split.dec (fun _=>?_) (fun _=>?_))<;>conv=>whnf)|((with_reducible refine AltK.l ?_);(conv=>whnf);(first|(refine CallK.mk _ (h1) ?_));conv=>whnf)|(exfalso;first|omega|contradiction)|fail)
  all_goals first
   | rfl
   |(exfalso; omega)
 rw [if_neg (by simpa using h0)]
 have hbk := bulk_few h0
 rw [h0] at h1
 by_cases hmo : most < l.length
 ·rw [if_pos hmo]
  refine ev_of_awp tysOk mixed (fn := Try.f81) Try.func81 rfl rfl rfl ?_
  conv => whnf
  repeat' (first|((with_reducible refine Split.is_false ?_ ?_);decide;conv=>whnf)|((with_reducible refine Split.dec (fun _=>?_) (fun _=>?_))<;>conv=>whnf)|((with_reducible refine AltK.l ?_);(conv=>whnf);(first|(refine CallK.mk _ (h1) ?_));conv=>whnf)|(exfalso;first|omega|contradiction)|fail)
  all_goals first
   | rfl
   |(exfalso; omega)
 rw [if_neg hmo]
 have e0 : lsGo y q [] l = lsGo y q (l.take 0) (l.drop 0) := rfl
 refine ev_of_awp tysOk mixed (fn := Try.f81) Try.func81 rfl rfl rfl ?_
 conv => whnf
 repeat' (first|((with_reducible refine Split.is_false ?_ ?_);decide;conv=>whnf)|((with_reducible refine Split.dec (fun _=>?_) (fun _=>?_))<;>conv=>whnf)|((with_reducible refine AltK.l ?_);(conv=>whnf);(first|(refine CallK.mk _ (h1) ?_));conv=>whnf)|(exfalso;first|omega|contradiction)|fail)
 refine LoopK.o2 (fun i : Nat => i ≤ l.length ∧ lsGo y q [] l = lsGo y q (l.take i) (l.drop i)) (fun i => [(26, .d (.int .i64 i))]) (fun i => [(23, .map 3 4 (.int .i64) (seenD Bt.n (l.take i)))]) (fun i => l.length - i) 0 ⟨by omega, e0⟩ (by refine ⟨?_, ?_, rfl⟩<;>(repeat' (first|exact True.intro|exact rfl|(refine ⟨?_,?_⟩)|(intro h;cases h;done)|fail));done) ?_
 rintro i ⟨hi, hp⟩
 by_cases hil : i < l.length
 ·obtain ⟨b, hb⟩ := some_of_lt hil
  rw [lsGo_at hb] at hp
  have w1 := ev_checkBatch y b (by omega)
  have w2 := hq b (List.mem_of_getElem? hb)
  have hm := mget_seen Bt.n b.n (l.take i)
  by_cases hz : batErr y b = 0
  case neg =>
   rw [if_pos hz] at hp
   rw [hp]
   generalize batErr y b = er at *
   conv => whnf
   repeat' (first|((refine PickE.map i hb (by omega) ?_);conv=>whnf)|((with_reducible refine Split.nez (fun _=>?_) (fun _=>?_))<;>conv=>whnf)|((with_reducible refine Split.dec (fun _=>?_) (fun _=>?_))<;>conv=>whnf)|((with_reducible refine Need.mk ?_ ?_);(first|omega|rfl|decide|(refine ⟨?_,?_⟩<;>simp<;>omega)|(simp;omega));conv=>whnf)|((with_reducible refine AltK.l ?_);(conv=>whnf);(first|(refine CallK.mk _ (w1) ?_));conv=>whnf)|(exfalso;first|omega|contradiction)|fail)
   all_goals first
    | rfl
    |(exfalso; omega)
  rw [if_neg (by simpa using hz)] at hp
  rw [hz] at w1
  conv => whnf
  repeat' (first|((refine PickE.map i hb (by omega) ?_);conv=>whnf)|((with_reducible refine Split.is_false ?_ ?_);decide;conv=>whnf)|((with_reducible refine Split.dec (fun _=>?_) (fun _=>?_))<;>conv=>whnf)|((with_reducible refine Need.mk ?_ ?_);(first|omega|rfl|decide|(refine ⟨?_,?_⟩<;>simp<;>omega)|(simp;omega));conv=>whnf)|((with_reducible refine AltK.l ?_);(conv=>whnf);(first|(refine CallK.mk _ (w1) ?_));conv=>whnf)|(exfalso;first|omega|contradiction)|fail)
  refine LookK.mk (fun v hv => ?_) (fun hv => ?_)
  ·rw [hm] at hv
   split at hv
   ·rename_i h3
    cases hv
    rw [if_pos h3] at hp
    rw [hp]
    conv => whnf
    repeat' (first|((with_reducible refine Split.of_true ?_);conv=>whnf)|fail)
    rfl
   ·cases hv
  ·have h3 : ¬ (l.take i).any (fun x => x.n == b.n) = true := fun h => by rw [hm, if_pos h] at hv; cases hv
   rw [if_neg h3] at hp
   have hs := seen_snoc hb hv
   cases hqb : q b.n with
   | true =>
    rw [hqb, if_pos rfl] at hp
    rw [hqb] at w2
    rw [hp]
    conv => whnf
    repeat' (first|((with_reducible first|refine Split.of_true ?_|refine Split.of_false ?_);conv=>whnf)|((with_reducible refine AltK.l ?_);(conv=>whnf);(first|(refine CallK.mk _ (w2) ?_));conv=>whnf)|fail)
    rfl
   | false =>
    rw [hqb, if_neg (by decide)] at hp
    rw [hqb] at w2
    conv => whnf
    repeat' (first|((with_reducible refine Split.of_false ?_);conv=>whnf)|((with_reducible refine Need.mk ?_ ?_);(first|omega|rfl|decide|(refine ⟨?_,?_⟩<;>simp<;>omega)|(simp;omega));conv=>whnf)|((with_reducible refine Wr.inr ?_ ?_);(first|omega|(simp;omega));conv=>whnf)|((with_reducible refine AltK.l ?_);(conv=>whnf);(first|(refine CallK.mk _ (w2) ?_));conv=>whnf)|fail)
    exact Again.au (i + 1) ⟨by omega, hp⟩ (by omega) (by refine ⟨?_, ?_, rfl⟩<;>(repeat' (first|exact True.intro|exact rfl|(refine ⟨?_,?_⟩)|(intro h;cases h;done)|((first|refine own_congr ?_|refine int_congr ?_|skip);simp [hs];done)|fail));done)
 ·rw [List.drop_eq_nil_of_le (show l.length ≤ i by omega)] at hp
  rw [hp]
  conv => whnf
  repeat' (first|((with_reducible refine Split.dec (fun _=>?_) (fun _=>?_))<;>conv=>whnf)|((with_reducible refine Need.mk ?_ ?_);(first|omega|rfl|decide|(refine ⟨?_,?_⟩<;>simp<;>omega)|(simp;omega));conv=>whnf)|(exfalso;first|omega|contradiction)|fail)
  rfl
theorem ev_begin1 (y : Yd) (n : Int) (hn : y.deps.length ≤ 1000000) : Ev Try.prog 114 [iD n, .ref (ydD y).cells 0] (.bool (depB y n)) := by
 have h := ev_deposited y n hn
 refine ev_of_awp tysOk mixed (fn := Try.f114) Try.func114 rfl rfl rfl ?_
 conv => whnf
 repeat' (first|((with_reducible refine AltK.l ?_);(conv=>whnf);(first|(refine CallK.mk _ (h) ?_));conv=>whnf)|fail)
 rfl
def lstE (y : Yd) (l : List Bt) : Int := lsErr y l 12 (depB y)
def bkAt (y : Yd) (k : Nat) : Bk := y.bulk.getD k ⟨⟨#[]⟩, 0, 1⟩
def volsGo (y : Yd) : List Int → List Bt → List Int
 | _, [] => []
 | c, b :: r => volN b (bkAt y (facI y b.soil).toNat) (c.getD (facI y b.soil).toNat 0) :: volsGo y (c.set (facI y b.soil).toNat (carN b (bkAt y (facI y b.soil).toNat) (c.getD (facI y b.soil).toNat 0))) r
def volF (y : Yd) (l : List Bt) : List Int := volsGo y y.carry l
def roomF (y : Yd) : List Int := y.pits.map (roomS y)
def flow0 (y : Yd) (l : List Bt) : List (List Int) := l.map fun _ => List.replicate y.pits.length 0
structure CarOk (y : Yd) (c : List Int) : Prop where
 len : c.length = y.bulk.length
 at_ : ∀ (i : Nat) b z, y.bulk[i]? = some b → c[i]? = some z → 0 ≤ z ∧ z ≤ b.den - 1
theorem lsGo_zero {y : Yd} {q : Int → Bool} : ∀ {r o : List Bt}, lsGo y q o r = 0 → (∀ b ∈ r, batErr y b = 0 ∧ q b.n = false ∧ o.any (fun x => x.n == b.n) = false) ∧ r.Pairwise fun a b => a.n ≠ b.n
 | [], _, _ => ⟨by simp, .nil⟩
 | b :: r, o, h => by
  rw [lsGo] at h
  split at h
  ·contradiction
  rename_i h1
  split at h
  ·cases h
  rename_i h2
  split at h
  ·cases h
  rename_i h3
  obtain ⟨k1, k2⟩ := lsGo_zero h
  refine ⟨fun x hx => ?_, List.pairwise_cons.2 ⟨fun x hx => ?_, k2⟩⟩
  ·rcases List.mem_cons.1 hx with rfl | hx
   ·exact ⟨by simpa using h1, by simpa using h3, by simpa using h2⟩
   ·obtain ⟨a1, a2, a3⟩ := k1 x hx
    rw [List.any_append, Bool.or_eq_false_iff] at a3
    exact ⟨a1, a2, a3.1⟩
  ·have := (k1 x hx).2.2
   rw [List.any_append, Bool.or_eq_false_iff] at this
   simpa using this.2
structure LsOk (y : Yd) (l : List Bt) : Prop where
 yd : ydErr y = 0
 len : l.length ≤ 12
 wok : ∀ b ∈ l, ∃ k f c, Wok y b k f c
 new : ∀ b ∈ l, depB y b.n = false
 dist : l.Pairwise fun a b => a.n ≠ b.n
theorem ls_ok {y : Yd} {l : List Bt} (h : lstE y l = 0) : LsOk y l := by
 unfold lstE lsErr at h
 split at h
 ·contradiction
 rename_i h1
 split at h
 ·cases h
 rename_i h2
 have h1 : ydErr y = 0 := by simpa using h1
 obtain ⟨k1, k2⟩ := lsGo_zero h
 exact ⟨h1, by omega, fun b hb => with_ok (by rw [withErr, if_neg (by simp [h1])]; exact (k1 b hb).1), fun b hb => (k1 b hb).2.1, k2⟩
theorem carN_bd {b : Bt} {f : Bk} {c : Int} (hb : BtOk b) (hf : BkOk f) (hc : 0 ≤ c ∧ c ≤ f.den - 1) : 0 ≤ carN b f c ∧ carN b f c ≤ f.den - 1 := by
 have h1 := hf.den
 obtain ⟨m1, m2⟩ := bulkN_bd hb hf (c := c) (by omega)
 unfold carN
 have d3 := Int.emod_nonneg ((b.bed - b.over) * f.num + c) (show f.den ≠ 0 by omega)
 have d4 := Int.emod_lt_of_pos ((b.bed - b.over) * f.num + c) (show 0 < f.den by omega)
 omega
theorem CarOk.set {y : Yd} {c : List Int} (h : CarOk y c) {k : Nat} {f : Bk} {z : Int} (hf : y.bulk[k]? = some f) (hz : 0 ≤ z ∧ z ≤ f.den - 1) : CarOk y (c.set k z) := by
 refine ⟨by rw [List.length_set]; exact h.len, fun i b w hb hw => ?_⟩
 rw [List.getElem?_set] at hw
 split at hw
 ·rename_i e
  subst e
  split at hw
  ·cases hw
   rw [hf] at hb
   cases hb
   exact hz
  ·cases hw
 ·exact h.at_ i b w hb hw
theorem xv_begin {y : Yd} {l : List Bt} (hs : smallP y) (hl : l.length ≤ 1000000) (h0 : lstE y l = 0) :
 EvX Try.prog 92 [.d (ydD y), .d (.sl 5 (l.map btD))] [] (.tup [.ptr 9 0, .d (iD 0)])
  [(6009, .mat 25 3 0 ((flow0 y l).map fun r => some (r.map iD))), (4009, .row 3 1 ((roomF y).map iD) false), (2009, .row 3 1 ((volF y l).map iD) false),
   (9, .var [.d (.sl 6 (y.pits.map ptD)), .d (.sl 3 (y.bulk.map bkD)), .d (.sl 3 (y.deps.map dpD)), .d (.sl 1 (y.carry.map iD)), .d (.sl 5 (l.map btD)), .own 2009 1 ((volF y l).map iD).length, .own 4009 1 ((roomF y).map iD).length, .own 6009 1 l.length] false)] := by
 have hll : (l.map btD).length = l.length := List.length_map _
 have hlp : (y.pits.map ptD).length = y.pits.length := List.length_map _
 have hO := ls_ok h0
 have hyk := yd_ok hO.yd
 have hb20 := hyk.bulk
 have hp8 := hyk.pits
 have hd200 := hyk.deps
 have hcl := hyk.carL
 have hl12 := hO.len
 have h1 := ev_checkList y l 12 114 [.ref (ydD y).cells 0] (depB y) hs hl (fun b _ => ev_begin1 y b.n (by omega))
 rw [show lsErr y l 12 (depB y) = 0 from h0] at h1
 have hX := EvX.new1 (xs := [.sl 1 (y.carry.map iD)]) (xv_clonedI y.carry (by omega)) 26
 have hrp : ((List.replicate y.pits.length (0 : Int)).map iD).length = y.pits.length := by simp
 refine evx_of_awp tysOk mixed (fn := Try.f92) Try.func92 rfl rfl rfl ?_
 conv => whnf
 repeat' (first|((with_reducible refine Split.is_false ?_ ?_);decide;conv=>whnf)|((with_reducible refine AltK.r ?_);(conv=>whnf);(first|(refine CallX.mk _ _ (hX) rfl ?_));conv=>whnf)|((with_reducible refine AltK.l ?_);(conv=>whnf);(first|(refine CallK.mk _ (h1) ?_));conv=>whnf)|fail)
 refine LoopK.o3 (fun x : Nat × List Int × List Int => x.1 ≤ l.length ∧ volF y l = x.2.2 ++ volsGo y x.2.1 (l.drop x.1) ∧ x.2.2.length = x.1 ∧ CarOk y x.2.1) (fun x => [(29, .d (iD x.1))])
  (fun x => [(23, .var [.d (.sl 6 (y.pits.map ptD)), .d (.sl 3 (y.bulk.map bkD)), .d (.sl 3 (y.deps.map dpD)), .d (.sl 1 (y.carry.map iD)), .d (.sl 5 (l.map btD)), .own 200 1 (x.2.2.map iD).length, .nil 1, .own 201 1 ((flow0 y (l.take x.1)).map fun r => some (r.map iD)).length] false),
    (200, .row 3 1 (x.2.2.map iD) false), (201, .mat 25 3 0 ((flow0 y (l.take x.1)).map fun r => some (r.map iD))), (26, .row 3 1 (x.2.1.map iD) false)]) (fun x => l.length - x.1) (0, y.carry, [])
  ⟨by omega, rfl, rfl, hcl, hyk.car⟩ (by refine ⟨?_, ?_, rfl⟩<;>(repeat' (first|exact True.intro|exact rfl|(refine ⟨?_,?_⟩)|(intro h;cases h;done)|(intro h;exact h)|fail));done) ?_
 rintro ⟨i, c, pre⟩ ⟨hi, hv, hpl, hc⟩
 dsimp only at hi hv hpl hc ⊢
 have hcl' := hc.len
 have hpm : (pre.map iD).length = pre.length := List.length_map _
 have hfm : ((flow0 y (l.take i)).map fun r => some (r.map iD)).length = i := by rw [List.length_map, flow0, List.length_map, List.length_take]; omega
 have hfm2 : (flow0 y (l.take i)).length = i := by rw [flow0, List.length_map, List.length_take]; omega
 by_cases hil : i < l.length
 ·obtain ⟨b, hb⟩ := some_of_lt hil
  obtain ⟨k, f, z0, hW⟩ := hO.wok b (List.mem_of_getElem? hb)
  obtain ⟨z, hz⟩ := some_of_lt (show k < c.length by rw [hcl']; exact lt_of_some hW.fat)
  have hzb := hc.at_ k f z hW.fat hz
  have hden := hW.fo.den
  have hB := xv_bulked y b c hb20 hW.ixk hW.fat hz hW.bok hW.fo (by omega)
  rw [show (c.map iD).length = (y.carry.map iD).length by rw [List.length_map, List.length_map, hcl', hcl]] at hB
  have hB := hB.rn [(1000, 26)] rfl
  have hmb := bulkN_bd hW.bok hW.fo (c := z) (by omega)
  have ek : (facI y b.soil).toNat = k := by rw [hW.ixk]; rfl
  have ef : bkAt y k = f := by rw [bkAt, List.getD, hW.fat]; rfl
  have ec : c.getD k 0 = z := by rw [List.getD, hz]; rfl
  rw [drop_of hb, volsGo, ek, ef, ec] at hv
  have hcar := carN_bd (b := b) (f := f) (c := z) hW.bok hW.fo hzb
  rw [show ((b.bed - b.over) * f.num + z) / f.den = volN b f z from rfl, show ((b.bed - b.over) * f.num + z) % f.den = carN b f z from rfl] at hB
  generalize volN b f z = v at *
  generalize carN b f z = cn at *
  conv => whnf
  repeat' (first|((refine PickE.map i hb (by omega) ?_);conv=>whnf)|((with_reducible refine Split.dec (fun _=>?_) (fun _=>?_))<;>conv=>whnf)|((with_reducible refine Need.mk ?_ ?_);(first|omega|rfl|decide|(refine ⟨?_,?_⟩<;>simp<;>omega)|(simp;omega));conv=>whnf)|((with_reducible refine Wr.inr ?_ ?_);(first|omega|(simp;omega));conv=>whnf)|((with_reducible refine AltK.r ?_);(conv=>whnf);(first|(refine CallX.mk _ _ (hB) rfl ?_));conv=>whnf)|(exfalso;first|omega|contradiction)|fail)
  have hmp1 : pre.map iD ++ iD v :: List.replicate 0 (D.int .i64 0) = (pre ++ [v]).map iD := by simp
  have hmp2 : ((flow0 y (l.take i)).map fun r => some (r.map iD)) ++ [some (List.replicate ((y.pits.map ptD).length : Int).toNat (D.int .i64 0))] = (flow0 y (l.take (i + 1))).map fun r => some (r.map iD) := by
   rw [take_snoc hb, flow0, flow0, List.map_append, List.map_append]
   simp [iD]
  refine Again.av (i + 1, c.set k cn, pre ++ [v]) ⟨by dsimp only; omega, by rw [hv]; simp, by simp only [List.length_append, List.length_singleton]; omega, hc.set hW.fat hcar⟩ (by dsimp only; omega) ?_
  dsimp only
  have hfm3 : (flow0 y (l.take (i + 1))).length = i + 1 := by rw [flow0, List.length_map, List.length_take]; omega
  exact (by refine ⟨?_, ?_, rfl⟩<;>(repeat' (first|exact True.intro|exact rfl|(refine ⟨?_,?_⟩)|(intro h;cases h;done)|(intro h;exact h)|exact map_snoc|(refine own_congr ?_;simp;done)|exact hmp2|((first|refine own_congr ?_|refine int_congr ?_|skip);simp [hfm2,hfm3];done)|fail));done)
 ·have hie : i = l.length := by omega
  subst hie
  rw [List.drop_length, volsGo, List.append_nil] at hv
  rw [List.take_length, ← hv]
  have hfl : ((flow0 y l).map fun r => some (r.map iD)).length = l.length := by rw [List.length_map, flow0, List.length_map]
  clear hc hcl' hpm hfm hfm2 hi hil
  conv => whnf
  repeat' (first|((with_reducible refine Split.dec (fun _=>?_) (fun _=>?_))<;>conv=>whnf)|((with_reducible refine Need.mk ?_ ?_);(first|omega|rfl|decide|(refine ⟨?_,?_⟩<;>simp<;>omega)|(simp;omega));conv=>whnf)|(exfalso;first|omega|contradiction)|fail)
  refine LoopK.o3 (fun i : Nat => i ≤ y.pits.length) (fun i => [(63, .d (iD i))])
   (fun i => [(23, .var [.d (.sl 6 (y.pits.map ptD)), .d (.sl 3 (y.bulk.map bkD)), .d (.sl 3 (y.deps.map dpD)), .d (.sl 1 (y.carry.map iD)), .d (.sl 5 (l.map btD)), .own 200 1 ((volF y l).map iD).length, .own 202 1 (((y.pits.take i).map (roomS y)).map iD).length, .own 201 1 ((flow0 y l).map fun r => some (r.map iD)).length] false),
     (202, .row 3 1 (((y.pits.take i).map (roomS y)).map iD) false)]) (fun i => y.pits.length - i) 0 (by omega) (by refine ⟨?_, ?_, rfl⟩<;>(repeat' (first|exact True.intro|exact rfl|(refine ⟨?_,?_⟩)|(intro h;cases h;done)|(intro h;exact h)|fail));done) ?_
  rintro i hi
  dsimp only at hi ⊢
  have hrl : (((y.pits.take i).map (roomS y)).map iD).length = i := by rw [List.length_map, List.length_map, List.length_take]; omega
  by_cases hil : i < y.pits.length
  ·obtain ⟨p, hp⟩ := some_of_lt hil
   have hr := ev_room y (hyk.pit p (List.mem_of_getElem? hp)).1 hyk.vol (by omega)
   have hmp1 : ((y.pits.take i).map (roomS y)).map iD ++ iD (roomS y p) :: List.replicate 0 (D.int .i64 0) = ((y.pits.take (i + 1)).map (roomS y)).map iD := by rw [take_snoc hp]; simp
   have hsn := take_snoc hp
   conv => whnf
   repeat' (first|((refine PickE.map i hp (by omega) ?_);conv=>whnf)|((with_reducible refine Split.dec (fun _=>?_) (fun _=>?_))<;>conv=>whnf)|((with_reducible refine Need.mk ?_ ?_);(first|omega|rfl|decide|(refine ⟨?_,?_⟩<;>simp<;>omega)|(simp;omega));conv=>whnf)|((with_reducible refine Wr.inr ?_ ?_);(first|omega|(simp;omega));conv=>whnf)|((with_reducible refine AltK.l ?_);(conv=>whnf);(first|(refine CallK.mk _ (hr) ?_));conv=>whnf)|(exfalso;first|omega|contradiction)|fail)
   refine Again.av (i + 1) (by omega) (by omega) ?_
   exact (by refine ⟨?_, ?_, rfl⟩<;>(repeat' (first|exact True.intro|exact rfl|(refine ⟨?_,?_⟩)|(intro h;cases h;done)|(intro h;exact h)|exact hmp1|((first|refine own_congr ?_|refine int_congr ?_|skip);simp [hsn];done)|fail));done)
  ·have hie : i = y.pits.length := by omega
   subst hie
   rw [List.take_length]
   have hro : y.pits.map (roomS y) = roomF y := rfl
   rw [hro]
   conv => whnf
   repeat' (first|((with_reducible refine Split.dec (fun _=>?_) (fun _=>?_))<;>conv=>whnf)|((with_reducible refine Need.mk ?_ ?_);(first|omega|rfl|decide|(refine ⟨?_,?_⟩<;>simp<;>omega)|(simp;omega));conv=>whnf)|(exfalso;first|omega|contradiction)|fail)
   exact ⟨⟨[(9, some 23), (2009, some 200), (4009, some 202), (6009, some 201)], (by refine ⟨?_, ?_, rfl⟩<;>(repeat' (first|exact True.intro|exact rfl|(refine ⟨?_,?_⟩)|(intro h;cases h;done)|((first|refine own_congr ?_|refine int_congr ?_|skip);simp [hfl];done)|fail));done)⟩, rfl⟩
end Go.Proofs.Try
end

section
namespace Go.Proofs.Try
open Go Go.Vm
set_option maxRecDepth 20000
set_option maxHeartbeats 8000000
/-! DisposalBatches, DisposalPits, given awake. -/
structure SmB (y : Yd) : Prop where
 p : y.pits.length ≤ 12
 b : y.bulk.length ≤ 25
 c : y.carry.length ≤ 30
 d : y.deps.length ≤ 205
 cl : ∀ x ∈ y.pits, x.cls.length ≤ 12
theorem SmB.sp {y : Yd} (h : SmB y) : smallP y := fun p hp => Nat.le_trans (h.cl p hp) (by decide)
end Go.Proofs.Try
end

section
namespace Go.Proofs.Try
open Go Go.Vm
set_option maxRecDepth 20000
set_option maxHeartbeats 8000000
/-! Disposal: Reasons, Choose. -/
def bstS (y : Yd) (cls v : Int) : Nat → Int
 | 0 => -1
 | k + 1 => match y.pits[k]? with
  | none => bstS y cls v k
  | some p => if refS y p cls v = 0 ∧ (bstS y cls v k < 0 ∨ p.price < ((y.pits[(bstS y cls v k).toNat]?).map Pt.price).getD 0) then k else bstS y cls v k
theorem bst_at (y : Yd) (cls v : Int) : ∀ k, k ≤ y.pits.length → bstS y cls v k < 0 ∧ bstS y cls v k = -1 ∨ ∃ (j : Nat) (p : Pt), bstS y cls v k = j ∧ j < k ∧ y.pits[j]? = some p ∧ refS y p cls v = 0
 | 0, _ => .inl ⟨show (-1 : Int) < 0 by decide, rfl⟩
 | k + 1, h => by
  have ih := bst_at y cls v k (by omega)
  obtain ⟨p, hp⟩ := some_of_lt (show k < y.pits.length by omega)
  rw [bstS, hp]
  simp only
  split
  ·rename_i hc
   exact .inr ⟨k, p, rfl, by omega, hp, hc.1⟩
  ·rcases ih with ih | ⟨j, q, h1, h2, h3, h4⟩
   ·exact .inl ih
   ·exact .inr ⟨j, q, h1, by omega, h3, h4⟩
theorem bst_step {y : Yd} {cls v : Int} {k : Nat} {p : Pt} (hp : y.pits[k]? = some p) : bstS y cls v (k + 1) = if refS y p cls v = 0 ∧ (bstS y cls v k < 0 ∨ p.price < ((y.pits[(bstS y cls v k).toNat]?).map Pt.price).getD 0) then (k : Int) else bstS y cls v k := by
 rw [bstS, hp]
def nmAt (y : Yd) (n : Int) : ByteArray := ((y.pits[n.toNat]?).map Pt.name).getD ⟨#[]⟩
theorem ev_ChooseOk {y : Yd} {b : Bt} {k : Nat} {f : Bk} {c : Int} (hs : smallP y) (h0 : withErr y b = 0) (h : Wok y b k f c) :
 Ev Try.prog 28 [ydD y, btD b] (.tup [.str (if bstS y b.cls (volN b f c) y.pits.length < 0 then ⟨#[]⟩ else nmAt y (bstS y b.cls (volN b f c) y.pits.length)), iD (if bstS y b.cls (volN b f c) y.pits.length < 0 then 11 else 0)]) := by
 have hlp : (y.pits.map ptD).length = y.pits.length := List.length_map _
 have h1 := ev_DBulkedOk hs h0 h
 have hp8 := h.yok.pits
 have hd := h.yok.deps
 generalize volN b f c = v at *
 generalize carN b f c = cn at *
 refine ev_of_awp tysOk mixed (fn := Try.f28) Try.func28 rfl rfl rfl ?_
 conv => whnf
 repeat' (first|((with_reducible refine Split.is_false ?_ ?_);decide;conv=>whnf)|((with_reducible refine AltK.l ?_);(conv=>whnf);(first|(refine CallK.mk _ (h1) ?_));conv=>whnf)|fail)
 refine LoopK.o2 (fun i : Nat => i ≤ y.pits.length) (fun i => [(9, .d (iD (bstS y b.cls v i))), (25, .d (.int .i64 i))]) (fun _ => []) (fun i => y.pits.length - i) 0 (by simp) (by refine ⟨?_, ?_, rfl⟩<;>(repeat' (first|exact True.intro|exact rfl|(refine ⟨?_,?_⟩)|(intro h;cases h;done)|fail));done) ?_
 rintro i hi
 have hb := bst_at y b.cls v i hi
 by_cases hil : i < y.pits.length
 ·obtain ⟨p, hp⟩ := some_of_lt hil
  have hst := bst_step (cls := b.cls) (v := v) hp
  have hpm := List.mem_of_getElem? hp
  have hr := ev_refusal y b.cls v (h.yok.pit p hpm).1 h.yok.vol (by omega) (hs p hpm)
  generalize refS y p b.cls v = rv at *
  rcases hb with ⟨hb1, hb2⟩ | ⟨j, q, hj, hjk, hq, -⟩
  ·rw [hb2] at hst ⊢
   by_cases hz : rv = 0
   ·subst hz
    rw [if_pos ⟨rfl, .inl (by decide)⟩] at hst
    conv => whnf
    repeat' (first|((refine PickE.map i hp (by omega) ?_);conv=>whnf)|((with_reducible refine Split.of_true ?_);conv=>whnf)|((with_reducible refine Split.is_true ?_ ?_);decide;conv=>whnf)|((with_reducible refine Split.dec (fun _=>?_) (fun _=>?_))<;>conv=>whnf)|((with_reducible refine Need.mk ?_ ?_);(first|omega|rfl|decide|(refine ⟨?_,?_⟩<;>simp<;>omega)|(simp;omega));conv=>whnf)|((with_reducible refine Wr.inr ?_ ?_);(first|omega|(simp;omega));conv=>whnf)|((with_reducible refine AltK.l ?_);(conv=>whnf);(first|(refine CallK.mk _ (hr) ?_));conv=>whnf)|(exfalso;first|omega|contradiction)|fail)
    refine Again.au (i + 1) (by omega) (by omega) ?_
    rw [hst]
    exact (by refine ⟨?_, ?_, rfl⟩<;>(repeat' (first|exact True.intro|exact rfl|(refine ⟨?_,?_⟩)|(intro h;cases h;done)|fail));done)
   ·rw [if_neg (fun h => hz h.1)] at hst
    conv => whnf
    repeat' (first|((refine PickE.map i hp (by omega) ?_);conv=>whnf)|((with_reducible first|refine Split.of_true ?_|refine Split.of_false ?_);conv=>whnf)|((with_reducible refine Split.is_true ?_ ?_);decide;conv=>whnf)|((with_reducible refine Split.eqz (fun _=>?_) (fun _=>?_))<;>conv=>whnf)|((with_reducible refine Split.dec (fun _=>?_) (fun _=>?_))<;>conv=>whnf)|((with_reducible refine Need.mk ?_ ?_);(first|omega|rfl|decide|(refine ⟨?_,?_⟩<;>simp<;>omega)|(simp;omega));conv=>whnf)|((with_reducible refine Wr.inr ?_ ?_);(first|omega|(simp;omega));conv=>whnf)|((with_reducible refine AltK.l ?_);(conv=>whnf);(first|(refine CallK.mk _ (hr) ?_));conv=>whnf)|(exfalso;first|omega|contradiction)|fail)
    refine Again.au (i + 1) (by omega) (by omega) ?_
    rw [hst]
    exact (by refine ⟨?_, ?_, rfl⟩<;>(repeat' (first|exact True.intro|exact rfl|(refine ⟨?_,?_⟩)|(intro h;cases h;done)|fail));done)
  ·rw [hj, Int.toNat_natCast, hq] at hst
   rw [hj]
   simp only [Option.map_some, Option.getD_some] at hst
   by_cases hz : rv = 0
   ·subst hz
    by_cases hpr : p.price < q.price
    ·rw [if_pos ⟨rfl, .inr hpr⟩] at hst
     conv => whnf
     repeat' (first|((refine PickE.map j hq (by omega) ?_);conv=>whnf)|((refine PickE.map i hp (by omega) ?_);conv=>whnf)|((with_reducible refine Split.of_true ?_);conv=>whnf)|((with_reducible refine Split.is_true ?_ ?_);decide;conv=>whnf)|((with_reducible refine Split.dec (fun _=>?_) (fun _=>?_))<;>conv=>whnf)|((with_reducible refine Need.mk ?_ ?_);(first|omega|rfl|decide|(refine ⟨?_,?_⟩<;>simp<;>omega)|(simp;omega));conv=>whnf)|((with_reducible refine Wr.inr ?_ ?_);(first|omega|(simp;omega));conv=>whnf)|((with_reducible refine AltK.l ?_);(conv=>whnf);(first|(refine CallK.mk _ (hr) ?_));conv=>whnf)|(exfalso;first|omega|contradiction)|fail)
     all_goals first
      |(refine Again.au (i + 1) (by omega) (by omega) ?_
        rw [hst]
        exact (by refine ⟨?_, ?_, rfl⟩<;>(repeat' (first|exact True.intro|exact rfl|(refine ⟨?_,?_⟩)|(intro h;cases h;done)|fail));done))
      |(exfalso; omega)
    ·rw [if_neg (by rintro ⟨-, h | h⟩ <;> omega)] at hst
     conv => whnf
     repeat' (first|((refine PickE.map j hq (by omega) ?_);conv=>whnf)|((refine PickE.map i hp (by omega) ?_);conv=>whnf)|((with_reducible refine Split.of_true ?_);conv=>whnf)|((with_reducible refine Split.is_true ?_ ?_);decide;conv=>whnf)|((with_reducible refine Split.dec (fun _=>?_) (fun _=>?_))<;>conv=>whnf)|((with_reducible refine Need.mk ?_ ?_);(first|omega|rfl|decide|(refine ⟨?_,?_⟩<;>simp<;>omega)|(simp;omega));conv=>whnf)|((with_reducible refine Wr.inr ?_ ?_);(first|omega|(simp;omega));conv=>whnf)|((with_reducible refine AltK.l ?_);(conv=>whnf);(first|(refine CallK.mk _ (hr) ?_));conv=>whnf)|(exfalso;first|omega|contradiction)|fail)
     all_goals first
      |(refine Again.au (i + 1) (by omega) (by omega) ?_
        rw [hst]
        exact (by refine ⟨?_, ?_, rfl⟩<;>(repeat' (first|exact True.intro|exact rfl|(refine ⟨?_,?_⟩)|(intro h;cases h;done)|fail));done))
      |(exfalso; omega)
   ·rw [if_neg (fun h => hz h.1)] at hst
    conv => whnf
    repeat' (first|((refine PickE.map i hp (by omega) ?_);conv=>whnf)|((with_reducible first|refine Split.of_true ?_|refine Split.of_false ?_);conv=>whnf)|((with_reducible refine Split.eqz (fun _=>?_) (fun _=>?_))<;>conv=>whnf)|((with_reducible refine Split.dec (fun _=>?_) (fun _=>?_))<;>conv=>whnf)|((with_reducible refine Need.mk ?_ ?_);(first|omega|rfl|decide|(refine ⟨?_,?_⟩<;>simp<;>omega)|(simp;omega));conv=>whnf)|((with_reducible refine Wr.inr ?_ ?_);(first|omega|(simp;omega));conv=>whnf)|((with_reducible refine AltK.l ?_);(conv=>whnf);(first|(refine CallK.mk _ (hr) ?_));conv=>whnf)|(exfalso;first|omega|contradiction)|fail)
    refine Again.au (i + 1) (by omega) (by omega) ?_
    rw [hst]
    exact (by refine ⟨?_, ?_, rfl⟩<;>(repeat' (first|exact True.intro|exact rfl|(refine ⟨?_,?_⟩)|(intro h;cases h;done)|fail));done)
 ·have e : i = y.pits.length := by omega
  rw [← e]
  rcases hb with ⟨hb1, hb2⟩ | ⟨j, q, hj, hjk, hq, -⟩
  ·rw [hb2]
   conv => whnf
   repeat' (first|((with_reducible refine Split.is_true ?_ ?_);decide;conv=>whnf)|((with_reducible refine Split.dec (fun _=>?_) (fun _=>?_))<;>conv=>whnf)|((with_reducible refine Need.mk ?_ ?_);(first|omega|rfl|decide|(refine ⟨?_,?_⟩<;>simp<;>omega)|(simp;omega));conv=>whnf)|(exfalso;first|omega|contradiction)|fail)
   rfl
  ·rw [hj, if_neg (by omega), if_neg (by omega), nmAt, Int.toNat_natCast, hq]
   conv => whnf
   repeat' (first|((refine PickE.map j hq (by omega) ?_);conv=>whnf)|((with_reducible refine Split.dec (fun _=>?_) (fun _=>?_))<;>conv=>whnf)|((with_reducible refine Need.mk ?_ ?_);(first|omega|rfl|decide|(refine ⟨?_,?_⟩<;>simp<;>omega)|(simp;omega));conv=>whnf)|(exfalso;first|omega|contradiction)|fail)
   all_goals first
    | rfl
    |(exfalso; omega)
end Go.Proofs.Try
end

section
namespace Go.Proofs.Try
open Go Go.Vm
set_option maxRecDepth 20000
/-! The flow, in plain Lean: cells, what is left, what is free. -/
structure Dim (P L : Nat) (fl : List (List Int)) : Prop where
 len : fl.length = L
 row : ∀ r ∈ fl, r.length = P
theorem Dim.add {P L : Nat} {fl : List (List Int)} (h : Dim P L fl) (b p : Nat) (a : Int) : Dim P L (addF fl b p a) := ⟨addF_len.trans h.len, addF_row h.row⟩
inductive Way (acc : Nat → Nat → Bool) (P L : Nat) (vol : List Int) (fl : List (List Int)) : Nat → List (Nat × Nat × Int) → Prop
 | base {b p : Nat} (hb : b < L) (hp : p < P) (ha : acc p b = true) (hl : 0 < leftF vol fl b) : Way acc P L vol fl p [(b, p, -1)]
 | step {b p q : Nat} {st : List (Nat × Nat × Int)} (hb : b < L) (hp : p < P) (ha : acc p b = true) (hq : q < P) (hc : 0 < cellZ fl b q) (h : Way acc P L vol fl q st)
  (h1 : b ∉ st.map (·.1)) (h2 : p ∉ st.map (·.2.1)) : Way acc P L vol fl p ((b, p, (q : Int)) :: st)
theorem Way.change {acc : Nat → Nat → Bool} {P L : Nat} {vol : List Int} {fl fl' : List (List Int)} {p : Nat} {st : List (Nat × Nat × Int)} (h : Way acc P L vol fl p st)
 (hc : ∀ x ∈ st, ∀ q, cellZ fl' x.1 q = cellZ fl x.1 q) (hl : ∀ x ∈ st, leftF vol fl' x.1 = leftF vol fl x.1) : Way acc P L vol fl' p st := by
 induction h with
 | base hb hp ha hl' =>
  refine .base hb hp ha ?_
  have := hl (_, _, _) List.mem_cons_self
  simp only at this
  rw [this]; exact hl'
 | step hb hp ha hq hcc h h1 h2 ih =>
  refine .step hb hp ha hq ?_ (ih (fun x hx => hc x (List.mem_cons_of_mem _ hx)) (fun x hx => hl x (List.mem_cons_of_mem _ hx))) h1 h2
  have := hc (_, _, _) List.mem_cons_self
  simp only at this
  rw [this]; exact hcc
theorem Way.ne {acc : Nat → Nat → Bool} {P L : Nat} {vol : List Int} {fl : List (List Int)} {p : Nat} {st : List (Nat × Nat × Int)} (h : Way acc P L vol fl p st) : st ≠ [] := by cases h <;> simp
end Go.Proofs.Try
end

section
namespace Go.Proofs.Try
open Go Go.Vm
set_option maxRecDepth 20000
/-! The flow, in plain Lean: what is reached. -/
def InW (s : Rs) (st : List (Nat × Nat × Int)) : Prop := ∀ x ∈ st, hasN s.ps x.2.1 = true ∧ getZ s.ps x.2.1 = x.1 ∧ hasN s.bs x.1 = true ∧ getZ s.bs x.1 = x.2.2
structure St9 (s s' : Rs) : Prop where
 ep : ∀ k, hasN s.ps k = true → hasN s'.ps k = true ∧ getZ s'.ps k = getZ s.ps k
 eb : ∀ k, hasN s.bs k = true → hasN s'.bs k = true ∧ getZ s'.bs k = getZ s.bs k
 q : ∃ t, s'.q = s.q ++ t ∧ ∀ b, hasN s'.bs b = true → hasN s.bs b = true ∨ b ∈ t
 cnt : s'.bs.length + s.q.length = s.bs.length + s'.q.length
theorem St9.rfl' {s : Rs} : St9 s s := ⟨fun _ h => ⟨h, rfl⟩, fun _ h => ⟨h, rfl⟩, ⟨[], by simp, fun _ h => .inl h⟩, rfl⟩
theorem St9.trans {s s' s'' : Rs} (h : St9 s s') (h' : St9 s' s'') : St9 s s'' := by
 refine ⟨fun k hk => ?_, fun k hk => ?_, ?_, ?_⟩
 ·obtain ⟨a1, a2⟩ := h.ep k hk
  obtain ⟨b1, b2⟩ := h'.ep k a1
  exact ⟨b1, b2.trans a2⟩
 ·obtain ⟨a1, a2⟩ := h.eb k hk
  obtain ⟨b1, b2⟩ := h'.eb k a1
  exact ⟨b1, b2.trans a2⟩
 ·obtain ⟨t, h1, h2⟩ := h.q
  obtain ⟨t', h1', h2'⟩ := h'.q
  refine ⟨t ++ t', by rw [h1', h1, List.append_assoc], fun b hb => ?_⟩
  rcases h2' b hb with hb | hb
  ·rcases h2 b hb with hb | hb
   ·exact .inl hb
   ·exact .inr (List.mem_append_left _ hb)
  ·exact .inr (List.mem_append_right _ hb)
 ·have := h.cnt; have := h'.cnt; omega
theorem InW.ext {s s' : Rs} {st : List (Nat × Nat × Int)} (h : InW s st) (he : St9 s s') : InW s' st := fun x hx => by
 obtain ⟨a, b, c, d⟩ := h x hx
 obtain ⟨a1, a2⟩ := he.ep _ a
 obtain ⟨c1, c2⟩ := he.eb _ c
 exact ⟨a1, a2.trans b, c1, c2.trans d⟩
structure RsI (acc : Nat → Nat → Bool) (P L : Nat) (vol : List Int) (fl : List (List Int)) (s : Rs) : Prop where
 bn : (s.bs.map (·.1)).Nodup
 bl : ∀ e ∈ s.bs, e.1 < L
 pl : ∀ p, hasN s.ps p = true → p < P
 pw : ∀ p, hasN s.ps p = true → ∃ st, Way acc P L vol fl p st ∧ InW s st
 bw : ∀ b, hasN s.bs b = true → (getZ s.bs b = -1 ∧ 0 < leftF vol fl b) ∨ ∃ (q : Nat) (st : List (Nat × Nat × Int)), getZ s.bs b = (q : Int) ∧ 0 < cellZ fl b q ∧ q < P ∧ Way acc P L vol fl q st ∧ InW s st ∧ b ∉ st.map (·.1)
 qb : ∀ b ∈ s.q, hasN s.bs b = true
 start : ∀ b, b < L → 0 < leftF vol fl b → hasN s.bs b = true
section
variable {acc : Nat → Nat → Bool} {P L : Nat} {vol : List Int} {fl : List (List Int)}
theorem nodup_le : ∀ {L : Nat} {l : List Nat}, l.Nodup → (∀ x ∈ l, x < L) → l.length ≤ L
 | 0, l, _, h => by
  cases l with
  | nil => simp
  | cons a r => exact absurd (h a List.mem_cons_self) (by omega)
 | L + 1, l, hn, h => by
  have h1 := nodup_le (L := L) (l := l.filter (· != L)) (hn.sublist List.filter_sublist) (fun x hx => by
   rw [List.mem_filter] at hx
   have := h x hx.1
   have h2 : x ≠ L := by simpa using hx.2
   omega)
  have h2 : l.length ≤ (l.filter (· != L)).length + 1 := by
   clear h h1
   induction l with
   | nil => simp
   | cons a r ih =>
    rw [List.nodup_cons] at hn
    by_cases e : a = L
    ·subst e
     have : r.filter (· != a) = r := by
      rw [List.filter_eq_self]
      intro x hx
      have : x ≠ a := fun e => hn.1 (e ▸ hx)
      simpa using this
     simp [this]
    ·have := ih hn.2
     simp [e]; omega
  omega
theorem RsI.len {s : Rs} (h : RsI acc P L vol fl s) : s.bs.length ≤ L := by
 have := nodup_le h.bn (L := L) fun x hx => by
  obtain ⟨e, he, rfl⟩ := List.mem_map.1 hx
  exact h.bl e he
 rwa [List.length_map] at this
end
end Go.Proofs.Try
end

section
namespace Go.Proofs.Try
open Go Go.Vm
set_option maxRecDepth 20000
/-! The flow, in plain Lean: one push; a pit that is filled; all pits. -/
section
variable {acc : Nat → Nat → Bool} {P L : Nat} {vol room : List Int} {fl : List (List Int)}
theorem Way.len {p : Nat} {st : List (Nat × Nat × Int)} (h : Way acc P L vol fl p st) : st.length ≤ P ∧ (st.map (·.2.1)).Nodup ∧ ∀ x ∈ st, x.2.1 < P := by
 have key : (st.map (·.2.1)).Nodup ∧ ∀ x ∈ st, x.2.1 < P := by
  induction h with
  | base hb hp => exact ⟨by simp, fun x hx => by rw [List.mem_singleton.1 hx]; exact hp⟩
  | step hb hp ha hq hc h h1 h2 ih =>
   refine ⟨List.nodup_cons.2 ⟨h2, ih.1⟩, fun x hx => ?_⟩
   rcases List.mem_cons.1 hx with rfl | hx
   ·exact hp
   ·exact ih.2 x hx
 have := nodup_le key.1 (L := P) fun x hx => by
  obtain ⟨y, hy, rfl⟩ := List.mem_map.1 hx
  exact key.2 y hy
 rw [List.length_map] at this
 exact ⟨this, key⟩
theorem Way.pit {p : Nat} {st : List (Nat × Nat × Int)} (h : Way acc P L vol fl p st) : p < P := by cases h <;> assumption
inductive Rch (acc : Nat → Nat → Bool) (P L : Nat) (fl : List (List Int)) : Nat → Nat → Prop
 | refl (p : Nat) : Rch acc P L fl p p
 | step {b p p' q : Nat} (hb : b < L) (hc : 0 < cellZ fl b p) (hp : p' < P) (ha : acc p' b = true) (h : Rch acc P L fl p' q) : Rch acc P L fl p q
def Keep (acc : Nat → Nat → Bool) (P L : Nat) (vol : List Int) (fl fl' : List (List Int)) : Prop := ∀ q, (¬ ∃ st, Way acc P L vol fl q st) → (¬ ∃ st, Way acc P L vol fl' q st) ∧ ∀ p, Rch acc P L fl' p q → Rch acc P L fl p q
theorem Keep.rfl' : Keep acc P L vol fl fl := fun _ h => ⟨h, fun _ h => h⟩
theorem Keep.trans {f1 f2 f3 : List (List Int)} (h : Keep acc P L vol f1 f2) (h' : Keep acc P L vol f2 f3) : Keep acc P L vol f1 f3 := fun q hq => by
 obtain ⟨a, b⟩ := h q hq
 obtain ⟨c, d⟩ := h' q a
 exact ⟨c, fun p hp => b p (d p hp)⟩
end
end Go.Proofs.Try
end

section
namespace Go.Proofs.Try
open Go Go.Vm
set_option maxRecDepth 20000
set_option maxHeartbeats 8000000
/-! Cheapest. -/
def tkL (y : Yd) (l : List Bt) (vol room : List Int) (fl : List (List Int)) : List (Nat × Bx) :=
 [(1003, .mat 25 3 0 (fl.map fun r => some (r.map iD))), (1002, .row 3 1 (room.map iD) false), (1001, .row 3 1 (vol.map iD) false),
  (1000, .var [.d (.sl 6 (y.pits.map ptD)), .d (.sl 3 (y.bulk.map bkD)), .d (.sl 3 (y.deps.map dpD)), .d (.sl 1 (y.carry.map iD)), .d (.sl 5 (l.map btD)), .own 1001 1 (vol.map iD).length, .own 1002 1 (room.map iD).length, .own 1003 1 l.length] false)]
theorem tkX_eq {y : Yd} {l : List Bt} {vol room : List Int} {fl : List (List Int)} (h : fl.length = l.length) : tkX y l vol room fl = tkL y l vol room fl := by
 unfold tkX tkL
 rw [h]
structure Frt where
 xs : List Al
 cost : Int
 tf : Tf
def frD (f : Frt) : D := .agg [.sl 3 (f.xs.map alD), iD f.cost, .sl 1 (f.tf.bs.map iD), .sl 1 (f.tf.ps.map iD)]
theorem roomS_bd {y : Yd} (h : YdOk y) {p : Pt} (hp : p ∈ y.pits) : 0 ≤ roomS y p ∧ roomS y p ≤ 40000000000000 := by
 have h1 := h.room p hp
 have h2 := cap_bd (h.pit p hp).1
 have h3 := takS_bd p.name y.deps h.vol
 unfold roomS at h1 ⊢
 omega
theorem volsGo_spec {y : Yd} : ∀ {l : List Bt} {c : List Int}, (∀ b ∈ l, ∃ k f z, Wok y b k f z) → CarOk y c → (volsGo y c l).length = l.length ∧ ∀ v ∈ volsGo y c l, 0 ≤ v ∧ v ≤ 10000000000001000
 | [], _, _, _ => ⟨rfl, by simp [volsGo]⟩
 | b :: r, c, h, hc => by
  obtain ⟨k, f, z0, hW⟩ := h b (by simp)
  obtain ⟨z, hz⟩ := some_of_lt (show k < c.length by rw [hc.len]; exact lt_of_some hW.fat)
  have hzb := hc.at_ k f z hW.fat hz
  have hden := hW.fo.den
  have ek : (facI y b.soil).toNat = k := by rw [hW.ixk]; rfl
  have ef : bkAt y k = f := by rw [bkAt, List.getD, hW.fat]; rfl
  have ec : c.getD k 0 = z := by rw [List.getD, hz]; rfl
  have hcar := carN_bd (b := b) (f := f) (c := z) hW.bok hW.fo hzb
  obtain ⟨i1, i2⟩ := volsGo_spec (l := r) (c := c.set k (carN b f z)) (fun x hx => h x (List.mem_cons_of_mem _ hx)) (hc.set hW.fat hcar)
  rw [volsGo, ek, ef, ec]
  refine ⟨by rw [List.length_cons, i1, List.length_cons], fun v hv => ?_⟩
  rcases List.mem_cons.1 hv with rfl | hv
  ·obtain ⟨m1, m2⟩ := bulkN_bd hW.bok hW.fo (c := z) (by omega)
   have d1 := Int.ediv_nonneg (a := (b.bed - b.over) * f.num + z) (b := f.den) (by omega) (by omega)
   have d2 := Int.ediv_le_self (a := (b.bed - b.over) * f.num + z) f.den (by omega)
   unfold volN
   omega
  ·exact i2 v hv
theorem tk_ok {y : Yd} {l : List Bt} (hs : smallP y) (h : LsOk y l) : TkOk y l (volF y l) (roomF y) (flow0 y l) := by
 have hy := yd_ok h.yd
 obtain ⟨v1, v2⟩ := volsGo_spec h.wok ⟨hy.carL, hy.car⟩
 refine ⟨hy.pits, h.len, v1, by rw [roomF, List.length_map], by rw [flow0, List.length_map], fun r hr => ?_, fun v hv => ?_, fun v hv => ?_, ?_, hs⟩
 ·obtain ⟨b, -, rfl⟩ := List.mem_map.1 hr
  exact List.length_replicate ..
 ·have := v2 v hv; omega
 ·obtain ⟨p, hp, rfl⟩ := List.mem_map.1 hv
  have := roomS_bd hy hp; omega
 ·rw [okFl, List.all_eq_true]
  intro r hr
  obtain ⟨b, -, rfl⟩ := List.mem_map.1 hr
  rw [List.all_eq_true]
  intro x hx
  rw [(List.mem_replicate.1 hx).2]; rfl
theorem pt_price {y : Yd} (h : YdOk y) : ∀ p ∈ y.pits, 0 ≤ p.price ∧ p.price ≤ 10000 := fun p hp => (h.pit p hp).1.price
theorem ev_CheapestOk {y : Yd} {l : List Bt} (hs : smallP y) (h0 : lstE y l = 0) {n k m : Nat} {fl : List (List Int)} (hn : n ≤ 1000)
 (hf : fillsF (accF y l) y.pits.length l.length n k (volF y l) (roomF y) (sortGo (priceF y) [] (List.range y.pits.length)) (flow0 y l) = some fl) (hd : doneF l.length (volF y l) fl = true)
 {t : Tf} (ht : tfGo (accF y l) (priceF y) fl y.pits.length l.length m (tfS y.pits.length l.length (roomF y) fl) = some t)
 (hx : ∀ a ∈ allF y l fl l.length, 0 ≤ pitI y a.pit ∧ 0 ≤ a.vol ∧ a.vol ≤ 100000000000000000) (hc : costF y (allF y l fl l.length) ≤ 9000000000000000000) :
 Ev Try.prog 49 [ydD y, .sl 5 (l.map btD)] (.tup [frD ⟨allF y l fl l.length, costF y (allF y l fl l.length), t⟩, iD 0]) := by
 have hO := ls_ok h0
 have hy := yd_ok hO.yd
 have hT := tk_ok hs hO
 have hSm : ∀ z ∈ sortGo (priceF y) [] (List.range y.pits.length), z < y.pits.length := fun z hz => by
  rcases sortGo_mem.1 hz with h | h
  ·simp at h
  ·exact List.mem_range.1 h
 have hT2 := fills_ok hn hSm hT hf
 have hAl := allF_len (l := l) (fl := fl) hy.pits l.length
 have hlen := hO.len
 have hB := (xv_begin hs (by omega) h0).rn [(9, 12), (2009, 2012), (4009, 4012), (6009, 6012)] rfl
 have hS := xv_solve hT hn hf
 rw [tkX_eq hT.hf, tkX_eq hT2.hf, hd] at hS
 have hA := xv_allots hT2
 have hP := xv_price hT2 (allF y l fl l.length) (by omega) hx (pt_price hy) hc
 have hF := xv_tariff hT2 (pt_price hy) ht
 rw [tkX_eq hT2.hf] at hA hP hF
 unfold tkL at hS hA hP hF
 generalize allF y l fl l.length = xs at *
 generalize costF y xs = cst at *
 have hS := hS.rn [(1000, 12), (1001, 2012), (1002, 4012), (1003, 6012)] rfl
 have hA := hA.rn [(1000, 12), (1001, 2012), (1002, 4012), (1003, 6012), (9, 24)] rfl
 have hP := hP.rn [(1000, 12), (1001, 2012), (1002, 4012), (1003, 6012), (1004, 24)] rfl
 have hF := hF.rn [(1000, 12), (1001, 2012), (1002, 4012), (1003, 6012)] rfl
 refine ev_of_awp tysOk mixed (fn := Try.f49) Try.func49 rfl rfl rfl ?_
 conv => whnf
 repeat' (first|((with_reducible refine Split.of_true ?_);conv=>whnf)|(with_reducible refine Split.neg ?_)|((with_reducible refine Split.is_false ?_ ?_);decide;conv=>whnf)|((with_reducible refine Need.mk ?_ ?_);(first|omega|rfl|decide|(refine ⟨?_,?_⟩<;>simp<;>omega)|(simp;omega));conv=>whnf)|((with_reducible refine AltK.r ?_);(conv=>whnf);(first|(refine CallX.mk _ _ (hB) rfl ?_)|(refine CallX.mk _ _ (hS) rfl ?_)|(refine CallX.mk _ _ (hA) rfl ?_)|(refine CallX.mk _ _ (hP) rfl ?_)|(refine CallX.mk _ _ (hF) rfl ?_));conv=>whnf)|fail)
 all_goals first
  | rfl
  |(exfalso; omega)

end Go.Proofs.Try
end

section
namespace Go.Proofs.Try
open Go Go.Vm
set_option maxRecDepth 20000
/-! Assignments, in plain Lean: what the check and the reference compute. The batch of a number is 'ib', the pit of a name 'ip'. -/
section
variable {acc : Nat → Nat → Bool} {P L : Nat} {vol room : List Int} {ib : Int → Int} {ip : ByteArray → Int}
def sumA (q : Al → Bool) (x : List Al) : Int := (x.map fun a => if q a = true then a.vol else 0).sum
theorem sumA_cons {q : Al → Bool} {a : Al} {r : List Al} : sumA q (a :: r) = (if q a = true then a.vol else 0) + sumA q r := by simp [sumA]
structure Vld (acc : Nat → Nat → Bool) (ib : Int → Int) (ip : ByteArray → Int) (a : Al) : Prop where
 b : 0 ≤ ib a.n
 p : 0 ≤ ip a.pit
 v : 0 < a.vol
 ac : acc (ip a.pit).toNat (ib a.n).toNat = true
structure Chr (acc : Nat → Nat → Bool) (ib : Int → Int) (ip : ByteArray → Int) (P L : Nat) (vl rm : Nat → Int) (seen : List (Int × Int)) (x : List Al) : Prop where
 ok : ∀ a ∈ x, Vld acc ib ip a
 nd : (x.map fun a => (ib a.n, ip a.pit)).Nodup
 ns : ∀ a ∈ x, (ib a.n, ip a.pit) ∉ seen
 sb : ∀ b, b < L → sumA (fun a => ib a.n == (b : Int)) x = vl b
 sp : ∀ p, p < P → sumA (fun a => ip a.pit == (p : Int)) x ≤ rm p
theorem Chr.cons {vl rm : Nat → Int} {seen : List (Int × Int)} {a : Al} {r : List Al} (hib : ib a.n < L) (hip : ip a.pit < P) (hv : Vld acc ib ip a) (hns : (ib a.n, ip a.pit) ∉ seen)
 {vl' rm' : Nat → Int} (e1 : ∀ b, b < L → vl' b = vl b - if (ib a.n == (b : Int)) = true then a.vol else 0) (e2 : ∀ p, p < P → rm' p = rm p - if (ip a.pit == (p : Int)) = true then a.vol else 0) :
 Chr acc ib ip P L vl rm seen (a :: r) ↔ Chr acc ib ip P L vl' rm' (seen ++ [(ib a.n, ip a.pit)]) r := by
 constructor
 ·intro h
  have hnd := h.nd
  rw [List.map_cons, List.nodup_cons] at hnd
  refine ⟨fun c hc => h.ok c (List.mem_cons_of_mem _ hc), hnd.2, fun c hc hm => ?_, fun b hb => ?_, fun p hp => ?_⟩
  ·rcases List.mem_append.1 hm with hm | hm
   ·exact h.ns c (List.mem_cons_of_mem _ hc) hm
   ·exact hnd.1 (List.mem_map.2 ⟨c, hc, List.mem_singleton.1 hm⟩)
  ·have := h.sb b hb
   rw [sumA_cons] at this
   rw [e1 b hb]; omega
  ·have := h.sp p hp
   rw [sumA_cons] at this
   rw [e2 p hp]; omega
 ·intro h
  refine ⟨fun c hc => ?_, ?_, fun c hc hm => ?_, fun b hb => ?_, fun p hp => ?_⟩
  ·rcases List.mem_cons.1 hc with rfl | hc
   ·exact hv
   ·exact h.ok c hc
  ·rw [List.map_cons, List.nodup_cons]
   refine ⟨fun hm => ?_, h.nd⟩
   obtain ⟨c, hc, he⟩ := List.mem_map.1 hm
   exact h.ns c hc (List.mem_append.2 (.inr (List.mem_singleton.2 he)))
  ·rcases List.mem_cons.1 hc with rfl | hc
   ·exact hns hm
   ·exact h.ns c hc (List.mem_append.2 (.inl hm))
  ·have := h.sb b hb
   rw [e1 b hb] at this
   rw [sumA_cons]; omega
  ·have := h.sp p hp
   rw [e2 p hp] at this
   rw [sumA_cons]; omega
end
end Go.Proofs.Try
end

section
namespace Go.Proofs.Try
open Go Go.Vm
set_option maxRecDepth 20000
/-! The tariff, in plain terms. -/
section
variable {acc : Nat → Nat → Bool} {P L : Nat} {vol room : List Int} {pr : Nat → Int}
variable {fl : List (List Int)}
def TB (acc : Nat → Nat → Bool) (P L : Nat) (room : List Int) (pr : Nat → Int) (fl : List (List Int)) (b : Nat) (x : Int) : Prop := x = 10000 ∨ ∃ p q, p < P ∧ q < P ∧ acc p b = true ∧ Rch acc P L fl p q ∧ ((0 < freeF room fl q ∧ x = pr q) ∨ x = 10000 + pr q)
def TP (acc : Nat → Nat → Bool) (P L : Nat) (room : List Int) (pr : Nat → Int) (fl : List (List Int)) (p : Nat) (x : Int) : Prop := x = 10000 - pr p ∨ ∃ q, q < P ∧ Rch acc P L fl p q ∧ ((0 < freeF room fl q ∧ x = pr q - pr p) ∨ x = 10000 + pr q - pr p)
structure TfI (acc : Nat → Nat → Bool) (P L : Nat) (room : List Int) (pr : Nat → Int) (fl : List (List Int)) (s : Tf) : Prop where
 bl : s.bs.length = L
 pl : s.ps.length = P
 b : ∀ b, b < L → TB acc P L room pr fl b (s.bs.getD b 0) ∧ s.bs.getD b 0 ≤ 10000
 p : ∀ p, p < P → TP acc P L room pr fl p (s.ps.getD p 0) ∧ s.ps.getD p 0 ≤ 10000
 f : ∀ p, p < P → 0 < freeF room fl p → s.ps.getD p 0 ≤ 0
def TR (s s' : Tf) : Prop := s' = s ∨ (s'.again = true ∧ s'.bs.sum + s'.ps.sum < s.bs.sum + s.ps.sum)
theorem TR.trans {s s' s'' : Tf} (h : TR s s') (h' : TR s' s'') : TR s s'' := by
 rcases h with rfl | ⟨a, b⟩
 ·exact h'
 ·rcases h' with rfl | ⟨c, d⟩
  ·exact .inr ⟨a, b⟩
  ·exact .inr ⟨c, by omega⟩
theorem TR.back {s s' : Tf} (h : TR s s') (ha : s'.again = false) : s' = s := by
 rcases h with h | ⟨h, -⟩
 ·exact h
 ·rw [ha] at h; cases h
theorem getD_mem {l : List Int} {Q : Int → Prop} {n : Nat} (hl : l.length = n) (h : ∀ i, i < n → Q (l.getD i 0)) : ∀ x ∈ l, Q x := by
 intro x hx
 obtain ⟨i, hi⟩ := List.getElem?_of_mem hx
 have := h i (by rw [← hl]; exact lt_of_some hi)
 rwa [List.getD_eq_getElem?_getD, hi] at this
theorem TfI.nn {s : Tf} (h : TfI acc P L room pr fl s) (hpr : ∀ p, 0 ≤ pr p ∧ pr p ≤ 10000) (hG : ∀ p q, p < P → q < P → 0 < freeF room fl q → Rch acc P L fl p q → pr p ≤ pr q) :
 (∀ x ∈ s.bs, 0 ≤ x ∧ x ≤ 10000) ∧ ∀ x ∈ s.ps, 0 ≤ x ∧ x ≤ 10000 := by
 refine ⟨getD_mem h.bl fun b hb => ?_, getD_mem h.pl fun p hp => ?_⟩
 ·obtain ⟨h1, h2⟩ := h.b b hb
  refine ⟨?_, h2⟩
  rcases h1 with e | ⟨p, q, -, -, -, -, ⟨-, e⟩ | e⟩
  ·rw [e]; decide
  ·rw [e]; exact (hpr q).1
  ·rw [e]; have := (hpr q).1; omega
 ·obtain ⟨h1, h2⟩ := h.p p hp
  refine ⟨?_, h2⟩
  have h3 := hpr p
  rcases h1 with e | ⟨q, hq, hr, ⟨hf, e⟩ | e⟩
  ·rw [e]; omega
  ·rw [e]; have := hG p q hp hq hf hr; omega
  ·rw [e]; have := (hpr q).1; omega
end
end Go.Proofs.Try
end

section
namespace Go.Proofs.Try
open Go Go.Vm
set_option maxRecDepth 20000
/-! The order of the pits; the tariff of a yard. -/
def leP (pr : Nat → Int) (p q : Nat) : Prop := pr p < pr q ∨ (pr p = pr q ∧ p < q)
theorem leP.trans {pr : Nat → Int} {a b c : Nat} (h : leP pr a b) (h' : leP pr b c) : leP pr a c := by
 unfold leP at *; omega
end Go.Proofs.Try
end

section
namespace Go.Proofs.Try
open Go Go.Vm
set_option maxRecDepth 20000
set_option maxHeartbeats 8000000
/-! Disposal: the examples of the chapter hold. -/
def nClean : ByteArray := ⟨#[67, 108, 101, 97, 110]⟩
def nDeep : ByteArray := ⟨#[68, 101, 101, 112]⟩
def nSand : ByteArray := ⟨#[115, 97, 110, 100]⟩
def nSilt : ByteArray := ⟨#[115, 105, 108, 116]⟩
def exY : Yd := ⟨[⟨nClean, 10000, -500, -400, [0], 300⟩, ⟨nDeep, 10000, -900, -700, [0, 1], 500⟩], [⟨nSand, 5, 4⟩, ⟨nSilt, 3, 2⟩], [], [0, 0]⟩
def exB0 : Bt := ⟨1, 400001, 0, nSand, 0⟩
def exB1 : Bt := ⟨2, 400001, 0, nSand, 0⟩
def exB2 : Bt := ⟨3, 800000, 0, nSilt, 1⟩
def exL : List Bt := [exB0, exB1, exB2]
def exK : Bk := ⟨nSand, 5, 4⟩
def exY1 : Yd := plY exY exB0 nClean 0 exK 0
theorem ev_yard9 : Ev Try.prog 51 [] (ydD exY) := by
 refine ev_of_awp tysOk mixed (fn := Try.f51) Try.func51 rfl rfl rfl ?_
 conv => whnf
 repeat' (first|((with_reducible refine Need.mk ?_ ?_);(first|omega|rfl|decide|(refine ⟨?_,?_⟩<;>simp<;>omega)|(simp;omega));conv=>whnf)|fail)
 rfl
theorem ev_batches9 : Ev Try.prog 52 [] (.sl 5 (exL.map btD)) := by
 refine ev_of_awp tysOk mixed (fn := Try.f52) Try.func52 rfl rfl rfl ?_
 conv => whnf
 skip
 rfl
theorem wok_conv {y : Yd} {b : Bt} {k : Nat} {f : Bk} {c : Int} (h : withErr y b = 0) (hk : facI y b.soil = k) (hf : y.bulk[k]? = some f) (hc : y.carry[k]? = some c) : Wok y b k f c := by
 obtain ⟨k', f', c', hW⟩ := with_ok h
 have h1 := hW.ixk
 have hkk : k' = k := by omega
 subst hkk
 have hff := Option.some.inj (hW.fat.symm.trans hf)
 have hcc := Option.some.inj (hW.cat.symm.trans hc)
 subst hff; subst hcc
 exact hW
theorem ex_w0 : Wok exY exB0 0 exK 0 := wok_conv (by decide +kernel) (by decide +kernel) rfl rfl
theorem ex_w1 : Wok exY1 exB1 0 exK 1 := wok_conv (by decide +kernel) (by decide +kernel) rfl (by decide +kernel)
def exFl : List (List Int) := [[500001, 0], [499999, 2], [0, 1200000]]
def exT : Tf := ⟨[500, 500, 500], [200, 0], false⟩
theorem ex_small : smallP exY := fun p hp => by
 simp only [exY, List.mem_cons, List.mem_nil_iff, or_false] at hp
 rcases hp with rfl | rfl <;> simp
theorem ex_cls : ∀ x ∈ exY.pits, x.cls.length ≤ 100000 := fun p hp => by
 simp only [exY, List.mem_cons, List.mem_nil_iff, or_false] at hp
 rcases hp with rfl | rfl <;> simp
def exF : Frt := ⟨allF exY exL exFl 3, 900001000, exT⟩
theorem ex_tf : tfGo (accF exY exL) (priceF exY) exFl exY.pits.length exL.length 30 (tfS exY.pits.length exL.length (roomF exY) exFl) = some exT := by
 have h : (tfGo (accF exY exL) (priceF exY) exFl exY.pits.length exL.length 30 (tfS exY.pits.length exL.length (roomF exY) exFl)).map (fun t => (t.bs, t.ps, t.again)) = some (exT.bs, exT.ps, exT.again) := by decide +kernel
 obtain ⟨t, ht, he⟩ := Option.map_eq_some_iff.1 h
 rw [ht]
 cases t
 simp only [Prod.mk.injEq] at he
 obtain ⟨rfl, rfl, rfl⟩ := he
 rfl
theorem ev_exCheapest : Ev Try.prog 49 [ydD exY, .sl 5 (exL.map btD)] (.tup [frD exF, iD 0]) := by
 have h := ev_CheapestOk (y := exY) (l := exL) ex_small (by decide +kernel) (n := 30) (k := 30) (m := 30) (fl := exFl) (by decide) (by decide +kernel) (by decide +kernel) (t := exT) ex_tf
  (by decide +kernel) (by decide +kernel)
 have hc : costF exY (allF exY exL exFl exL.length) = 900001000 := by decide +kernel
 rw [hc] at h
 exact h
theorem ev_exPlace : Ev Try.prog 19 [ydD exY, btD exB0, .str nClean] (.tup [ydD exY1, iD 0]) := by
 have h := ev_Place (s := nClean) ex_cls (by decide +kernel) ex_w0
 have hz : plErr exY exB0 nClean (volN exB0 exK 0) = 0 := by decide +kernel
 rw [hz, if_pos rfl] at h
 exact h
theorem ev_exChoose : Ev Try.prog 28 [ydD exY1, btD exB1] (.tup [.str nDeep, iD 0]) := by
 have h := ev_ChooseOk (y := exY1) (b := exB1) ex_small (by decide +kernel) ex_w1
 have hz : bstS exY1 exB1.cls (volN exB1 exK 1) exY1.pits.length = 1 := by decide +kernel
 rw [hz, if_neg (by decide), if_neg (by decide)] at h
 exact h
theorem ev_awake9 : Ev Try.prog 11 [] (.bool true) := by
 have h1 := ev_yard9
 have h2 := ev_batches9
 have h3 := ev_exCheapest
 have h4 := ev_exPlace
 have h5 := ev_exChoose
 have hb : (exL.map btD).length = 3 := rfl
 have hp0 : (exL.map btD)[0]? = some (btD exB0) := rfl
 have hp1 : (exL.map btD)[1]? = some (btD exB1) := rfl
 refine ev_of_awp tysOk mixed (fn := Try.f11) Try.func11 rfl rfl rfl ?_
 conv => whnf
 repeat' (first|((refine PickE.mk _ hp1 ?_);conv=>whnf)|((refine PickE.mk _ hp0 ?_);conv=>whnf)|((with_reducible refine Split.of_false ?_);conv=>whnf)|((with_reducible refine Split.is_true ?_ ?_);decide;conv=>whnf)|((with_reducible refine Split.streq (fun _=>?_) (fun _=>?_))<;>conv=>whnf)|((with_reducible refine Need.mk ?_ ?_);(first|omega|rfl|decide|(refine ⟨?_,?_⟩<;>simp<;>omega)|(simp;omega));conv=>whnf)|((with_reducible refine AltK.l ?_);(conv=>whnf);(first|(refine CallK.mk _ (h1) ?_)|(refine CallK.mk _ (h2) ?_)|(refine CallK.mk _ (h3) ?_)|(refine CallK.mk _ (h4) ?_)|(refine CallK.mk _ (h5) ?_));conv=>whnf)|(exfalso;first|omega|contradiction)|fail)
 all_goals first
  | rfl
  |(exfalso; first | omega | contradiction)

end Go.Proofs.Try
end
