/- Texts DpW DpX DpY, joined; what is not needed is left out. -/
import Derived.Test.YtjjhgampfhlmbaaGreatDoorMgI
import Derived.Test.YtjjhgampfhlmbaaGreatDoorMgH
import Derived.Test.YtjjhgampfhlmbaaGreatDoorProg
import Derived.Test.YtjjhgampfhlmbaaGreatDoorMcb
section
namespace Go.Proofs.Tryz
open Go Go.Vm
set_option maxRecDepth 20000
set_option maxHeartbeats 40000000
/-! The task: reached (this text is written by gen_reached.py). -/
theorem xv_reached {y : Yd} {l : List Bt} {vol room : List Int} {fl : List (List Int)} (h : TkOk y l vol room fl) {n : Nat} {w : Rs} (hw : reachF (accF y l) y.pits.length l.length n vol fl = some w) (hn : n ≤ 1000) :
 EvX Tryz.prog 106 [.ptr 1000 0] (tkX y l vol room fl) (.agg [.mp 9, .mp 2009]) (tkX y l vol room fl ++ [(9, .map 3 3 (.int .i64) (mapD w.bs)), (2009, .map 3 3 (.int .i64) (mapD w.ps))]) := by
 have hl1 : (vol.map iD).length = vol.length := List.length_map _
 have hl2 : (l.map btD).length = l.length := List.length_map _
 have e1 := h.hv
 have e2 := h.hf
 have e3 := h.hL
 have e4 := h.hP
 have hlf : (fl.map fun r => some (r.map iD)).length = fl.length := List.length_map _
 have hLf := fun (b : Nat) (hb : b < l.length) => xv_left h hb
 have hAc := fun (p b : Nat) (hp : p < y.pits.length) (hb : b < l.length) => xv_accepts h hp hb
 unfold tkX at hLf hAc ⊢
 refine evx_of_awp tysOk mixed (fn := Tryz.f106) Tryz.func106 rfl rfl rfl ?_
 conv => whnf
 repeat' (first|((with_reducible refine Need.mk ?_ ?_);(first|omega|rfl|decide|(refine ⟨?_,?_⟩<;>simp<;>omega)|(simp;omega));conv=>whnf)|fail)
 refine LoopK.o3 (fun i : Nat => i ≤ l.length) (fun i => [(4, .own 200 1 (((List.range i).foldl (st1 vol fl) ⟨[], [], []⟩).q.map nD).length), (21, .d (iD i))])
  (fun i => [(200, .row 3 1 (((List.range i).foldl (st1 vol fl) ⟨[], [], []⟩).q.map nD) false), (13, .map 3 3 (.int .i64) (mapD ((List.range i).foldl (st1 vol fl) ⟨[], [], []⟩).bs))]) (fun i => l.length - i) 0 (by omega) (by refine ⟨?_, ?_, rfl⟩<;>(repeat' (first|exact True.intro|exact rfl|(refine ⟨?_,?_⟩)|(intro h;cases h;done)|(simp;done)|fail));done) ?_
 rintro i hi
 dsimp only at hi ⊢
 by_cases hil : i < l.length
 ·have hc := hLf i hil
  have hnew := st1_new (vol := vol) (fl := fl) i
  have hql := st1_len (vol := vol) (fl := fl) i
  have hstep := range_snoc (st1 vol fl) ⟨[], [], []⟩ i
  have hql2 : (((List.range i).foldl (st1 vol fl) ⟨[], [], []⟩).q.map nD).length = ((List.range i).foldl (st1 vol fl) ⟨[], [], []⟩).q.length := List.length_map _
  generalize (List.range i).foldl (st1 vol fl) ⟨[], [], []⟩ = s at *
  have hmp1 := mput_mapD (v := -1) hnew
  by_cases hz : 0 < leftF vol fl i
  ·have hst : (List.range (i + 1)).foldl (st1 vol fl) ⟨[], [], []⟩ = ⟨s.bs ++ [(i, -1)], s.ps, s.q ++ [i]⟩ := by rw [hstep, st1, if_pos hz]
   generalize leftF vol fl i = z at *
   conv => whnf
   repeat' (first|((with_reducible refine Split.dec (fun _=>?_) (fun _=>?_))<;>conv=>whnf)|((with_reducible refine Need.mk ?_ ?_);(first|omega|rfl|decide|(refine ⟨?_,?_⟩<;>simp<;>omega)|(simp;omega));conv=>whnf)|((with_reducible refine Wr.inr ?_ ?_);(first|omega|(simp;omega));conv=>whnf)|((with_reducible refine AltK.r ?_);(conv=>whnf);(first|(refine CallX.mk _ _ (hc) rfl ?_));conv=>whnf)|(exfalso;first|omega|contradiction)|fail)
   all_goals first
    |(refine Again.av (i + 1) (by omega) (by omega) ?_
      rw [hst]
      exact (by refine ⟨?_, ?_, rfl⟩<;>(repeat' (first|exact True.intro|exact rfl|(refine ⟨?_,?_⟩)|(intro h;cases h;done)|exact map_snoc|(refine own_congr ?_;simp;done)|(simp;done)|exact hmp1|fail));done))
    |(exfalso; omega)
  ·have hst : (List.range (i + 1)).foldl (st1 vol fl) ⟨[], [], []⟩ = s := by rw [hstep, st1, if_neg hz]
   generalize leftF vol fl i = z at *
   conv => whnf
   repeat' (first|((with_reducible refine Split.dec (fun _=>?_) (fun _=>?_))<;>conv=>whnf)|((with_reducible refine Need.mk ?_ ?_);(first|omega|rfl|decide|(refine ⟨?_,?_⟩<;>simp<;>omega)|(simp;omega));conv=>whnf)|((with_reducible refine Wr.inr ?_ ?_);(first|omega|(simp;omega));conv=>whnf)|((with_reducible refine AltK.r ?_);(conv=>whnf);(first|(refine CallX.mk _ _ (hc) rfl ?_));conv=>whnf)|(exfalso;first|omega|contradiction)|fail)
   all_goals first
    |(refine Again.av (i + 1) (by omega) (by omega) ?_
      rw [hst]
      exact (by refine ⟨?_, ?_, rfl⟩<;>(repeat' (first|exact True.intro|exact rfl|(refine ⟨?_,?_⟩)|(intro h;cases h;done)|(simp;done)|fail));done))
    |(exfalso; omega)
 ·have hie : i = l.length := by omega
  subst hie
  have hql := st1_len (vol := vol) (fl := fl) l.length
  have hr0 : (List.range l.length).foldl (st1 vol fl) ⟨[], [], []⟩ = rs0 l.length vol fl := rfl
  rw [hr0] at hql ⊢
  have hgo : rsGo (accF y l) y.pits.length l.length fl n (rs0 l.length vol fl) = some w := hw
  have hq0 : ∀ b ∈ (rs0 l.length vol fl).q, b < l.length := rs0_lt
  clear hr0 hw hi hil
  generalize rs0 l.length vol fl = s0 at *
  have hlen0 : (s0.q.map nD).length = s0.q.length := List.length_map _
  have hmp0 : ([] : List (D × D)) = mapD s0.ps := by rw [hql.2]; rfl
  conv => whnf
  repeat' (first|((with_reducible refine Split.dec (fun _=>?_) (fun _=>?_))<;>conv=>whnf)|(exfalso;first|omega|contradiction)|fail)
  refine LoopK.o3 (fun x : Nat × Rs × Qs => rsGo (accF y l) y.pits.length l.length fl x.1 x.2.1 = some w ∧ qN x.2.1.q x.2.2 + 100 * x.1 ≤ 200000 ∧ (∀ b ∈ x.2.1.q, b < l.length) ∧ (∀ e, x.2.2 = .fin e → x.2.1.q = []) ∧ (∀ p, x.2.2 = .view p → x.2.1.q ≠ []))
   (fun x => [(4, qV x.2.1.q x.2.2)]) (fun x => qB x.2.1.q x.2.2 ++ [(13, .map 3 3 (.int .i64) (mapD x.2.1.bs)), (14, .map 3 3 (.int .i64) (mapD x.2.1.ps))]) (fun x => x.1) (n, s0, .own) ⟨hgo, by simp only [qN];omega, hq0, by simp, by simp⟩ (by refine ⟨?_, ?_, rfl⟩<;>(repeat' (first|exact True.intro|exact rfl|(refine ⟨?_,?_⟩)|(intro h;cases h;done)|(simp;done)|exact hmp0|fail));done) ?_
  clear hmp0 hgo hq0 hql
  rintro ⟨n, s, o⟩ ⟨hgo, hqn, hqb, ho1, ho2⟩
  dsimp only at hgo hqn hqb ho1 ho2 ⊢
  by_cases hq : s.q = []
  ·have hs : s = w := by cases n <;> simpa [rsGo, hq] using hgo
   subst hs
   rcases o with _ | pre | e
   ·dsimp only [qV, qB]
    rw [hq]
    conv => whnf
    repeat' (first|((with_reducible refine Split.is_false ?_ ?_);decide;conv=>whnf)|((with_reducible refine Need.mk ?_ ?_);(first|omega|rfl|decide|(refine ⟨?_,?_⟩<;>simp<;>omega)|(simp;omega));conv=>whnf)|fail)
    exact ⟨⟨[(9, some 13), (2009, some 14)], (by refine ⟨?_, ?_, rfl⟩<;>(repeat' (first|exact True.intro|exact rfl|(refine ⟨?_,?_⟩)|(intro h;cases h;done)|(simp;done)|fail));done)⟩, rfl⟩
   ·exact absurd hq (ho2 pre rfl)
   ·dsimp only [qV, qB]
    conv => whnf
    repeat' (first|((with_reducible refine Split.is_false ?_ ?_);decide;conv=>whnf)|((with_reducible refine Need.mk ?_ ?_);(first|omega|rfl|decide|(refine ⟨?_,?_⟩<;>simp<;>omega)|(simp;omega));conv=>whnf)|fail)
    exact ⟨⟨[(9, some 13), (2009, some 14)], (by refine ⟨?_, ?_, rfl⟩<;>(repeat' (first|exact True.intro|exact rfl|(refine ⟨?_,?_⟩)|(intro h;cases h;done)|(simp;done)|fail));done)⟩, rfl⟩
  obtain ⟨b, r, hbr⟩ := List.exists_cons_of_ne_nil hq
  cases n with
  | zero => rw [rsGo, if_neg hq] at hgo; cases hgo
  | succ n =>
  rw [rsGo, hbr] at hgo
  dsimp only at hgo
  obtain ⟨Z, hZ⟩ : ∃ Z : Nat → Rs, ∀ i, Z i = (List.range i).foldl (stP (accF y l) l.length fl b) s := ⟨_, fun _ => rfl⟩
  rw [← hZ] at hgo
  have hZ0 : Z 0 = s := hZ 0
  have hZq : ∀ i, qI l.length (12 * i) s.q (Z i).q := fun i => by rw [hZ]; exact stP_q e3 i
  have hZs : ∀ i, Z (i + 1) = stP (accF y l) l.length fl b (Z i) i := fun i => by rw [hZ, range_snoc, ← hZ]
  clear hZ
  have hbL : b < l.length := hqb b (by rw [hbr]; simp)
  have hlq : (s.q.map nD).length = s.q.length := List.length_map _
  have hlq2 : s.q.length = r.length + 1 := by rw [hbr]; simp
  have h0 : s.q[0]? = some b := by rw [hbr]; rfl
  have h1 : ∀ pre : List Nat, (pre ++ s.q)[pre.length]? = some b := fun pre => by rw [hbr]; simp
  have hlp : (y.pits.map ptD).length = y.pits.length := List.length_map _
  rcases o with _ | pre | e
  rotate_left 2
  ·exact absurd (ho1 e rfl) hq
  ·dsimp only [qV, qB]
   dsimp only [qN] at hqn
   conv => whnf
   repeat' (first|((refine PickE.map 0 h0 (by omega) ?_);conv=>whnf)|((with_reducible refine Split.dec (fun _=>?_) (fun _=>?_))<;>conv=>whnf)|((with_reducible refine Need.mk ?_ ?_);(first|omega|rfl|decide|(refine ⟨?_,?_⟩<;>simp<;>omega)|(simp;omega));conv=>whnf)|(exfalso;first|omega|contradiction)|fail)
   refine LoopK.o3 (fun x : Nat × Qs => x.1 ≤ y.pits.length ∧ (x.2 = .own) ∧ qN (Z x.1).q x.2 + 100 * (n + 1) ≤ 200000 + 12 * x.1)
    (fun x => [(4, qV (Z x.1).q x.2), (50, .d (iD x.1)), (36, .junk), (41, .junk), (42, .junk)]) (fun x => qB (Z x.1).q x.2 ++ [(13, .map 3 3 (.int .i64) (mapD (Z x.1).bs)), (14, .map 3 3 (.int .i64) (mapD (Z x.1).ps))])
    (fun x => y.pits.length - x.1) (0, .own) ⟨by omega, rfl, by dsimp only [qN];rw [hZ0];omega⟩ (by dsimp only [qV, qB];rw [hZ0];exact (by refine ⟨?_, ?_, rfl⟩<;>(repeat' (first|exact True.intro|exact rfl|(refine ⟨?_,?_⟩)|(intro h;cases h;done)|(simp;done)|fail));done)) ?_
   rintro ⟨i, o⟩ ⟨hi, hof, hon⟩
   dsimp only at hi hof hon ⊢
   have hzs := hZs i
   by_cases hil : i < y.pits.length
   ·generalize hu : Z i = u at *
    have hm := mget_mapD i u.ps
    have hac0 := hAc i b hil hbL
    cases hk : hasN u.ps i with
    | true =>
     rw [hk, if_pos rfl] at hm
     have hst : Z (i + 1) = u := by rw [hzs, stP, if_pos hk]
     subst hof
     dsimp only [qV, qB]
     dsimp only [qN] at hon
     conv => whnf
     repeat' (first|((with_reducible refine Split.dec (fun _=>?_) (fun _=>?_))<;>conv=>whnf)|((with_reducible refine AltK.l ?_);(conv=>whnf);(with_reducible refine Need.mk ?_ ?_);(first|omega|(refine ⟨?_,?_⟩<;>simp<;>omega)|(simp;omega));conv=>whnf)|((with_reducible refine Need.mk ?_ ?_);(first|omega|rfl|decide|(refine ⟨?_,?_⟩<;>simp<;>omega)|(simp;omega));conv=>whnf)|(exfalso;first|omega|contradiction)|fail)
     refine LookK.mk (fun v hv => ?_) (fun hv => ?_)
     ·conv => whnf
      repeat' (first|((with_reducible refine Split.of_true ?_);conv=>whnf)|((with_reducible refine Wr.inr ?_ ?_);(first|omega|(simp;omega));conv=>whnf)|fail)
      refine Again.av (i + 1, .own) ⟨by dsimp only; omega, rfl, by dsimp only [qN]; rw [hst]; (first | omega | (simp only [List.length_append, List.length_singleton]; omega))⟩ (by dsimp only; omega) ?_
      dsimp only [qV, qB]
      rw [hst]
      exact (by refine ⟨?_, ?_, rfl⟩<;>(repeat' (first|exact True.intro|exact rfl|(refine ⟨?_,?_⟩)|(intro h;cases h;done)|(simp;done)|fail));done)
     ·rw [hm] at hv; cases hv
    | false =>
     rw [hk, if_neg (by decide)] at hm
     cases hac : accF y l i b with
     | false =>
      have hst : Z (i + 1) = u := by rw [hzs, stP, if_neg (by rw [hk]; decide), if_pos hac]
      rw [hac] at hac0
      subst hof
      dsimp only [qV, qB]
      dsimp only [qN] at hon
      conv => whnf
      repeat' (first|((with_reducible refine Split.dec (fun _=>?_) (fun _=>?_))<;>conv=>whnf)|((with_reducible refine AltK.l ?_);(conv=>whnf);(with_reducible refine Need.mk ?_ ?_);(first|omega|(refine ⟨?_,?_⟩<;>simp<;>omega)|(simp;omega));conv=>whnf)|((with_reducible refine Need.mk ?_ ?_);(first|omega|rfl|decide|(refine ⟨?_,?_⟩<;>simp<;>omega)|(simp;omega));conv=>whnf)|(exfalso;first|omega|contradiction)|fail)
      refine LookK.mk (fun v hv => ?_) (fun hv => ?_)
      ·rw [hm] at hv; cases hv
      ·conv => whnf
       repeat' (first|((with_reducible refine Split.of_false ?_);conv=>whnf)|(with_reducible refine Split.neg ?_)|((with_reducible refine Wr.inr ?_ ?_);(first|omega|(simp;omega));conv=>whnf)|((with_reducible refine AltK.r ?_);(conv=>whnf);(first|(refine CallX.mk _ _ (hac0) rfl ?_));conv=>whnf)|fail)
       refine Again.av (i + 1, .own) ⟨by dsimp only; omega, rfl, by dsimp only [qN]; rw [hst]; (first | omega | (simp only [List.length_append, List.length_singleton]; omega))⟩ (by dsimp only; omega) ?_
       dsimp only [qV, qB]
       rw [hst]
       exact (by refine ⟨?_, ?_, rfl⟩<;>(repeat' (first|exact True.intro|exact rfl|(refine ⟨?_,?_⟩)|(intro h;cases h;done)|(simp;done)|fail));done)
     | true =>
      obtain ⟨V, hV⟩ : ∃ V : Nat → Rs, ∀ k, V k = (List.range k).foldl (stO fl i) ⟨u.bs, u.ps ++ [(i, (b : Int))], u.q⟩ := ⟨_, fun _ => rfl⟩
      have hst : Z (i + 1) = V l.length := by rw [hzs, stP, if_neg (by rw [hk]; decide), if_neg (by rw [hac]; decide), hV]
      have hV0 : V 0 = ⟨u.bs, u.ps ++ [(i, (b : Int))], u.q⟩ := hV 0
      have hVs : ∀ k, V (k + 1) = stO fl i (V k) k := fun k => by rw [hV, range_snoc, ← hV]
      have hVp : (V l.length).ps = u.ps ++ [(i, (b : Int))] := by rw [hV]; exact (stO_q (L := l.length) l.length (Nat.le_refl _)).2
      clear hV
      rw [hac] at hac0
      have hmp1 : mput (mapD u.ps) (iD (i : Int)) (nD b) = mapD (u.ps ++ [(i, (b : Int))]) := mput_mapD hk
      subst hof
      dsimp only [qV, qB]
      dsimp only [qN] at hon
      conv => whnf
      repeat' (first|((with_reducible refine Split.dec (fun _=>?_) (fun _=>?_))<;>conv=>whnf)|((with_reducible refine AltK.l ?_);(conv=>whnf);(with_reducible refine Need.mk ?_ ?_);(first|omega|(refine ⟨?_,?_⟩<;>simp<;>omega)|(simp;omega));conv=>whnf)|((with_reducible refine Need.mk ?_ ?_);(first|omega|rfl|decide|(refine ⟨?_,?_⟩<;>simp<;>omega)|(simp;omega));conv=>whnf)|(exfalso;first|omega|contradiction)|fail)
      refine LookK.mk (fun v hv => ?_) (fun hv => ?_)
      ·rw [hm] at hv; cases hv
      ·conv => whnf
       repeat' (first|((with_reducible first|refine Split.of_true ?_|refine Split.of_false ?_);conv=>whnf)|(with_reducible refine Split.neg ?_)|((with_reducible refine Need.mk ?_ ?_);(first|omega|rfl|decide|(refine ⟨?_,?_⟩<;>simp<;>omega)|(simp;omega));conv=>whnf)|((with_reducible refine AltK.r ?_);(conv=>whnf);(first|(refine CallX.mk _ _ (hac0) rfl ?_));conv=>whnf)|fail)
       refine LoopK.o3 (fun x : Nat × Qs => x.1 ≤ l.length ∧ (x.2 = .own) ∧ qN (V x.1).q x.2 + 100 * (n + 1) ≤ 200000 + 12 * i + x.1)
        (fun x => [(4, qV (V x.1).q x.2), (77, .d (iD x.1)), (36, .junk), (41, .junk), (42, .junk)]) (fun x => qB (V x.1).q x.2 ++ [(13, .map 3 3 (.int .i64) (mapD (V x.1).bs)), (14, .map 3 3 (.int .i64) (mapD (u.ps ++ [(i, (b : Int))])))])
        (fun x => l.length - x.1) (0, .own) ⟨by omega, rfl, by dsimp only [qN];rw [hV0];dsimp only;omega⟩ (by dsimp only [qV, qB];rw [hV0];exact (by refine ⟨?_, ?_, rfl⟩<;>(repeat' (first|exact True.intro|exact rfl|(refine ⟨?_,?_⟩)|(intro h;cases h;done)|(simp;done)|exact hmp1|fail));done)) ?_
       clear hon
       rintro ⟨k, o⟩ ⟨hk', hof, hon⟩
       dsimp only at hk' hof hon ⊢
       have hvs := hVs k
       by_cases hkl : k < l.length
       ·generalize hv' : V k = v at *
        have hm2 := mget_mapD k v.bs
        have hlv : (v.q.map nD).length = v.q.length := List.length_map _
        have hlv2 : ∀ pr : List Nat, ((pr ++ v.q).map nD).length = pr.length + v.q.length := fun pr => by simp
        cases hkb : hasN v.bs k with
        | true =>
         rw [hkb, if_pos rfl] at hm2
         have hst2 : V (k + 1) = v := by rw [hvs, stO, if_pos hkb]
         subst hof
         dsimp only [qV, qB]
         dsimp only [qN] at hon
         conv => whnf
         repeat' (first|((with_reducible refine Split.dec (fun _=>?_) (fun _=>?_))<;>conv=>whnf)|((with_reducible refine Need.mk ?_ ?_);(first|omega|rfl|decide|(refine ⟨?_,?_⟩<;>simp<;>omega)|(simp;omega));conv=>whnf)|((with_reducible refine Wr.inr ?_ ?_);(first|omega|(simp;omega));conv=>whnf)|(exfalso;first|omega|contradiction)|fail)
         refine LookK.mk (fun v hv => ?_) (fun hv => ?_)
         ·conv => whnf
          repeat' (first|((with_reducible first|refine Split.of_true ?_|refine Split.of_false ?_);conv=>whnf)|(with_reducible refine Split.neg ?_)|((with_reducible refine Wr.inr ?_ ?_);(first|omega|(simp;omega));conv=>whnf)|fail)
          refine Again.av (k + 1, .own) ⟨by dsimp only; omega, rfl, by dsimp only [qN]; rw [hst2]; (first | omega | (simp only [List.length_append, List.length_singleton]; omega))⟩ (by dsimp only; omega) ?_
          dsimp only [qV, qB]
          rw [hst2]
          exact (by refine ⟨?_, ?_, rfl⟩<;>(repeat' (first|exact True.intro|exact rfl|(refine ⟨?_,?_⟩)|(intro h;cases h;done)|(simp;done)|fail));done)
         ·rw [hm2] at hv; cases hv
        | false =>
         rw [hkb, if_neg (by decide)] at hm2
         obtain ⟨rw', hrw⟩ := some_of_lt (show k < fl.length by omega)
         have hrwm := List.mem_of_getElem? hrw
         have hrwl := h.row rw' hrwm
         obtain ⟨x, hx⟩ := some_of_lt (show i < rw'.length by omega)
         have hcx : cellZ fl k i = x := by simp [cellZ, List.getD, hrw, hx]
         have hlr : (rw'.map iD).length = rw'.length := List.length_map _
         have hmp2 : mput (mapD v.bs) (iD (k : Int)) (iD (i : Int)) = mapD (v.bs ++ [(k, (i : Int))]) := mput_mapD hkb
         by_cases hx0 : 0 < x
         ·have hst2 : V (k + 1) = ⟨v.bs ++ [(k, (i : Int))], v.ps, v.q ++ [k]⟩ := by rw [hvs, stO, if_neg (by rw [hkb]; decide), if_pos (by rw [hcx]; exact hx0)]
          subst hof
          dsimp only [qV, qB]
          dsimp only [qN] at hon
          conv => whnf
          repeat' (first|((with_reducible refine Split.dec (fun _=>?_) (fun _=>?_))<;>conv=>whnf)|((with_reducible refine Need.mk ?_ ?_);(first|omega|rfl|decide|(refine ⟨?_,?_⟩<;>simp<;>omega)|(simp;omega));conv=>whnf)|((with_reducible refine Wr.inr ?_ ?_);(first|omega|(simp;omega));conv=>whnf)|(exfalso;first|omega|contradiction)|fail)
          refine LookK.mk (fun v hv => ?_) (fun hv => ?_)
          ·rw [hm2] at hv; cases hv
          ·conv => whnf
           repeat' (first|((refine PickE.map i hx (by omega) ?_);conv=>whnf)|((refine PickR.map k hrw (by omega) ?_);conv=>whnf)|((with_reducible refine Split.of_false ?_);conv=>whnf)|(with_reducible refine Split.neg ?_)|((with_reducible refine Split.dec (fun _=>?_) (fun _=>?_))<;>conv=>whnf)|((with_reducible refine Need.mk ?_ ?_);(first|omega|rfl|decide|(refine ⟨?_,?_⟩<;>simp<;>omega)|(simp;omega));conv=>whnf)|((with_reducible refine Wr.inr ?_ ?_);(first|omega|(simp;omega));conv=>whnf)|(exfalso;first|omega|contradiction)|fail)
           all_goals first
            |(exfalso; omega)
            | skip
           refine Again.av (k + 1, .own) ⟨by dsimp only; omega, rfl, by dsimp only [qN]; rw [hst2]; (first | omega | (simp only [List.length_append, List.length_singleton]; omega))⟩ (by dsimp only; omega) ?_
           dsimp only [qV, qB]
           rw [hst2]
           exact (by refine ⟨?_, ?_, rfl⟩<;>(repeat' (first|exact True.intro|exact rfl|(refine ⟨?_,?_⟩)|(intro h;cases h;done)|exact map_snoc|(refine own_congr ?_;simp;done)|(simp;done)|exact hmp2|fail));done)
         ·have hst2 : V (k + 1) = v := by rw [hvs, stO, if_neg (by rw [hkb]; decide), if_neg (by rw [hcx]; exact hx0)]
          subst hof
          dsimp only [qV, qB]
          dsimp only [qN] at hon
          conv => whnf
          repeat' (first|((with_reducible refine Split.dec (fun _=>?_) (fun _=>?_))<;>conv=>whnf)|((with_reducible refine Need.mk ?_ ?_);(first|omega|rfl|decide|(refine ⟨?_,?_⟩<;>simp<;>omega)|(simp;omega));conv=>whnf)|((with_reducible refine Wr.inr ?_ ?_);(first|omega|(simp;omega));conv=>whnf)|(exfalso;first|omega|contradiction)|fail)
          refine LookK.mk (fun v hv => ?_) (fun hv => ?_)
          ·rw [hm2] at hv; cases hv
          ·conv => whnf
           repeat' (first|((refine PickE.map i hx (by omega) ?_);conv=>whnf)|((refine PickR.map k hrw (by omega) ?_);conv=>whnf)|((with_reducible refine Split.of_false ?_);conv=>whnf)|(with_reducible refine Split.neg ?_)|((with_reducible refine Split.dec (fun _=>?_) (fun _=>?_))<;>conv=>whnf)|((with_reducible refine Need.mk ?_ ?_);(first|omega|rfl|decide|(refine ⟨?_,?_⟩<;>simp<;>omega)|(simp;omega));conv=>whnf)|((with_reducible refine Wr.inr ?_ ?_);(first|omega|(simp;omega));conv=>whnf)|(exfalso;first|omega|contradiction)|fail)
           all_goals first
            |(exfalso; omega)
            | skip
           refine Again.av (k + 1, .own) ⟨by dsimp only; omega, rfl, by dsimp only [qN]; rw [hst2]; (first | omega | (simp only [List.length_append, List.length_singleton]; omega))⟩ (by dsimp only; omega) ?_
           dsimp only [qV, qB]
           rw [hst2]
           exact (by refine ⟨?_, ?_, rfl⟩<;>(repeat' (first|exact True.intro|exact rfl|(refine ⟨?_,?_⟩)|(intro h;cases h;done)|(simp;done)|fail));done)
       ·have hke : k = l.length := by omega
        subst hke
        have hmp5 : mapD (u.ps ++ [(i, (b : Int))]) = mapD (V l.length).ps := by rw [hVp]
        subst hof
        dsimp only [qV, qB]
        dsimp only [qN] at hon
        conv => whnf
        repeat' (first|((with_reducible refine Split.dec (fun _=>?_) (fun _=>?_))<;>conv=>whnf)|((with_reducible refine Need.mk ?_ ?_);(first|omega|rfl|decide|(refine ⟨?_,?_⟩<;>simp<;>omega)|(simp;omega));conv=>whnf)|((with_reducible refine Wr.inr ?_ ?_);(first|omega|(simp;omega));conv=>whnf)|(exfalso;first|omega|contradiction)|fail)
        refine Again.av (i + 1, .own) ⟨by dsimp only; omega, rfl, by dsimp only [qN]; rw [hst]; (first | omega | (simp only [List.length_append, List.length_singleton]; omega))⟩ (by dsimp only; omega) ?_
        dsimp only [qV, qB]
        rw [hst]
        exact (by refine ⟨?_, ?_, rfl⟩<;>(repeat' (first|exact True.intro|exact rfl|(refine ⟨?_,?_⟩)|(intro h;cases h;done)|(simp;done)|exact hmp5|fail));done)
   ·have hie : i = y.pits.length := by omega
    subst hie
    clear hzs
    obtain ⟨t, htq, -, htl⟩ := hZq y.pits.length
    have htq' : (Z y.pits.length).q = b :: (r ++ t) := by rw [htq, hbr]; rfl
    have hrt : ∀ z ∈ r ++ t, z < l.length := fun z hz => by
     rcases List.mem_append.1 hz with h | h
     ·exact hqb z (by rw [hbr]; exact List.mem_cons_of_mem _ h)
     ·exact htl z h
    generalize Z y.pits.length = u at *
    have hlu : (u.q.map nD).length = (r ++ t).length + 1 := by rw [htq']; simp
    have hlu2 : ∀ pr : List Nat, ((pr ++ u.q).map nD).length = pr.length + ((r ++ t).length + 1) := fun pr => by rw [htq']; simp
    have hlu3 : u.q.length = (r ++ t).length + 1 := by rw [htq']; simp
    have hrl : (r ++ t).length = r.length + t.length := List.length_append
    have hut : u.q.tail = r ++ t := by rw [htq']; rfl
    subst hof
    dsimp only [qV, qB]
    dsimp only [qN] at hon
    conv => whnf
    repeat' (first|((with_reducible refine Split.dec (fun _=>?_) (fun _=>?_))<;>conv=>whnf)|((with_reducible refine Need.mk ?_ ?_);(first|omega|rfl|decide|(refine ⟨?_,?_⟩<;>simp<;>omega)|(simp;omega));conv=>whnf)|(exfalso;first|omega|contradiction)|fail)
    by_cases hrt0 : r ++ t = []
    ·have hl0 : (r ++ t).length = 0 := by rw [hrt0]; rfl
     have hmp6 : AV.d (D.sl 1 (List.drop (Int.toNat 1) (List.take ((u.q.map nD).length : Int).toNat (u.q.map nD)))) = AV.d (D.sl 1 []) := by rw [htq', hrt0]; rfl
     refine AltK.l ?_
     conv => whnf
     repeat' (first|((with_reducible refine Need.mk ?_ ?_);(first|omega|rfl|decide|(refine ⟨?_,?_⟩<;>simp<;>omega)|(simp;omega));conv=>whnf)|fail)
     refine Again.av (n, ⟨u.bs, u.ps, u.q.tail⟩, .fin u.q) ⟨hgo, by dsimp only [qN]; omega, by dsimp only; rw [hut]; exact hrt, by dsimp only; rw [hut]; intro e _; exact hrt0, fun p hp => by cases hp⟩ (by dsimp only; omega) ?_
     dsimp only [qV, qB]
     exact (by refine ⟨?_, ?_, rfl⟩<;>(repeat' (first|exact True.intro|exact rfl|(refine ⟨?_,?_⟩)|(intro h;cases h;done)|(intro h;exact h)|(simp;done)|exact hmp6|fail));done)
    ·have hl0 := List.length_pos_iff.2 hrt0
     have hmp6 : u.q.map nD = ([b] ++ (r ++ t)).map nD := by rw [htq']; rfl
     refine AltK.r ?_
     conv => whnf
     refine AltK.l ?_
     conv => whnf
     repeat' (first|((with_reducible refine Need.mk ?_ ?_);(first|omega|rfl|decide|(refine ⟨?_,?_⟩<;>simp<;>omega)|(simp;omega));conv=>whnf)|fail)
     refine Again.av (n, ⟨u.bs, u.ps, u.q.tail⟩, .view [b]) ⟨hgo, by dsimp only [qN]; rw [hut]; (first | omega | (simp only [List.length_append, List.length_singleton]; omega)), by dsimp only; rw [hut]; exact hrt, fun e he => (by cases he), by dsimp only; rw [hut]; intro e _; exact hrt0⟩ (by dsimp only; omega) ?_
     dsimp only [qV, qB]
     rw [hut]
     exact (by refine ⟨?_, ?_, rfl⟩<;>(repeat' (first|exact True.intro|exact rfl|(refine ⟨?_,?_⟩)|(intro h;cases h;done)|(simp;done)|(refine view_congr ?_ ?_<;>(first|omega|(simp;done)|(simp;omega)))|exact hmp6|fail));done)
  ·dsimp only [qV, qB]
   dsimp only [qN] at hqn
   conv => whnf
   repeat' (first|((refine PickE.map pre.length (h1 pre) (by omega) ?_);conv=>whnf)|((with_reducible refine Split.dec (fun _=>?_) (fun _=>?_))<;>conv=>whnf)|((with_reducible refine Need.mk ?_ ?_);(first|omega|rfl|decide|(refine ⟨?_,?_⟩<;>simp<;>omega)|(simp;omega));conv=>whnf)|(exfalso;first|omega|contradiction)|fail)
   refine LoopK.o3 (fun x : Nat × Qs => x.1 ≤ y.pits.length ∧ (∀ e, x.2 ≠ .fin e) ∧ qN (Z x.1).q x.2 + 100 * (n + 1) ≤ 200000 + 12 * x.1)
    (fun x => [(4, qV (Z x.1).q x.2), (50, .d (iD x.1)), (36, .junk), (41, .junk), (42, .junk)]) (fun x => qB (Z x.1).q x.2 ++ [(13, .map 3 3 (.int .i64) (mapD (Z x.1).bs)), (14, .map 3 3 (.int .i64) (mapD (Z x.1).ps))])
    (fun x => y.pits.length - x.1) (0, .view pre) ⟨by omega, fun e => by simp, by dsimp only [qN];rw [hZ0];omega⟩ (by dsimp only [qV, qB];rw [hZ0];exact (by refine ⟨?_, ?_, rfl⟩<;>(repeat' (first|exact True.intro|exact rfl|(refine ⟨?_,?_⟩)|(intro h;cases h;done)|(simp;done)|fail));done)) ?_
   rintro ⟨i, o⟩ ⟨hi, hof, hon⟩
   dsimp only at hi hof hon ⊢
   have hzs := hZs i
   by_cases hil : i < y.pits.length
   ·generalize hu : Z i = u at *
    have hm := mget_mapD i u.ps
    have hac0 := hAc i b hil hbL
    cases hk : hasN u.ps i with
    | true =>
     rw [hk, if_pos rfl] at hm
     have hst : Z (i + 1) = u := by rw [hzs, stP, if_pos hk]
     rcases o with _ | pr1 | e
     rotate_left 2
     ·exact absurd rfl (hof e)
     ·dsimp only [qV, qB]
      dsimp only [qN] at hon
      conv => whnf
      repeat' (first|((with_reducible refine Split.dec (fun _=>?_) (fun _=>?_))<;>conv=>whnf)|((with_reducible refine AltK.l ?_);(conv=>whnf);(with_reducible refine Need.mk ?_ ?_);(first|omega|(refine ⟨?_,?_⟩<;>simp<;>omega)|(simp;omega));conv=>whnf)|((with_reducible refine Need.mk ?_ ?_);(first|omega|rfl|decide|(refine ⟨?_,?_⟩<;>simp<;>omega)|(simp;omega));conv=>whnf)|(exfalso;first|omega|contradiction)|fail)
      refine LookK.mk (fun v hv => ?_) (fun hv => ?_)
      ·conv => whnf
       repeat' (first|((with_reducible refine Split.of_true ?_);conv=>whnf)|((with_reducible refine Wr.inr ?_ ?_);(first|omega|(simp;omega));conv=>whnf)|fail)
       refine Again.av (i + 1, .own) ⟨by dsimp only; omega, fun e => by simp, by dsimp only [qN]; rw [hst]; (first | omega | (simp only [List.length_append, List.length_singleton]; omega))⟩ (by dsimp only; omega) ?_
       dsimp only [qV, qB]
       rw [hst]
       exact (by refine ⟨?_, ?_, rfl⟩<;>(repeat' (first|exact True.intro|exact rfl|(refine ⟨?_,?_⟩)|(intro h;cases h;done)|(simp;done)|fail));done)
      ·rw [hm] at hv; cases hv
     ·dsimp only [qV, qB]
      dsimp only [qN] at hon
      conv => whnf
      repeat' (first|((with_reducible refine Split.dec (fun _=>?_) (fun _=>?_))<;>conv=>whnf)|((with_reducible refine AltK.l ?_);(conv=>whnf);(with_reducible refine Need.mk ?_ ?_);(first|omega|(refine ⟨?_,?_⟩<;>simp<;>omega)|(simp;omega));conv=>whnf)|((with_reducible refine Need.mk ?_ ?_);(first|omega|rfl|decide|(refine ⟨?_,?_⟩<;>simp<;>omega)|(simp;omega));conv=>whnf)|(exfalso;first|omega|contradiction)|fail)
      refine LookK.mk (fun v hv => ?_) (fun hv => ?_)
      ·conv => whnf
       repeat' (first|((with_reducible refine Split.of_true ?_);conv=>whnf)|((with_reducible refine Wr.inr ?_ ?_);(first|omega|(simp;omega));conv=>whnf)|fail)
       refine Again.av (i + 1, .view pr1) ⟨by dsimp only; omega, fun e => by simp, by dsimp only [qN]; rw [hst]; (first | omega | (simp only [List.length_append, List.length_singleton]; omega))⟩ (by dsimp only; omega) ?_
       dsimp only [qV, qB]
       rw [hst]
       exact (by refine ⟨?_, ?_, rfl⟩<;>(repeat' (first|exact True.intro|exact rfl|(refine ⟨?_,?_⟩)|(intro h;cases h;done)|(simp;done)|fail));done)
      ·rw [hm] at hv; cases hv
    | false =>
     rw [hk, if_neg (by decide)] at hm
     cases hac : accF y l i b with
     | false =>
      have hst : Z (i + 1) = u := by rw [hzs, stP, if_neg (by rw [hk]; decide), if_pos hac]
      rw [hac] at hac0
      rcases o with _ | pr1 | e
      rotate_left 2
      ·exact absurd rfl (hof e)
      ·dsimp only [qV, qB]
       dsimp only [qN] at hon
       conv => whnf
       repeat' (first|((with_reducible refine Split.dec (fun _=>?_) (fun _=>?_))<;>conv=>whnf)|((with_reducible refine AltK.l ?_);(conv=>whnf);(with_reducible refine Need.mk ?_ ?_);(first|omega|(refine ⟨?_,?_⟩<;>simp<;>omega)|(simp;omega));conv=>whnf)|((with_reducible refine Need.mk ?_ ?_);(first|omega|rfl|decide|(refine ⟨?_,?_⟩<;>simp<;>omega)|(simp;omega));conv=>whnf)|(exfalso;first|omega|contradiction)|fail)
       refine LookK.mk (fun v hv => ?_) (fun hv => ?_)
       ·rw [hm] at hv; cases hv
       ·conv => whnf
        repeat' (first|((with_reducible refine Split.of_false ?_);conv=>whnf)|(with_reducible refine Split.neg ?_)|((with_reducible refine Wr.inr ?_ ?_);(first|omega|(simp;omega));conv=>whnf)|((with_reducible refine AltK.r ?_);(conv=>whnf);(first|(refine CallX.mk _ _ (hac0) rfl ?_));conv=>whnf)|fail)
        refine Again.av (i + 1, .own) ⟨by dsimp only; omega, fun e => by simp, by dsimp only [qN]; rw [hst]; (first | omega | (simp only [List.length_append, List.length_singleton]; omega))⟩ (by dsimp only; omega) ?_
        dsimp only [qV, qB]
        rw [hst]
        exact (by refine ⟨?_, ?_, rfl⟩<;>(repeat' (first|exact True.intro|exact rfl|(refine ⟨?_,?_⟩)|(intro h;cases h;done)|(simp;done)|fail));done)
      ·dsimp only [qV, qB]
       dsimp only [qN] at hon
       conv => whnf
       repeat' (first|((with_reducible refine Split.dec (fun _=>?_) (fun _=>?_))<;>conv=>whnf)|((with_reducible refine AltK.l ?_);(conv=>whnf);(with_reducible refine Need.mk ?_ ?_);(first|omega|(refine ⟨?_,?_⟩<;>simp<;>omega)|(simp;omega));conv=>whnf)|((with_reducible refine Need.mk ?_ ?_);(first|omega|rfl|decide|(refine ⟨?_,?_⟩<;>simp<;>omega)|(simp;omega));conv=>whnf)|(exfalso;first|omega|contradiction)|fail)
       refine LookK.mk (fun v hv => ?_) (fun hv => ?_)
       ·rw [hm] at hv; cases hv
       ·conv => whnf
        repeat' (first|((with_reducible refine Split.of_false ?_);conv=>whnf)|(with_reducible refine Split.neg ?_)|((with_reducible refine Wr.inr ?_ ?_);(first|omega|(simp;omega));conv=>whnf)|((with_reducible refine AltK.r ?_);(conv=>whnf);(first|(refine CallX.mk _ _ (hac0) rfl ?_));conv=>whnf)|fail)
        refine Again.av (i + 1, .view pr1) ⟨by dsimp only; omega, fun e => by simp, by dsimp only [qN]; rw [hst]; (first | omega | (simp only [List.length_append, List.length_singleton]; omega))⟩ (by dsimp only; omega) ?_
        dsimp only [qV, qB]
        rw [hst]
        exact (by refine ⟨?_, ?_, rfl⟩<;>(repeat' (first|exact True.intro|exact rfl|(refine ⟨?_,?_⟩)|(intro h;cases h;done)|(simp;done)|fail));done)
     | true =>
      obtain ⟨V, hV⟩ : ∃ V : Nat → Rs, ∀ k, V k = (List.range k).foldl (stO fl i) ⟨u.bs, u.ps ++ [(i, (b : Int))], u.q⟩ := ⟨_, fun _ => rfl⟩
      have hst : Z (i + 1) = V l.length := by rw [hzs, stP, if_neg (by rw [hk]; decide), if_neg (by rw [hac]; decide), hV]
      have hV0 : V 0 = ⟨u.bs, u.ps ++ [(i, (b : Int))], u.q⟩ := hV 0
      have hVs : ∀ k, V (k + 1) = stO fl i (V k) k := fun k => by rw [hV, range_snoc, ← hV]
      have hVp : (V l.length).ps = u.ps ++ [(i, (b : Int))] := by rw [hV]; exact (stO_q (L := l.length) l.length (Nat.le_refl _)).2
      clear hV
      rw [hac] at hac0
      have hmp1 : mput (mapD u.ps) (iD (i : Int)) (nD b) = mapD (u.ps ++ [(i, (b : Int))]) := mput_mapD hk
      rcases o with _ | pr1 | e
      rotate_left 2
      ·exact absurd rfl (hof e)
      ·dsimp only [qV, qB]
       dsimp only [qN] at hon
       conv => whnf
       repeat' (first|((with_reducible refine Split.dec (fun _=>?_) (fun _=>?_))<;>conv=>whnf)|((with_reducible refine AltK.l ?_);(conv=>whnf);(with_reducible refine Need.mk ?_ ?_);(first|omega|(refine ⟨?_,?_⟩<;>simp<;>omega)|(simp;omega));conv=>whnf)|((with_reducible refine Need.mk ?_ ?_);(first|omega|rfl|decide|(refine ⟨?_,?_⟩<;>simp<;>omega)|(simp;omega));conv=>whnf)|(exfalso;first|omega|contradiction)|fail)
       refine LookK.mk (fun v hv => ?_) (fun hv => ?_)
       ·rw [hm] at hv; cases hv
       ·conv => whnf
        repeat' (first|((with_reducible first|refine Split.of_true ?_|refine Split.of_false ?_);conv=>whnf)|(with_reducible refine Split.neg ?_)|((with_reducible refine Need.mk ?_ ?_);(first|omega|rfl|decide|(refine ⟨?_,?_⟩<;>simp<;>omega)|(simp;omega));conv=>whnf)|((with_reducible refine AltK.r ?_);(conv=>whnf);(first|(refine CallX.mk _ _ (hac0) rfl ?_));conv=>whnf)|fail)
        refine LoopK.o3 (fun x : Nat × Qs => x.1 ≤ l.length ∧ (x.2 = .own) ∧ qN (V x.1).q x.2 + 100 * (n + 1) ≤ 200000 + 12 * i + x.1)
         (fun x => [(4, qV (V x.1).q x.2), (77, .d (iD x.1)), (36, .junk), (41, .junk), (42, .junk)]) (fun x => qB (V x.1).q x.2 ++ [(13, .map 3 3 (.int .i64) (mapD (V x.1).bs)), (14, .map 3 3 (.int .i64) (mapD (u.ps ++ [(i, (b : Int))])))])
         (fun x => l.length - x.1) (0, .own) ⟨by omega, rfl, by dsimp only [qN];rw [hV0];dsimp only;omega⟩ (by dsimp only [qV, qB];rw [hV0];exact (by refine ⟨?_, ?_, rfl⟩<;>(repeat' (first|exact True.intro|exact rfl|(refine ⟨?_,?_⟩)|(intro h;cases h;done)|(simp;done)|exact hmp1|fail));done)) ?_
        clear hon
        rintro ⟨k, o⟩ ⟨hk', hof, hon⟩
        dsimp only at hk' hof hon ⊢
        have hvs := hVs k
        by_cases hkl : k < l.length
        ·generalize hv' : V k = v at *
         have hm2 := mget_mapD k v.bs
         have hlv : (v.q.map nD).length = v.q.length := List.length_map _
         have hlv2 : ∀ pr : List Nat, ((pr ++ v.q).map nD).length = pr.length + v.q.length := fun pr => by simp
         cases hkb : hasN v.bs k with
         | true =>
          rw [hkb, if_pos rfl] at hm2
          have hst2 : V (k + 1) = v := by rw [hvs, stO, if_pos hkb]
          subst hof
          dsimp only [qV, qB]
          dsimp only [qN] at hon
          conv => whnf
          repeat' (first|((with_reducible refine Split.dec (fun _=>?_) (fun _=>?_))<;>conv=>whnf)|((with_reducible refine Need.mk ?_ ?_);(first|omega|rfl|decide|(refine ⟨?_,?_⟩<;>simp<;>omega)|(simp;omega));conv=>whnf)|((with_reducible refine Wr.inr ?_ ?_);(first|omega|(simp;omega));conv=>whnf)|(exfalso;first|omega|contradiction)|fail)
          refine LookK.mk (fun v hv => ?_) (fun hv => ?_)
          ·conv => whnf
           repeat' (first|((with_reducible first|refine Split.of_true ?_|refine Split.of_false ?_);conv=>whnf)|(with_reducible refine Split.neg ?_)|((with_reducible refine Wr.inr ?_ ?_);(first|omega|(simp;omega));conv=>whnf)|fail)
           refine Again.av (k + 1, .own) ⟨by dsimp only; omega, rfl, by dsimp only [qN]; rw [hst2]; (first | omega | (simp only [List.length_append, List.length_singleton]; omega))⟩ (by dsimp only; omega) ?_
           dsimp only [qV, qB]
           rw [hst2]
           exact (by refine ⟨?_, ?_, rfl⟩<;>(repeat' (first|exact True.intro|exact rfl|(refine ⟨?_,?_⟩)|(intro h;cases h;done)|(simp;done)|fail));done)
          ·rw [hm2] at hv; cases hv
         | false =>
          rw [hkb, if_neg (by decide)] at hm2
          obtain ⟨rw', hrw⟩ := some_of_lt (show k < fl.length by omega)
          have hrwm := List.mem_of_getElem? hrw
          have hrwl := h.row rw' hrwm
          obtain ⟨x, hx⟩ := some_of_lt (show i < rw'.length by omega)
          have hcx : cellZ fl k i = x := by simp [cellZ, List.getD, hrw, hx]
          have hlr : (rw'.map iD).length = rw'.length := List.length_map _
          have hmp2 : mput (mapD v.bs) (iD (k : Int)) (iD (i : Int)) = mapD (v.bs ++ [(k, (i : Int))]) := mput_mapD hkb
          by_cases hx0 : 0 < x
          ·have hst2 : V (k + 1) = ⟨v.bs ++ [(k, (i : Int))], v.ps, v.q ++ [k]⟩ := by rw [hvs, stO, if_neg (by rw [hkb]; decide), if_pos (by rw [hcx]; exact hx0)]
           subst hof
           dsimp only [qV, qB]
           dsimp only [qN] at hon
           conv => whnf
           repeat' (first|((with_reducible refine Split.dec (fun _=>?_) (fun _=>?_))<;>conv=>whnf)|((with_reducible refine Need.mk ?_ ?_);(first|omega|rfl|decide|(refine ⟨?_,?_⟩<;>simp<;>omega)|(simp;omega));conv=>whnf)|((with_reducible refine Wr.inr ?_ ?_);(first|omega|(simp;omega));conv=>whnf)|(exfalso;first|omega|contradiction)|fail)
           refine LookK.mk (fun v hv => ?_) (fun hv => ?_)
           ·rw [hm2] at hv; cases hv
           ·conv => whnf
            repeat' (first|((refine PickE.map i hx (by omega) ?_);conv=>whnf)|((refine PickR.map k hrw (by omega) ?_);conv=>whnf)|((with_reducible refine Split.of_false ?_);conv=>whnf)|(with_reducible refine Split.neg ?_)|((with_reducible refine Split.dec (fun _=>?_) (fun _=>?_))<;>conv=>whnf)|((with_reducible refine Need.mk ?_ ?_);(first|omega|rfl|decide|(refine ⟨?_,?_⟩<;>simp<;>omega)|(simp;omega));conv=>whnf)|((with_reducible refine Wr.inr ?_ ?_);(first|omega|(simp;omega));conv=>whnf)|(exfalso;first|omega|contradiction)|fail)
            all_goals first
             |(exfalso; omega)
             | skip
            refine Again.av (k + 1, .own) ⟨by dsimp only; omega, rfl, by dsimp only [qN]; rw [hst2]; (first | omega | (simp only [List.length_append, List.length_singleton]; omega))⟩ (by dsimp only; omega) ?_
            dsimp only [qV, qB]
            rw [hst2]
            exact (by refine ⟨?_, ?_, rfl⟩<;>(repeat' (first|exact True.intro|exact rfl|(refine ⟨?_,?_⟩)|(intro h;cases h;done)|exact map_snoc|(refine own_congr ?_;simp;done)|(simp;done)|exact hmp2|fail));done)
          ·have hst2 : V (k + 1) = v := by rw [hvs, stO, if_neg (by rw [hkb]; decide), if_neg (by rw [hcx]; exact hx0)]
           subst hof
           dsimp only [qV, qB]
           dsimp only [qN] at hon
           conv => whnf
           repeat' (first|((with_reducible refine Split.dec (fun _=>?_) (fun _=>?_))<;>conv=>whnf)|((with_reducible refine Need.mk ?_ ?_);(first|omega|rfl|decide|(refine ⟨?_,?_⟩<;>simp<;>omega)|(simp;omega));conv=>whnf)|((with_reducible refine Wr.inr ?_ ?_);(first|omega|(simp;omega));conv=>whnf)|(exfalso;first|omega|contradiction)|fail)
           refine LookK.mk (fun v hv => ?_) (fun hv => ?_)
           ·rw [hm2] at hv; cases hv
           ·conv => whnf
            repeat' (first|((refine PickE.map i hx (by omega) ?_);conv=>whnf)|((refine PickR.map k hrw (by omega) ?_);conv=>whnf)|((with_reducible refine Split.of_false ?_);conv=>whnf)|(with_reducible refine Split.neg ?_)|((with_reducible refine Split.dec (fun _=>?_) (fun _=>?_))<;>conv=>whnf)|((with_reducible refine Need.mk ?_ ?_);(first|omega|rfl|decide|(refine ⟨?_,?_⟩<;>simp<;>omega)|(simp;omega));conv=>whnf)|((with_reducible refine Wr.inr ?_ ?_);(first|omega|(simp;omega));conv=>whnf)|(exfalso;first|omega|contradiction)|fail)
            all_goals first
             |(exfalso; omega)
             | skip
            refine Again.av (k + 1, .own) ⟨by dsimp only; omega, rfl, by dsimp only [qN]; rw [hst2]; (first | omega | (simp only [List.length_append, List.length_singleton]; omega))⟩ (by dsimp only; omega) ?_
            dsimp only [qV, qB]
            rw [hst2]
            exact (by refine ⟨?_, ?_, rfl⟩<;>(repeat' (first|exact True.intro|exact rfl|(refine ⟨?_,?_⟩)|(intro h;cases h;done)|(simp;done)|fail));done)
        ·have hke : k = l.length := by omega
         subst hke
         have hmp5 : mapD (u.ps ++ [(i, (b : Int))]) = mapD (V l.length).ps := by rw [hVp]
         subst hof
         dsimp only [qV, qB]
         dsimp only [qN] at hon
         conv => whnf
         repeat' (first|((with_reducible refine Split.dec (fun _=>?_) (fun _=>?_))<;>conv=>whnf)|((with_reducible refine Need.mk ?_ ?_);(first|omega|rfl|decide|(refine ⟨?_,?_⟩<;>simp<;>omega)|(simp;omega));conv=>whnf)|((with_reducible refine Wr.inr ?_ ?_);(first|omega|(simp;omega));conv=>whnf)|(exfalso;first|omega|contradiction)|fail)
         refine Again.av (i + 1, .own) ⟨by dsimp only; omega, fun e => by simp, by dsimp only [qN]; rw [hst]; (first | omega | (simp only [List.length_append, List.length_singleton]; omega))⟩ (by dsimp only; omega) ?_
         dsimp only [qV, qB]
         rw [hst]
         exact (by refine ⟨?_, ?_, rfl⟩<;>(repeat' (first|exact True.intro|exact rfl|(refine ⟨?_,?_⟩)|(intro h;cases h;done)|(simp;done)|exact hmp5|fail));done)
      ·dsimp only [qV, qB]
       dsimp only [qN] at hon
       conv => whnf
       repeat' (first|((with_reducible refine Split.dec (fun _=>?_) (fun _=>?_))<;>conv=>whnf)|((with_reducible refine AltK.l ?_);(conv=>whnf);(with_reducible refine Need.mk ?_ ?_);(first|omega|(refine ⟨?_,?_⟩<;>simp<;>omega)|(simp;omega));conv=>whnf)|((with_reducible refine Need.mk ?_ ?_);(first|omega|rfl|decide|(refine ⟨?_,?_⟩<;>simp<;>omega)|(simp;omega));conv=>whnf)|(exfalso;first|omega|contradiction)|fail)
       refine LookK.mk (fun v hv => ?_) (fun hv => ?_)
       ·rw [hm] at hv; cases hv
       ·conv => whnf
        repeat' (first|((with_reducible first|refine Split.of_true ?_|refine Split.of_false ?_);conv=>whnf)|(with_reducible refine Split.neg ?_)|((with_reducible refine Need.mk ?_ ?_);(first|omega|rfl|decide|(refine ⟨?_,?_⟩<;>simp<;>omega)|(simp;omega));conv=>whnf)|((with_reducible refine AltK.r ?_);(conv=>whnf);(first|(refine CallX.mk _ _ (hac0) rfl ?_));conv=>whnf)|fail)
        refine LoopK.o3 (fun x : Nat × Qs => x.1 ≤ l.length ∧ (∀ e, x.2 ≠ .fin e) ∧ qN (V x.1).q x.2 + 100 * (n + 1) ≤ 200000 + 12 * i + x.1)
         (fun x => [(4, qV (V x.1).q x.2), (77, .d (iD x.1)), (36, .junk), (41, .junk), (42, .junk)]) (fun x => qB (V x.1).q x.2 ++ [(13, .map 3 3 (.int .i64) (mapD (V x.1).bs)), (14, .map 3 3 (.int .i64) (mapD (u.ps ++ [(i, (b : Int))])))])
         (fun x => l.length - x.1) (0, .view pr1) ⟨by omega, fun e => by simp, by dsimp only [qN];rw [hV0];dsimp only;omega⟩ (by dsimp only [qV, qB];rw [hV0];exact (by refine ⟨?_, ?_, rfl⟩<;>(repeat' (first|exact True.intro|exact rfl|(refine ⟨?_,?_⟩)|(intro h;cases h;done)|(simp;done)|exact hmp1|fail));done)) ?_
        clear hon
        rintro ⟨k, o⟩ ⟨hk', hof, hon⟩
        dsimp only at hk' hof hon ⊢
        have hvs := hVs k
        by_cases hkl : k < l.length
        ·generalize hv' : V k = v at *
         have hm2 := mget_mapD k v.bs
         have hlv : (v.q.map nD).length = v.q.length := List.length_map _
         have hlv2 : ∀ pr : List Nat, ((pr ++ v.q).map nD).length = pr.length + v.q.length := fun pr => by simp
         cases hkb : hasN v.bs k with
         | true =>
          rw [hkb, if_pos rfl] at hm2
          have hst2 : V (k + 1) = v := by rw [hvs, stO, if_pos hkb]
          rcases o with _ | pr2 | e
          rotate_left 2
          ·exact absurd rfl (hof e)
          ·dsimp only [qV, qB]
           dsimp only [qN] at hon
           conv => whnf
           repeat' (first|((with_reducible refine Split.dec (fun _=>?_) (fun _=>?_))<;>conv=>whnf)|((with_reducible refine Need.mk ?_ ?_);(first|omega|rfl|decide|(refine ⟨?_,?_⟩<;>simp<;>omega)|(simp;omega));conv=>whnf)|((with_reducible refine Wr.inr ?_ ?_);(first|omega|(simp;omega));conv=>whnf)|(exfalso;first|omega|contradiction)|fail)
           refine LookK.mk (fun v hv => ?_) (fun hv => ?_)
           ·conv => whnf
            repeat' (first|((with_reducible first|refine Split.of_true ?_|refine Split.of_false ?_);conv=>whnf)|(with_reducible refine Split.neg ?_)|((with_reducible refine Wr.inr ?_ ?_);(first|omega|(simp;omega));conv=>whnf)|fail)
            refine Again.av (k + 1, .own) ⟨by dsimp only; omega, fun e => by simp, by dsimp only [qN]; rw [hst2]; (first | omega | (simp only [List.length_append, List.length_singleton]; omega))⟩ (by dsimp only; omega) ?_
            dsimp only [qV, qB]
            rw [hst2]
            exact (by refine ⟨?_, ?_, rfl⟩<;>(repeat' (first|exact True.intro|exact rfl|(refine ⟨?_,?_⟩)|(intro h;cases h;done)|(simp;done)|fail));done)
           ·rw [hm2] at hv; cases hv
          ·dsimp only [qV, qB]
           dsimp only [qN] at hon
           conv => whnf
           repeat' (first|((with_reducible refine Split.dec (fun _=>?_) (fun _=>?_))<;>conv=>whnf)|((with_reducible refine Need.mk ?_ ?_);(first|omega|rfl|decide|(refine ⟨?_,?_⟩<;>simp<;>omega)|(simp;omega));conv=>whnf)|((with_reducible refine Wr.inr ?_ ?_);(first|omega|(simp;omega));conv=>whnf)|(exfalso;first|omega|contradiction)|fail)
           refine LookK.mk (fun v hv => ?_) (fun hv => ?_)
           ·conv => whnf
            repeat' (first|((with_reducible first|refine Split.of_true ?_|refine Split.of_false ?_);conv=>whnf)|(with_reducible refine Split.neg ?_)|((with_reducible refine Wr.inr ?_ ?_);(first|omega|(simp;omega));conv=>whnf)|fail)
            refine Again.av (k + 1, .view pr2) ⟨by dsimp only; omega, fun e => by simp, by dsimp only [qN]; rw [hst2]; (first | omega | (simp only [List.length_append, List.length_singleton]; omega))⟩ (by dsimp only; omega) ?_
            dsimp only [qV, qB]
            rw [hst2]
            exact (by refine ⟨?_, ?_, rfl⟩<;>(repeat' (first|exact True.intro|exact rfl|(refine ⟨?_,?_⟩)|(intro h;cases h;done)|(simp;done)|fail));done)
           ·rw [hm2] at hv; cases hv
         | false =>
          rw [hkb, if_neg (by decide)] at hm2
          obtain ⟨rw', hrw⟩ := some_of_lt (show k < fl.length by omega)
          have hrwm := List.mem_of_getElem? hrw
          have hrwl := h.row rw' hrwm
          obtain ⟨x, hx⟩ := some_of_lt (show i < rw'.length by omega)
          have hcx : cellZ fl k i = x := by simp [cellZ, List.getD, hrw, hx]
          have hlr : (rw'.map iD).length = rw'.length := List.length_map _
          have hmp2 : mput (mapD v.bs) (iD (k : Int)) (iD (i : Int)) = mapD (v.bs ++ [(k, (i : Int))]) := mput_mapD hkb
          by_cases hx0 : 0 < x
          ·have hst2 : V (k + 1) = ⟨v.bs ++ [(k, (i : Int))], v.ps, v.q ++ [k]⟩ := by rw [hvs, stO, if_neg (by rw [hkb]; decide), if_pos (by rw [hcx]; exact hx0)]
           rcases o with _ | pr2 | e
           rotate_left 2
           ·exact absurd rfl (hof e)
           ·dsimp only [qV, qB]
            dsimp only [qN] at hon
            conv => whnf
            repeat' (first|((with_reducible refine Split.dec (fun _=>?_) (fun _=>?_))<;>conv=>whnf)|((with_reducible refine Need.mk ?_ ?_);(first|omega|rfl|decide|(refine ⟨?_,?_⟩<;>simp<;>omega)|(simp;omega));conv=>whnf)|((with_reducible refine Wr.inr ?_ ?_);(first|omega|(simp;omega));conv=>whnf)|(exfalso;first|omega|contradiction)|fail)
            refine LookK.mk (fun v hv => ?_) (fun hv => ?_)
            ·rw [hm2] at hv; cases hv
            ·conv => whnf
             repeat' (first|((refine PickE.map i hx (by omega) ?_);conv=>whnf)|((refine PickR.map k hrw (by omega) ?_);conv=>whnf)|((with_reducible refine Split.of_false ?_);conv=>whnf)|(with_reducible refine Split.neg ?_)|((with_reducible refine Split.dec (fun _=>?_) (fun _=>?_))<;>conv=>whnf)|((with_reducible refine Need.mk ?_ ?_);(first|omega|rfl|decide|(refine ⟨?_,?_⟩<;>simp<;>omega)|(simp;omega));conv=>whnf)|((with_reducible refine Wr.inr ?_ ?_);(first|omega|(simp;omega));conv=>whnf)|(exfalso;first|omega|contradiction)|fail)
             all_goals first
              |(exfalso; omega)
              | skip
             refine Again.av (k + 1, .own) ⟨by dsimp only; omega, fun e => by simp, by dsimp only [qN]; rw [hst2]; (first | omega | (simp only [List.length_append, List.length_singleton]; omega))⟩ (by dsimp only; omega) ?_
             dsimp only [qV, qB]
             rw [hst2]
             exact (by refine ⟨?_, ?_, rfl⟩<;>(repeat' (first|exact True.intro|exact rfl|(refine ⟨?_,?_⟩)|(intro h;cases h;done)|exact map_snoc|(refine own_congr ?_;simp;done)|(simp;done)|exact hmp2|fail));done)
           ·dsimp only [qV, qB]
            dsimp only [qN] at hon
            conv => whnf
            repeat' (first|((with_reducible refine Split.dec (fun _=>?_) (fun _=>?_))<;>conv=>whnf)|((with_reducible refine Need.mk ?_ ?_);(first|omega|rfl|decide|(refine ⟨?_,?_⟩<;>simp<;>omega)|(simp;omega));conv=>whnf)|((with_reducible refine Wr.inr ?_ ?_);(first|omega|(simp;omega));conv=>whnf)|(exfalso;first|omega|contradiction)|fail)
            refine LookK.mk (fun v hv => ?_) (fun hv => ?_)
            ·rw [hm2] at hv; cases hv
            ·have hmp3 : ((pr2 ++ v.q).map nD).drop pr2.length ++ iD (k : Int) :: List.replicate 0 (D.int .i64 0) = (v.q ++ [k]).map nD := by simp [nD]
             have hmp4 : (pr2 ++ v.q).map nD ++ iD (k : Int) :: List.replicate 0 (D.int .i64 0) = (pr2 ++ (v.q ++ [k])).map nD := by simp [nD]
             conv => whnf
             repeat' (first|((refine PickE.map i hx (by omega) ?_);conv=>whnf)|((refine PickR.map k hrw (by omega) ?_);conv=>whnf)|((with_reducible refine Split.of_false ?_);conv=>whnf)|(with_reducible refine Split.neg ?_)|((with_reducible refine Split.dec (fun _=>?_) (fun _=>?_))<;>conv=>whnf)|((with_reducible refine NilK.mk (fun _=>?_) ?_)<;>conv=>whnf)|((with_reducible refine Need.mk ?_ ?_);(first|omega|rfl|decide|(refine ⟨?_,?_⟩<;>simp<;>omega)|(simp;omega));conv=>whnf)|((with_reducible refine Wr.inr ?_ ?_);(first|omega|(simp;omega));conv=>whnf)|(exfalso;first|omega|contradiction)|fail)
             ·refine Again.av (k + 1, .view pr2) ⟨by dsimp only; omega, fun e => by simp, by dsimp only [qN]; rw [hst2]; (first | omega | (simp only [List.length_append, List.length_singleton]; omega))⟩ (by dsimp only; omega) ?_
              dsimp only [qV, qB]
              rw [hst2]
              exact (by refine ⟨?_, ?_, rfl⟩<;>(repeat' (first|exact True.intro|exact rfl|(refine ⟨?_,?_⟩)|(intro h;cases h;done)|(simp;done)|(refine view_congr ?_ ?_<;>(first|omega|(simp;done)|(simp;omega)))|exact hmp2|exact hmp4|fail));done)
             ·refine Again.av (k + 1, .own) ⟨by dsimp only; omega, fun e => by simp, by dsimp only [qN]; rw [hst2]; (first | omega | (simp only [List.length_append, List.length_singleton]; omega))⟩ (by dsimp only; omega) ?_
              dsimp only [qV, qB]
              rw [hst2]
              exact (by refine ⟨?_, ?_, rfl⟩<;>(repeat' (first|exact True.intro|exact rfl|(refine ⟨?_,?_⟩)|(intro h;cases h;done)|(refine own_congr ?_;simp;done)|(simp;done)|exact hmp2|exact hmp3|fail));done)
          ·have hst2 : V (k + 1) = v := by rw [hvs, stO, if_neg (by rw [hkb]; decide), if_neg (by rw [hcx]; exact hx0)]
           rcases o with _ | pr2 | e
           rotate_left 2
           ·exact absurd rfl (hof e)
           ·dsimp only [qV, qB]
            dsimp only [qN] at hon
            conv => whnf
            repeat' (first|((with_reducible refine Split.dec (fun _=>?_) (fun _=>?_))<;>conv=>whnf)|((with_reducible refine Need.mk ?_ ?_);(first|omega|rfl|decide|(refine ⟨?_,?_⟩<;>simp<;>omega)|(simp;omega));conv=>whnf)|((with_reducible refine Wr.inr ?_ ?_);(first|omega|(simp;omega));conv=>whnf)|(exfalso;first|omega|contradiction)|fail)
            refine LookK.mk (fun v hv => ?_) (fun hv => ?_)
            ·rw [hm2] at hv; cases hv
            ·conv => whnf
             repeat' (first|((refine PickE.map i hx (by omega) ?_);conv=>whnf)|((refine PickR.map k hrw (by omega) ?_);conv=>whnf)|((with_reducible refine Split.of_false ?_);conv=>whnf)|(with_reducible refine Split.neg ?_)|((with_reducible refine Split.dec (fun _=>?_) (fun _=>?_))<;>conv=>whnf)|((with_reducible refine Need.mk ?_ ?_);(first|omega|rfl|decide|(refine ⟨?_,?_⟩<;>simp<;>omega)|(simp;omega));conv=>whnf)|((with_reducible refine Wr.inr ?_ ?_);(first|omega|(simp;omega));conv=>whnf)|(exfalso;first|omega|contradiction)|fail)
             all_goals first
              |(exfalso; omega)
              | skip
             refine Again.av (k + 1, .own) ⟨by dsimp only; omega, fun e => by simp, by dsimp only [qN]; rw [hst2]; (first | omega | (simp only [List.length_append, List.length_singleton]; omega))⟩ (by dsimp only; omega) ?_
             dsimp only [qV, qB]
             rw [hst2]
             exact (by refine ⟨?_, ?_, rfl⟩<;>(repeat' (first|exact True.intro|exact rfl|(refine ⟨?_,?_⟩)|(intro h;cases h;done)|(simp;done)|fail));done)
           ·dsimp only [qV, qB]
            dsimp only [qN] at hon
            conv => whnf
            repeat' (first|((with_reducible refine Split.dec (fun _=>?_) (fun _=>?_))<;>conv=>whnf)|((with_reducible refine Need.mk ?_ ?_);(first|omega|rfl|decide|(refine ⟨?_,?_⟩<;>simp<;>omega)|(simp;omega));conv=>whnf)|((with_reducible refine Wr.inr ?_ ?_);(first|omega|(simp;omega));conv=>whnf)|(exfalso;first|omega|contradiction)|fail)
            refine LookK.mk (fun v hv => ?_) (fun hv => ?_)
            ·rw [hm2] at hv; cases hv
            ·conv => whnf
             repeat' (first|((refine PickE.map i hx (by omega) ?_);conv=>whnf)|((refine PickR.map k hrw (by omega) ?_);conv=>whnf)|((with_reducible refine Split.of_false ?_);conv=>whnf)|(with_reducible refine Split.neg ?_)|((with_reducible refine Split.dec (fun _=>?_) (fun _=>?_))<;>conv=>whnf)|((with_reducible refine NilK.mk (fun _=>?_) ?_)<;>conv=>whnf)|((with_reducible refine Need.mk ?_ ?_);(first|omega|rfl|decide|(refine ⟨?_,?_⟩<;>simp<;>omega)|(simp;omega));conv=>whnf)|((with_reducible refine Wr.inr ?_ ?_);(first|omega|(simp;omega));conv=>whnf)|(exfalso;first|omega|contradiction)|fail)
             all_goals first
              |(exfalso; omega)
              | skip
             refine Again.av (k + 1, .view pr2) ⟨by dsimp only; omega, fun e => by simp, by dsimp only [qN]; rw [hst2]; (first | omega | (simp only [List.length_append, List.length_singleton]; omega))⟩ (by dsimp only; omega) ?_
             dsimp only [qV, qB]
             rw [hst2]
             exact (by refine ⟨?_, ?_, rfl⟩<;>(repeat' (first|exact True.intro|exact rfl|(refine ⟨?_,?_⟩)|(intro h;cases h;done)|(simp;done)|fail));done)
        ·have hke : k = l.length := by omega
         subst hke
         have hmp5 : mapD (u.ps ++ [(i, (b : Int))]) = mapD (V l.length).ps := by rw [hVp]
         rcases o with _ | pr2 | e
         rotate_left 2
         ·exact absurd rfl (hof e)
         ·dsimp only [qV, qB]
          dsimp only [qN] at hon
          conv => whnf
          repeat' (first|((with_reducible refine Split.dec (fun _=>?_) (fun _=>?_))<;>conv=>whnf)|((with_reducible refine Need.mk ?_ ?_);(first|omega|rfl|decide|(refine ⟨?_,?_⟩<;>simp<;>omega)|(simp;omega));conv=>whnf)|((with_reducible refine Wr.inr ?_ ?_);(first|omega|(simp;omega));conv=>whnf)|(exfalso;first|omega|contradiction)|fail)
          refine Again.av (i + 1, .own) ⟨by dsimp only; omega, fun e => by simp, by dsimp only [qN]; rw [hst]; (first | omega | (simp only [List.length_append, List.length_singleton]; omega))⟩ (by dsimp only; omega) ?_
          dsimp only [qV, qB]
          rw [hst]
          exact (by refine ⟨?_, ?_, rfl⟩<;>(repeat' (first|exact True.intro|exact rfl|(refine ⟨?_,?_⟩)|(intro h;cases h;done)|(simp;done)|exact hmp5|fail));done)
         ·dsimp only [qV, qB]
          dsimp only [qN] at hon
          conv => whnf
          repeat' (first|((with_reducible refine Split.dec (fun _=>?_) (fun _=>?_))<;>conv=>whnf)|((with_reducible refine Need.mk ?_ ?_);(first|omega|rfl|decide|(refine ⟨?_,?_⟩<;>simp<;>omega)|(simp;omega));conv=>whnf)|((with_reducible refine Wr.inr ?_ ?_);(first|omega|(simp;omega));conv=>whnf)|(exfalso;first|omega|contradiction)|fail)
          refine Again.av (i + 1, .view pr2) ⟨by dsimp only; omega, fun e => by simp, by dsimp only [qN]; rw [hst]; (first | omega | (simp only [List.length_append, List.length_singleton]; omega))⟩ (by dsimp only; omega) ?_
          dsimp only [qV, qB]
          rw [hst]
          exact (by refine ⟨?_, ?_, rfl⟩<;>(repeat' (first|exact True.intro|exact rfl|(refine ⟨?_,?_⟩)|(intro h;cases h;done)|(simp;done)|exact hmp5|fail));done)
   ·have hie : i = y.pits.length := by omega
    subst hie
    clear hzs
    obtain ⟨t, htq, -, htl⟩ := hZq y.pits.length
    have htq' : (Z y.pits.length).q = b :: (r ++ t) := by rw [htq, hbr]; rfl
    have hrt : ∀ z ∈ r ++ t, z < l.length := fun z hz => by
     rcases List.mem_append.1 hz with h | h
     ·exact hqb z (by rw [hbr]; exact List.mem_cons_of_mem _ h)
     ·exact htl z h
    generalize Z y.pits.length = u at *
    have hlu : (u.q.map nD).length = (r ++ t).length + 1 := by rw [htq']; simp
    have hlu2 : ∀ pr : List Nat, ((pr ++ u.q).map nD).length = pr.length + ((r ++ t).length + 1) := fun pr => by rw [htq']; simp
    have hlu3 : u.q.length = (r ++ t).length + 1 := by rw [htq']; simp
    have hrl : (r ++ t).length = r.length + t.length := List.length_append
    have hut : u.q.tail = r ++ t := by rw [htq']; rfl
    rcases o with _ | pr1 | e
    rotate_left 2
    ·exact absurd rfl (hof e)
    ·dsimp only [qV, qB]
     dsimp only [qN] at hon
     conv => whnf
     repeat' (first|((with_reducible refine Split.dec (fun _=>?_) (fun _=>?_))<;>conv=>whnf)|((with_reducible refine Need.mk ?_ ?_);(first|omega|rfl|decide|(refine ⟨?_,?_⟩<;>simp<;>omega)|(simp;omega));conv=>whnf)|(exfalso;first|omega|contradiction)|fail)
     by_cases hrt0 : r ++ t = []
     ·have hl0 : (r ++ t).length = 0 := by rw [hrt0]; rfl
      have hmp6 : AV.d (D.sl 1 (List.drop (Int.toNat 1) (List.take ((u.q.map nD).length : Int).toNat (u.q.map nD)))) = AV.d (D.sl 1 []) := by rw [htq', hrt0]; rfl
      refine AltK.l ?_
      conv => whnf
      repeat' (first|((with_reducible refine Need.mk ?_ ?_);(first|omega|rfl|decide|(refine ⟨?_,?_⟩<;>simp<;>omega)|(simp;omega));conv=>whnf)|fail)
      refine Again.av (n, ⟨u.bs, u.ps, u.q.tail⟩, .fin u.q) ⟨hgo, by dsimp only [qN]; omega, by dsimp only; rw [hut]; exact hrt, by dsimp only; rw [hut]; intro e _; exact hrt0, fun p hp => by cases hp⟩ (by dsimp only; omega) ?_
      dsimp only [qV, qB]
      exact (by refine ⟨?_, ?_, rfl⟩<;>(repeat' (first|exact True.intro|exact rfl|(refine ⟨?_,?_⟩)|(intro h;cases h;done)|(intro h;exact h)|(simp;done)|exact hmp6|fail));done)
     ·have hl0 := List.length_pos_iff.2 hrt0
      have hmp6 : u.q.map nD = ([b] ++ (r ++ t)).map nD := by rw [htq']; rfl
      refine AltK.r ?_
      conv => whnf
      refine AltK.l ?_
      conv => whnf
      repeat' (first|((with_reducible refine Need.mk ?_ ?_);(first|omega|rfl|decide|(refine ⟨?_,?_⟩<;>simp<;>omega)|(simp;omega));conv=>whnf)|fail)
      refine Again.av (n, ⟨u.bs, u.ps, u.q.tail⟩, .view [b]) ⟨hgo, by dsimp only [qN]; rw [hut]; (first | omega | (simp only [List.length_append, List.length_singleton]; omega)), by dsimp only; rw [hut]; exact hrt, fun e he => (by cases he), by dsimp only; rw [hut]; intro e _; exact hrt0⟩ (by dsimp only; omega) ?_
      dsimp only [qV, qB]
      rw [hut]
      exact (by refine ⟨?_, ?_, rfl⟩<;>(repeat' (first|exact True.intro|exact rfl|(refine ⟨?_,?_⟩)|(intro h;cases h;done)|(simp;done)|(refine view_congr ?_ ?_<;>(first|omega|(simp;done)|(simp;omega)))|exact hmp6|fail));done)
    ·dsimp only [qV, qB]
     dsimp only [qN] at hon
     conv => whnf
     repeat' (first|((with_reducible refine Split.dec (fun _=>?_) (fun _=>?_))<;>conv=>whnf)|((with_reducible refine Need.mk ?_ ?_);(first|omega|rfl|decide|(refine ⟨?_,?_⟩<;>simp<;>omega)|(simp;omega));conv=>whnf)|(exfalso;first|omega|contradiction)|fail)
     by_cases hrt0 : r ++ t = []
     ·have hl0 : (r ++ t).length = 0 := by rw [hrt0]; rfl
      refine AltK.r ?_
      conv => whnf
      repeat' (first|((with_reducible refine Need.mk ?_ ?_);(first|omega|rfl|decide|(refine ⟨?_,?_⟩<;>simp<;>omega)|(simp;omega));conv=>whnf)|fail)
      refine Again.av (n, ⟨u.bs, u.ps, u.q.tail⟩, .fin (pr1 ++ u.q)) ⟨hgo, by dsimp only [qN]; omega, by dsimp only; rw [hut]; exact hrt, by dsimp only; rw [hut]; intro e _; exact hrt0, fun p hp => by cases hp⟩ (by dsimp only; omega) ?_
      dsimp only [qV, qB]
      exact (by refine ⟨?_, ?_, rfl⟩<;>(repeat' (first|exact True.intro|exact rfl|(refine ⟨?_,?_⟩)|(intro h;cases h;done)|(simp;done)|fail));done)
     ·have hl0 := List.length_pos_iff.2 hrt0
      have hmp6 : (pr1 ++ u.q).map nD = ((pr1 ++ [b]) ++ (r ++ t)).map nD := by rw [htq', List.append_assoc]; rfl
      refine AltK.l ?_
      conv => whnf
      repeat' (first|((with_reducible refine Need.mk ?_ ?_);(first|omega|rfl|decide|(refine ⟨?_,?_⟩<;>simp<;>omega)|(simp;omega));conv=>whnf)|fail)
      refine Again.av (n, ⟨u.bs, u.ps, u.q.tail⟩, .view (pr1 ++ [b])) ⟨hgo, by dsimp only [qN]; rw [hut]; (first | omega | (simp only [List.length_append, List.length_singleton]; omega)), by dsimp only; rw [hut]; exact hrt, fun e he => (by cases he), by dsimp only; rw [hut]; intro e _; exact hrt0⟩ (by dsimp only; omega) ?_
      dsimp only [qV, qB]
      rw [hut]
      exact (by refine ⟨?_, ?_, rfl⟩<;>(repeat' (first|exact True.intro|exact rfl|(refine ⟨?_,?_⟩)|(intro h;cases h;done)|(simp;done)|(refine view_congr ?_ ?_<;>(first|omega|(simp;done)|(simp;omega)))|exact hmp6|fail));done)
end Go.Proofs.Tryz
end

section
namespace Go.Proofs.Tryz
open Go Go.Vm
set_option maxRecDepth 20000
set_option maxHeartbeats 8000000
/-! The task: push. -/
def stD (x : Int × Int × Int) : D := .agg [iD x.1, iD x.2.1, iD x.2.2]
theorem left_bd {y : Yd} {l : List Bt} {vol room : List Int} {fl : List (List Int)} (h : TkOk y l vol room fl) (b : Nat) : -2000000000000000000 ≤ leftF vol fl b ∧ leftF vol fl b ≤ 2000000000000000000 := by
 have e4 := h.hP
 have h1 : 0 ≤ vol.getD b 0 ∧ vol.getD b 0 ≤ 100000000000000000 := by
  rw [List.getD]
  cases hx : vol[b]? with
  | none => simp
  | some x => exact h.vb x (List.mem_of_getElem? hx)
 have h2 : 0 ≤ (fl.getD b []).sum ∧ (fl.getD b []).sum ≤ (fl.getD b []).length * 100000000000000000 := sum_bd fun x hx => by
  rw [List.getD] at hx
  cases hr : fl[b]? with
  | none => rw [hr] at hx; simp at hx
  | some r => rw [hr] at hx; exact okFl_cell h.fb (List.mem_of_getElem? hr) hx
 have h3 : (fl.getD b []).length ≤ 8 := by
  rw [List.getD]
  cases hr : fl[b]? with
  | none => simp
  | some r => have := h.row r (List.mem_of_getElem? hr); simp; omega
 unfold leftF
 omega
theorem free_bd {y : Yd} {l : List Bt} {vol room : List Int} {fl : List (List Int)} (h : TkOk y l vol room fl) (p : Nat) : -2000000000000000000 ≤ freeF room fl p ∧ freeF room fl p ≤ 2000000000000000000 := by
 have e3 := h.hL
 have e2 := h.hf
 have h1 : 0 ≤ room.getD p 0 ∧ room.getD p 0 ≤ 100000000000000000 := by
  rw [List.getD]
  cases hx : room[p]? with
  | none => simp
  | some x => exact h.rb x (List.mem_of_getElem? hx)
 have h2 := sum_bd (M := 100000000000000000) (r := fl.map fun r => r.getD p 0) fun x hx => by
  obtain ⟨r, hr, rfl⟩ := List.mem_map.1 hx
  rw [List.getD]
  cases hx : r[p]? with
  | none => simp
  | some x => exact okFl_cell h.fb hr (List.mem_of_getElem? hx)
 rw [List.length_map] at h2
 unfold freeF
 omega
theorem xv_pushNo {y : Yd} {l : List Bt} {vol room : List Int} {fl : List (List Int)} (h : TkOk y l vol room fl) {n : Nat} {w : Rs} (hw : reachF (accF y l) y.pits.length l.length n vol fl = some w) (hn : n ≤ 1000) {pit : Nat} (hp : pit < y.pits.length)
 (hno : hasN w.ps pit = false ∨ freeF room fl pit = 0) : EvX Tryz.prog 87 [.ptr 1000 0, .d (iD pit)] (tkX y l vol room fl) (.d (.bool false)) (tkX y l vol room fl) := by
 have hR := xv_reached h hw hn
 have hF := xv_free h hp
 have hm := mget_mapD pit w.ps
 unfold tkX at hR hF ⊢
 have hR := hR.rn [(9, 16), (2009, 2016)] rfl
 cases hk : hasN w.ps pit with
 | false =>
  rw [hk, if_neg (by decide)] at hm
  refine evx_of_awp tysOk mixed (fn := Tryz.f87) Tryz.func87 rfl rfl rfl ?_
  conv => whnf
  repeat' (first|((with_reducible refine Need.mk ?_ ?_);(first|omega|rfl|decide|(refine ⟨?_,?_⟩<;>simp<;>omega)|(simp;omega));conv=>whnf)|((with_reducible refine AltK.r ?_);(conv=>whnf);(first|(refine CallX.mk _ _ (hR) rfl ?_)|(refine CallX.mk _ _ (hF) rfl ?_));conv=>whnf)|fail)
  refine LookK.mk (fun v hv => ?_) (fun hv => ?_)
  ·rw [hm] at hv; cases hv
  ·conv => whnf
   repeat' (first|((with_reducible first|refine Split.of_true ?_|refine Split.of_false ?_);conv=>whnf)|(with_reducible refine Split.neg ?_)|fail)
   all_goals first
    |(exfalso; contradiction)
    | exact ⟨⟨[], (by refine ⟨?_, ?_, rfl⟩<;>(repeat' (first|exact True.intro|exact rfl|(refine ⟨?_,?_⟩)|(intro h;cases h;done)|(simp;done)|fail));done)⟩, rfl⟩
 | true =>
  rw [hk, if_pos rfl] at hm
  have hf0 : freeF room fl pit = 0 := by
   rcases hno with h | h
   ·rw [hk] at h; cases h
   ·exact h
  rw [hf0] at hF
  refine evx_of_awp tysOk mixed (fn := Tryz.f87) Tryz.func87 rfl rfl rfl ?_
  conv => whnf
  repeat' (first|((with_reducible refine Need.mk ?_ ?_);(first|omega|rfl|decide|(refine ⟨?_,?_⟩<;>simp<;>omega)|(simp;omega));conv=>whnf)|((with_reducible refine AltK.r ?_);(conv=>whnf);(first|(refine CallX.mk _ _ (hR) rfl ?_)|(refine CallX.mk _ _ (hF) rfl ?_));conv=>whnf)|fail)
  refine LookK.mk (fun v hv => ?_) (fun hv => ?_)
  ·conv => whnf
   repeat' (first|((with_reducible refine Split.of_true ?_);conv=>whnf)|(with_reducible refine Split.neg ?_)|((with_reducible refine Split.is_true ?_ ?_);decide;conv=>whnf)|((with_reducible refine AltK.r ?_);(conv=>whnf);(first|(refine CallX.mk _ _ (hF) rfl ?_));conv=>whnf)|fail)
   all_goals first
    |(exfalso; contradiction)
    | exact ⟨⟨[], (by refine ⟨?_, ?_, rfl⟩<;>(repeat' (first|exact True.intro|exact rfl|(refine ⟨?_,?_⟩)|(intro h;cases h;done)|(simp;done)|fail));done)⟩, rfl⟩
  ·rw [hm] at hv; cases hv
theorem addF_len {fl : List (List Int)} {b p : Nat} {a : Int} : (addF fl b p a).length = fl.length := by rw [addF, List.length_set]
theorem addF_row {fl : List (List Int)} {b p P : Nat} {a : Int} (h : ∀ r ∈ fl, r.length = P) : ∀ r ∈ addF fl b p a, r.length = P := by
 intro r hr
 rw [addF] at hr
 rcases List.mem_or_eq_of_mem_set hr with h1 | h1
 ·exact h r h1
 ·by_cases hb : b < fl.length
  ·rw [h1, List.length_set, List.getD, List.getElem?_eq_getElem hb]
   exact h _ (List.getElem_mem hb)
  ·rw [List.set_eq_of_length_le (by omega)] at hr
   exact h r hr
theorem apSt_len {fl : List (List Int)} {a : Int} {x : Int × Int × Int} : (apSt a fl x).length = fl.length := by
 unfold apSt
 split
 ·rw [addF_len, addF_len]
 ·rw [addF_len]
theorem apSt_row {fl : List (List Int)} {P : Nat} {a : Int} {x : Int × Int × Int} (h : ∀ r ∈ fl, r.length = P) : ∀ r ∈ apSt a fl x, r.length = P := by
 unfold apSt
 split
 ·exact addF_row (addF_row h)
 ·exact addF_row h
theorem apF_keep {P L : Nat} {a : Int} : ∀ {st : List (Int × Int × Int)} {fl fl' : List (List Int)}, apF P L a fl st = some fl' → okFl fl = true → (∀ r ∈ fl, r.length = P) → fl'.length = fl.length ∧ (∀ r ∈ fl', r.length = P) ∧ okFl fl' = true
 | [], fl, fl', h, h1, h2 => by rw [apF] at h; cases h; exact ⟨rfl, h2, h1⟩
 | x :: r, fl, fl', h, h1, h2 => by
  rw [apF] at h
  split at h
  ·rename_i hx
   obtain ⟨k1, k2, k3⟩ := apF_keep h hx.2 (apSt_row h2)
   exact ⟨k1.trans apSt_len, k2, k3⟩
  ·cases h
theorem pathF_at {P L : Nat} {vol : List Int} {fl : List (List Int)} {w : Rs} {n p : Nat} {a : Int} {st : List (Int × Int × Int)} {fin : Int} (h : pathF P L vol fl w n p a = some (st, fin)) :
 ∃ m b f, n = m + 1 ∧ hasN w.ps p = true ∧ getZ w.ps p = (b : Nat) ∧ b < L ∧ hasN w.bs b = true ∧ getZ w.bs b = f ∧ f < P ∧
  ((f < 0 ∧ st = [((b : Int), (p : Int), f)] ∧ fin = minI a (leftF vol fl b)) ∨ (0 ≤ f ∧ ∃ r, st = ((b : Int), (p : Int), f) :: r ∧ pathF P L vol fl w m f.toNat (minI a (cellZ fl b f.toNat)) = some (r, fin))) := by
 cases n with
 | zero => rw [pathF] at h; cases h
 | succ m =>
  rw [pathF] at h
  split at h
  ·rename_i hc
   obtain ⟨h1, h2, h3, h4, h5⟩ := hc
   have hb : getZ w.ps p = ((getZ w.ps p).toNat : Nat) := by omega
   refine ⟨m, (getZ w.ps p).toNat, _, rfl, h1, hb, by omega, h4, rfl, h5, ?_⟩
   split at h
   ·rename_i hf
    cases h
    exact .inl ⟨hf, by rw [← hb], rfl⟩
   ·rename_i hf
    split at h
    ·rename_i r hr
     cases h
     exact .inr ⟨by omega, r.1, by rw [← hb], hr⟩
    ·cases h
  ·cases h
theorem minI_bd {a b : Int} (ha : -2000000000000000000 ≤ a ∧ a ≤ 2000000000000000000) (hb : -2000000000000000000 ≤ b ∧ b ≤ 2000000000000000000) : -2000000000000000000 ≤ minI a b ∧ minI a b ≤ 2000000000000000000 := by
 unfold minI
 split
 ·exact hb
 ·exact ha
theorem xv_pushYes {y : Yd} {l : List Bt} {vol room : List Int} {fl fl' : List (List Int)} (h : TkOk y l vol room fl) {n : Nat} {w : Rs} (hw : reachF (accF y l) y.pits.length l.length n vol fl = some w) (hn : n ≤ 1000) {pit : Nat} (hp : pit < y.pits.length)
 (hk : hasN w.ps pit = true) (hf0 : freeF room fl pit ≠ 0) {st : List (Int × Int × Int)} {fin : Int} (hpa : pathF y.pits.length l.length vol fl w n pit (freeF room fl pit) = some (st, fin)) (hap : apF y.pits.length l.length fin fl st = some fl') :
 EvX Tryz.prog 87 [.ptr 1000 0, .d (iD pit)] (tkX y l vol room fl) (.d (.bool true)) (tkX y l vol room fl') := by
 have hR := xv_reached h hw hn
 have hF := xv_free h hp
 have hLf := fun (b : Nat) (hb : b < l.length) => xv_left h hb
 have hm := mget_mapD pit w.ps
 have hfb := free_bd h pit
 have hlb := left_bd h
 have e1 := h.hv
 have e2 := h.hf
 have e3 := h.hL
 have e4 := h.hP
 have efl : fl'.length = fl.length := (apF_keep hap h.fb h.row).1
 unfold tkX at hR hF hLf ⊢
 rw [efl]
 have hR := hR.rn [(9, 16), (2009, 2016)] rfl
 rw [hk, if_pos rfl] at hm
 generalize freeF room fl pit = f0 at *
 refine evx_of_awp tysOk mixed (fn := Tryz.f87) Tryz.func87 rfl rfl rfl ?_
 conv => whnf
 repeat' (first|((with_reducible refine Need.mk ?_ ?_);(first|omega|rfl|decide|(refine ⟨?_,?_⟩<;>simp<;>omega)|(simp;omega));conv=>whnf)|((with_reducible refine AltK.r ?_);(conv=>whnf);(first|(refine CallX.mk _ _ (hR) rfl ?_)|(refine CallX.mk _ _ (hF) rfl ?_));conv=>whnf)|fail)
 refine LookK.mk (fun v hv => ?_) (fun hv => ?_)
 case refine_2 => rw [hm] at hv; cases hv
 conv => whnf
 repeat' (first|((with_reducible refine Split.of_true ?_);conv=>whnf)|(with_reducible refine Split.neg ?_)|((with_reducible refine Split.eqz (fun _=>?_) (fun _=>?_))<;>conv=>whnf)|((with_reducible refine AltK.r ?_);(conv=>whnf);(first|(refine CallX.mk _ _ (hF) rfl ?_));conv=>whnf)|(exfalso;first|omega|contradiction)|fail)
 refine LoopK.o3 (fun x : Nat × Nat × Int × List (Int × Int × Int) => (∃ r, pathF y.pits.length l.length vol fl w x.1 x.2.1 x.2.2.1 = some (r, fin) ∧ st = x.2.2.2 ++ r) ∧ -2000000000000000000 ≤ x.2.2.1 ∧ x.2.2.1 ≤ 2000000000000000000 ∧ x.2.2.2.length + x.1 = n)
  (fun x => [(8, .own 200 3 (x.2.2.2.map stD).length), (9, .d (iD x.2.2.1)), (10, .d (iD x.2.1))]) (fun x => [(200, .row 160 3 (x.2.2.2.map stD) false)]) (fun x => x.1) (n, pit, f0, []) ⟨⟨st, hpa, rfl⟩, by dsimp only;omega, by dsimp only;omega, by simp⟩ (by refine ⟨?_, ?_, rfl⟩<;>(repeat' (first|exact True.intro|exact rfl|(refine ⟨?_,?_⟩)|(intro h;cases h;done)|(simp;done)|fail));done) ?_
 rintro ⟨m, p, a, pre⟩ ⟨⟨rst, hpt, hst⟩, ha1, ha2, hml⟩
 dsimp only at hpt hst ha1 ha2 hml ⊢
 obtain ⟨m', b, f, hmm, k1, k2, k3, k4, k5, k6, hor⟩ := pathF_at hpt
 have hc := hLf b k3
 have hlbb := hlb b
 have hq1 := mget_mapD p w.ps
 rw [k1, if_pos rfl, k2] at hq1
 have hq2 := mget_mapD b w.bs
 rw [k4, if_pos rfl, k5] at hq2
 have hpl : (pre.map stD).length = pre.length := List.length_map _
 rcases hor with ⟨hneg, hr, hfin⟩ | ⟨hpos, r, hr, hpt'⟩
 ·subst hr
  have hsn : pre.map stD ++ D.agg [iD (b : Int), iD (p : Int), iD f] :: List.replicate 0 (D.agg [.int .i64 0, .int .i64 0, .int .i64 0]) = st.map stD := by rw [hst]; simp [stD]
  have hmb := minI_bd (a := a) (b := leftF vol fl b) ⟨ha1, ha2⟩ hlbb
  rw [← hfin] at hmb
  generalize leftF vol fl b = lf at *
  conv => whnf
  repeat' (first|((with_reducible refine Need.mk ?_ ?_);(first|omega|rfl|decide|(refine ⟨?_,?_⟩<;>simp<;>omega)|(simp;omega));conv=>whnf)|fail)
  refine LookK.mk (fun v hv => ?_) (fun hv => ?_)
  case refine_2 => rw [hq1] at hv; cases hv
  rw [hq1] at hv; cases hv
  conv => whnf
  repeat' (first|((with_reducible refine Need.mk ?_ ?_);(first|omega|rfl|decide|(refine ⟨?_,?_⟩<;>simp<;>omega)|(simp;omega));conv=>whnf)|fail)
  refine LookK.mk (fun v hv => ?_) (fun hv => ?_)
  case refine_2 => rw [hq2] at hv; cases hv
  rw [hq2] at hv; cases hv
  conv => whnf
  repeat' (first|((with_reducible refine Split.dec (fun _=>?_) (fun _=>?_))<;>conv=>whnf)|((with_reducible refine Need.mk ?_ ?_);(first|omega|rfl|decide|(refine ⟨?_,?_⟩<;>simp<;>omega)|(simp;omega));conv=>whnf)|((with_reducible refine AltK.r ?_);(conv=>whnf);(first|(refine CallX.mk _ _ (hc) rfl ?_));conv=>whnf)|(exfalso;first|omega|contradiction)|fail)
  all_goals first
   |(exfalso; omega)
   | skip
  rw [hsn, ← hfin]
  have hstN : st.length ≤ 1001 := by rw [hst]; simp only [List.length_append, List.length_singleton]; omega
  clear hq1 hq2 hlbb hsn hpl hst hpt hfin hc hm
  have hstl : (st.map stD).length = st.length := List.length_map _
  refine LoopK.o3 (fun x : Nat × List (List Int) => x.1 ≤ st.length ∧ apF y.pits.length l.length fin x.2 (st.drop x.1) = some fl' ∧ okFl x.2 = true ∧ x.2.length = fl.length ∧ ∀ r ∈ x.2, r.length = y.pits.length)
   (fun x => [(73, .d (iD x.1))]) (fun x => [(1003, .mat 25 3 0 (x.2.map fun r => some (r.map iD)))]) (fun x => st.length - x.1) (0, fl) ⟨by omega, hap, h.fb, rfl, h.row⟩ (by refine ⟨?_, ?_, rfl⟩<;>(repeat' (first|exact True.intro|exact rfl|(refine ⟨?_,?_⟩)|(intro h;cases h;done)|(simp;done)|fail));done) ?_
  rintro ⟨i, fc⟩ ⟨hi, hac, hok, hfl, hrow⟩
  dsimp only at hi hac hok hfl hrow ⊢
  by_cases hil : i < st.length
  ·obtain ⟨⟨b', p', f'⟩, hx⟩ := some_of_lt hil
   rw [drop_of hx, apF] at hac
   split at hac
   case isFalse => cases hac
   rename_i hst
   obtain ⟨hst, hok'⟩ := hst
   simp only [stepOk, Bool.and_eq_true, decide_eq_true_eq] at hst
   obtain ⟨⟨⟨⟨s1, s2⟩, s3⟩, s4⟩, s5⟩ := hst
   obtain ⟨bn, rfl⟩ := Int.eq_ofNat_of_zero_le s1
   obtain ⟨pn, rfl⟩ := Int.eq_ofNat_of_zero_le s3
   obtain ⟨row, hrow1⟩ := some_of_lt (show bn < fc.length by omega)
   have hrm := List.mem_of_getElem? hrow1
   have hrl := hrow row hrm
   obtain ⟨c, hc⟩ := some_of_lt (show pn < row.length by omega)
   have hcb := okFl_cell hok hrm (List.mem_of_getElem? hc)
   have hlf : (fc.map fun r => some (r.map iD)).length = fc.length := List.length_map _
   have hlr : (row.map iD).length = row.length := List.length_map _
   have ead : addF fc bn pn fin = fc.set bn (row.set pn (c + fin)) := by simp [addF, cellZ, List.getD, hrow1, hc]
   have hmp1 : (fc.map fun r => some (r.map iD)).set bn (some ((row.map iD).set pn (iD (c + fin)))) = (addF fc bn pn fin).map fun r => some (r.map iD) := by
    rw [ead, List.map_set, List.map_set]
   by_cases hf : 0 ≤ f'
   ·obtain ⟨fn, rfl⟩ := Int.eq_ofNat_of_zero_le hf
    have eap : apSt fin fc ((bn : Int), (pn : Int), (fn : Int)) = addF (addF fc bn pn fin) bn fn (-fin) := by rw [apSt]; simp
    have hr2 : (addF fc bn pn fin)[bn]? = some (row.set pn (c + fin)) := by rw [ead, List.getElem?_set_self (by omega)]
    obtain ⟨c2, hc2⟩ := some_of_lt (show fn < (row.set pn (c + fin)).length by rw [List.length_set]; omega)
    have hcb2 : -2200000000000000000 ≤ c2 ∧ c2 ≤ 2200000000000000000 := by
     rcases List.mem_or_eq_of_mem_set (List.mem_of_getElem? hc2) with h1 | h1
     ·have := okFl_cell hok hrm h1; omega
     ·omega
    have ead2 : addF (addF fc bn pn fin) bn fn (-fin) = (addF fc bn pn fin).set bn ((row.set pn (c + fin)).set fn (c2 - fin)) := by
     have e1 : (addF fc bn pn fin).getD bn [] = row.set pn (c + fin) := by rw [List.getD, hr2]; rfl
     have e2 : cellZ (addF fc bn pn fin) bn fn = c2 := by rw [cellZ, e1, List.getD, hc2]; rfl
     rw [addF, e1, e2]; rfl
    have hmp2 : ((fc.map fun r => some (r.map iD)).set bn (some ((row.map iD).set pn (iD (c + fin)))))[bn]? = some (some ((row.set pn (c + fin)).map iD)) := by
     rw [hmp1, List.getElem?_map, hr2]; rfl
    have hxD : (st.map stD)[(i : Int).toNat]? = some (D.agg [iD (bn : Int), iD (pn : Int), iD (fn : Int)]) := by rw [Int.toNat_natCast, List.getElem?_map, hx]; rfl
    conv => whnf
    repeat' (first|((refine PickE.map fn hc2 (by omega) ?_);conv=>whnf)|((refine PickR.mk _ hmp2 ?_);conv=>whnf)|((refine PickE.map pn hc (by omega) ?_);conv=>whnf)|((refine PickR.map bn hrow1 (by omega) ?_);conv=>whnf)|((refine PickE.mk _ hxD ?_);conv=>whnf)|((with_reducible refine Split.dec (fun _=>?_) (fun _=>?_))<;>conv=>whnf)|((with_reducible refine Need.mk ?_ ?_);(first|omega|rfl|decide|(refine ⟨?_,?_⟩<;>simp<;>omega)|(simp;omega));conv=>whnf)|((with_reducible refine Wr.inr ?_ ?_);(first|omega|(simp;omega));conv=>whnf)|(exfalso;first|omega|contradiction)|fail)
    refine Again.av (i + 1, apSt fin fc ((bn : Int), (pn : Int), (fn : Int))) ⟨by dsimp only; omega, hac, hok', by dsimp only; rw [apSt_len]; exact hfl, by dsimp only; exact apSt_row hrow⟩ (by dsimp only; omega) ?_
    dsimp only
    have hmp3 : ((fc.map fun r => some (r.map iD)).set bn (some ((row.map iD).set pn (iD (c + fin))))).set bn (some (((row.set pn (c + fin)).map iD).set fn (iD (c2 - fin)))) = (apSt fin fc ((bn : Int), (pn : Int), (fn : Int))).map fun r => some (r.map iD) := by
     rw [hmp1, eap, ead2]; simp only [List.map_set]
    exact (by refine ⟨?_, ?_, rfl⟩<;>(repeat' (first|exact True.intro|exact rfl|(refine ⟨?_,?_⟩)|(intro h;cases h;done)|(simp;done)|exact hmp3|fail));done)
   ·have eap : apSt fin fc ((bn : Int), (pn : Int), f') = addF fc bn pn fin := by rw [apSt, if_neg hf]; rfl
    have hxD : (st.map stD)[(i : Int).toNat]? = some (D.agg [iD (bn : Int), iD (pn : Int), iD f']) := by rw [Int.toNat_natCast, List.getElem?_map, hx]; rfl
    conv => whnf
    repeat' (first|((refine PickE.map pn hc (by omega) ?_);conv=>whnf)|((refine PickR.map bn hrow1 (by omega) ?_);conv=>whnf)|((refine PickE.mk _ hxD ?_);conv=>whnf)|((with_reducible refine Split.dec (fun _=>?_) (fun _=>?_))<;>conv=>whnf)|((with_reducible refine Need.mk ?_ ?_);(first|omega|rfl|decide|(refine ⟨?_,?_⟩<;>simp<;>omega)|(simp;omega));conv=>whnf)|((with_reducible refine Wr.inr ?_ ?_);(first|omega|(simp;omega));conv=>whnf)|(exfalso;first|omega|contradiction)|fail)
    all_goals first
     |(exfalso; omega)
     | skip
    refine Again.av (i + 1, apSt fin fc ((bn : Int), (pn : Int), f')) ⟨by dsimp only; omega, hac, hok', by dsimp only; rw [apSt_len]; exact hfl, by dsimp only; exact apSt_row hrow⟩ (by dsimp only; omega) ?_
    dsimp only
    rw [eap]
    exact (by refine ⟨?_, ?_, rfl⟩<;>(repeat' (first|exact True.intro|exact rfl|(refine ⟨?_,?_⟩)|(intro h;cases h;done)|(simp;done)|exact hmp1|fail));done)
  ·have hie : i = st.length := by omega
   subst hie
   rw [List.drop_length, apF] at hac
   cases hac
   conv => whnf
   repeat' (first|((with_reducible refine Split.dec (fun _=>?_) (fun _=>?_))<;>conv=>whnf)|((with_reducible refine Need.mk ?_ ?_);(first|omega|rfl|decide|(refine ⟨?_,?_⟩<;>simp<;>omega)|(simp;omega));conv=>whnf)|(exfalso;first|omega|contradiction)|fail)
   exact ⟨⟨[], (by refine ⟨?_, ?_, rfl⟩<;>(repeat' (first|exact True.intro|exact rfl|(refine ⟨?_,?_⟩)|(intro h;cases h;done)|(simp;done)|fail));done)⟩, rfl⟩
 ·subst hr
  obtain ⟨row, hrow⟩ := some_of_lt (show b < fl.length by omega)
  have hrm := List.mem_of_getElem? hrow
  have hrl := h.row row hrm
  obtain ⟨x, hx⟩ := some_of_lt (show f.toNat < row.length by omega)
  have hxb := okFl_cell h.fb hrm (List.mem_of_getElem? hx)
  have hcx : cellZ fl b f.toNat = x := by simp [cellZ, List.getD, hrow, hx]
  rw [hcx] at hpt'
  have hmb := minI_bd (a := a) (b := x) ⟨ha1, ha2⟩ (by omega)
  have hlf : (fl.map fun r => some (r.map iD)).length = fl.length := List.length_map _
  have hlr : (row.map iD).length = row.length := List.length_map _
  have hmp1 : pre.map stD ++ D.agg [iD (b : Int), iD (p : Int), iD f] :: List.replicate 0 (D.agg [.int .i64 0, .int .i64 0, .int .i64 0]) = (pre ++ [((b : Int), (p : Int), f)]).map stD := by simp [stD]
  have hfe : (f.toNat : Int) = f := by omega
  conv => whnf
  repeat' (first|((with_reducible refine Need.mk ?_ ?_);(first|omega|rfl|decide|(refine ⟨?_,?_⟩<;>simp<;>omega)|(simp;omega));conv=>whnf)|fail)
  refine LookK.mk (fun v hv => ?_) (fun hv => ?_)
  case refine_2 => rw [hq1] at hv; cases hv
  rw [hq1] at hv; cases hv
  conv => whnf
  repeat' (first|((with_reducible refine Need.mk ?_ ?_);(first|omega|rfl|decide|(refine ⟨?_,?_⟩<;>simp<;>omega)|(simp;omega));conv=>whnf)|fail)
  refine LookK.mk (fun v hv => ?_) (fun hv => ?_)
  case refine_2 => rw [hq2] at hv; cases hv
  rw [hq2] at hv; cases hv
  conv => whnf
  repeat' (first|((refine PickE.map f.toNat hx (by omega) ?_);conv=>whnf)|((refine PickR.map b hrow (by omega) ?_);conv=>whnf)|((with_reducible refine Split.dec (fun _=>?_) (fun _=>?_))<;>conv=>whnf)|((with_reducible refine Need.mk ?_ ?_);(first|omega|rfl|decide|(refine ⟨?_,?_⟩<;>simp<;>omega)|(simp;omega));conv=>whnf)|(exfalso;first|omega|contradiction)|fail)
  all_goals first
   |(exfalso; omega)
   | skip
  refine Again.av (m', f.toNat, minI a x, pre ++ [((b : Int), (p : Int), f)]) ⟨⟨r, hpt', by rw [hst]; simp⟩, hmb.1, hmb.2, by simp only [List.length_append, List.length_singleton]; omega⟩ (by dsimp only; omega) ?_
  dsimp only
  rw [hfe]
  exact (by refine ⟨?_, ?_, rfl⟩<;>(repeat' (first|exact True.intro|exact rfl|(refine ⟨?_,?_⟩)|(intro h;cases h;done)|(refine own_congr ?_;simp;done)|(simp;done)|exact hmp1|fail));done)
end Go.Proofs.Tryz
end

section
namespace Go.Proofs.Tryz
open Go Go.Vm
set_option maxRecDepth 20000
set_option maxHeartbeats 8000000
/-! The task: pits in the order of their prices. -/
def cmpZ (a b : Int) : Int := if a < b then -1 else if b < a then 1 else 0
theorem ev_isNaNi (x : Int) : Ev Tryz.prog 105 [iD x] (.bool false) := by
 refine ev_of_awp tysOk mixed (fn := Tryz.f105) Tryz.func105 rfl rfl rfl ?_
 conv => whnf
 skip
 all_goals first
  |(simp [retOf]; done)
  |(exfalso; omega)
theorem ev_CompareI (x y : Int) : Ev Tryz.prog 86 [iD x, iD y] (iD (cmpZ x y)) := by
 have h1 := ev_isNaNi x
 have h2 := ev_isNaNi y
 unfold cmpZ
 refine ev_of_awp tysOk mixed (fn := Tryz.f86) Tryz.func86 rfl rfl rfl ?_
 conv => whnf
 repeat' (first|((with_reducible refine Split.of_false ?_);conv=>whnf)|((with_reducible refine Split.dec (fun _=>?_) (fun _=>?_))<;>conv=>whnf)|((with_reducible refine AltK.l ?_);(conv=>whnf);(first|(refine CallK.mk _ (h1) ?_)|(refine CallK.mk _ (h2) ?_));conv=>whnf)|fail)
 ·rw [if_pos (by assumption)]; rfl
 ·rw [if_neg (by omega), if_pos (by omega)]; rfl
 ·rw [if_neg (by omega), if_neg (by omega)]; rfl
def priceF (y : Yd) (p : Nat) : Int := match y.pits[p]? with
 | some q => q.price
 | none => 0
def cmX : List (Nat × Bx) := [(1011, .var [.ptr 1000 0] false)]
theorem xv_cmp {y : Yd} {l : List Bt} {vol room : List Int} {fl : List (List Int)} {a b : Nat} (ha : a < y.pits.length) (hb : b < y.pits.length) :
 EvX Tryz.prog 85 [.d (nD a), .d (nD b), .ptr 1011 0] (tkX y l vol room fl ++ cmX) (.d (iD (cmpZ (priceF y a) (priceF y b)))) (tkX y l vol room fl ++ cmX) := by
 obtain ⟨p, hp⟩ := some_of_lt ha
 obtain ⟨q, hq⟩ := some_of_lt hb
 have hlp : (y.pits.map ptD).length = y.pits.length := List.length_map _
 have e1 : priceF y a = p.price := by simp [priceF, hp]
 have e2 : priceF y b = q.price := by simp [priceF, hq]
 rw [e1, e2]
 have hc := ev_CompareI p.price q.price
 unfold tkX cmX
 refine evx_of_awp tysOk mixed (fn := Tryz.f85) Tryz.func85 rfl rfl rfl ?_
 conv => whnf
 repeat' (first|((refine PickE.map b hq (by omega) ?_);conv=>whnf)|((refine PickE.map a hp (by omega) ?_);conv=>whnf)|((with_reducible refine Need.mk ?_ ?_);(first|omega|rfl|decide|(refine ⟨?_,?_⟩<;>simp<;>omega)|(simp;omega));conv=>whnf)|((with_reducible refine AltK.l ?_);(conv=>whnf);(first|(refine CallK.mk _ (hc) ?_));conv=>whnf)|fail)
 exact ⟨⟨[], (by refine ⟨?_, ?_, rfl⟩<;>(repeat' (first|exact True.intro|exact rfl|(refine ⟨?_,?_⟩)|(intro h;cases h;done)|(simp;done)|fail));done)⟩, rfl⟩
def insR (pr : Nat → Int) (x : Nat) : List Nat → List Nat
 | [] => [x]
 | a :: r => if pr x < pr a then a :: insR pr x r else x :: a :: r
def sortGo (pr : Nat → Int) : List Nat → List Nat → List Nat
 | R, [] => R.reverse
 | R, x :: r => sortGo pr (insR pr x R) r
theorem insR_len {pr : Nat → Int} {x : Nat} : ∀ {R : List Nat}, (insR pr x R).length = R.length + 1
 | [] => rfl
 | a :: r => by
  rw [insR]
  split
  ·simp [insR_len]
  ·simp
theorem insR_mem {pr : Nat → Int} {x z : Nat} : ∀ {R : List Nat}, z ∈ insR pr x R ↔ z = x ∨ z ∈ R
 | [] => by simp [insR]
 | a :: r => by
  rw [insR]
  split
  ·rw [List.mem_cons, insR_mem (R := r), List.mem_cons]
   constructor
   ·rintro (h | h | h)
    ·exact .inr (.inl h)
    ·exact .inl h
    ·exact .inr (.inr h)
   ·rintro (h | h | h)
    ·exact .inr (.inl h)
    ·exact .inl h
    ·exact .inr (.inr h)
  ·simp
theorem xv_insert {y : Yd} {l : List Bt} {vol room : List Int} {fl : List (List Int)} (s : List Nat) (hs : ∀ x ∈ s, x < y.pits.length) (hl : s.length ≤ 8) :
 EvX Tryz.prog 122 [.own 1010 1 (s.map nD).length, .d (iD 0), .d (iD s.length), .fnv 85 [.box 1011]]
  (tkX y l vol room fl ++ cmX ++ [(1010, .row 3 1 (s.map nD) false)]) (.tup []) (tkX y l vol room fl ++ cmX ++ [(1010, .row 3 1 ((sortGo (priceF y) [] s).map nD) false)]) := by
 have hC := fun (a b : Nat) (ha : a < y.pits.length) (hb : b < y.pits.length) => xv_cmp (l := l) (vol := vol) (room := room) (fl := fl) ha hb
 have hsl : (s.map nD).length = s.length := List.length_map _
 unfold tkX cmX at hC ⊢
 cases s with
 | nil =>
  refine evx_of_awp tysOk mixed (fn := Tryz.f122) Tryz.func122 rfl rfl rfl ?_
  conv => whnf
  repeat' (first|((with_reducible refine Wr.inr ?_ ?_);(first|omega|(simp;omega));conv=>whnf)|fail)
  refine LoopK.o3 (fun _ : Unit => True) (fun _ => [(8, .d (iD 1))]) (fun _ => []) (fun _ => 0) () trivial (by refine ⟨?_, ?_, rfl⟩<;>(repeat' (first|exact True.intro|exact rfl|(refine ⟨?_,?_⟩)|(intro h;cases h;done)|(simp;done)|fail));done) ?_
  rintro ⟨⟩ -
  conv => whnf
  repeat' (first|((with_reducible refine Split.is_false ?_ ?_);decide;conv=>whnf)|fail)
  exact ⟨⟨[], (by refine ⟨?_, ?_, rfl⟩<;>(repeat' (first|exact True.intro|exact rfl|(refine ⟨?_,?_⟩)|(intro h;cases h;done)|(simp;done)|fail));done)⟩, rfl⟩
 | cons x0 r0 =>
  have hl0 : ((x0 :: r0).map nD).length = r0.length + 1 := by simp
  have hl1 : (x0 :: r0).length = r0.length + 1 := rfl
  have hmp0 : (x0 :: r0).map nD = ([x0].reverse ++ r0).map nD := rfl
  refine evx_of_awp tysOk mixed (fn := Tryz.f122) Tryz.func122 rfl rfl rfl ?_
  conv => whnf
  repeat' (first|((with_reducible refine Wr.inr ?_ ?_);(first|omega|(simp;omega));conv=>whnf)|fail)
  refine LoopK.o3 (fun x : List Nat × List Nat => sortGo (priceF y) x.1 x.2 = sortGo (priceF y) [] (x0 :: r0) ∧ x.1.length + x.2.length = r0.length + 1 ∧ (∀ z ∈ x.1, z < y.pits.length) ∧ (∀ z ∈ x.2, z < y.pits.length))
   (fun x => [(8, .d (iD x.1.length))]) (fun x => [(1010, .row 3 1 ((x.1.reverse ++ x.2).map nD) false)]) (fun x => x.2.length) ([x0], r0)
   ⟨rfl, by simp only [List.length_singleton];omega, fun z hz => hs z (by simp at hz;simp [hz]), fun z hz => hs z (List.mem_cons_of_mem _ hz)⟩ (by refine ⟨?_, ?_, rfl⟩<;>(repeat' (first|exact True.intro|exact rfl|(refine ⟨?_,?_⟩)|(intro h;cases h;done)|(simp;done)|fail));done) ?_
  rintro ⟨R, rest⟩ ⟨hgo, hlen, hR, hrest⟩
  dsimp only at hgo hlen hR hrest ⊢
  cases rest with
  | nil =>
   have e0 : ((R.reverse ++ []).map nD).length = R.length := by simp
   have e1 : ([] : List Nat).length = 0 := rfl
   have hmp1 : (R.reverse ++ []).map nD = (sortGo (priceF y) [] (x0 :: r0)).map nD := by rw [← hgo, sortGo, List.append_nil]
   conv => whnf
   repeat' (first|((with_reducible refine Split.dec (fun _=>?_) (fun _=>?_))<;>conv=>whnf)|(exfalso;first|omega|contradiction)|fail)
   exact ⟨⟨[], (by refine ⟨?_, ?_, rfl⟩<;>(repeat' (first|exact True.intro|exact rfl|(refine ⟨?_,?_⟩)|(intro h;cases h;done)|(simp;done)|exact hmp1|fail));done)⟩, rfl⟩
  | cons x r =>
   rw [sortGo] at hgo
   have e0 : ((R.reverse ++ x :: r).map nD).length = R.length + (r.length + 1) := by simp
   have e1 : (x :: r).length = r.length + 1 := rfl
   have hxP := hrest x (by simp)
   have hmp2 : (R.reverse ++ x :: r).map nD = (R.reverse ++ x :: ([] ++ r)).map nD := rfl
   conv => whnf
   repeat' (first|((with_reducible refine Split.dec (fun _=>?_) (fun _=>?_))<;>conv=>whnf)|(exfalso;first|omega|contradiction)|fail)
   refine LoopK.o3 (fun z : List Nat × List Nat => z.2.reverse ++ insR (priceF y) x z.1 = insR (priceF y) x R ∧ z.1.length + z.2.length = R.length ∧ (∀ q ∈ z.1, q < y.pits.length))
    (fun z => [(9, .d (iD z.1.length))]) (fun z => [(1010, .row 3 1 ((z.1.reverse ++ x :: (z.2 ++ r)).map nD) false)]) (fun z => z.1.length) (R, []) ⟨rfl, by simp, hR⟩ (by refine ⟨?_, ?_, rfl⟩<;>(repeat' (first|exact True.intro|exact rfl|(refine ⟨?_,?_⟩)|(intro h;cases h;done)|(simp;done)|fail));done) ?_
   rintro ⟨A, B⟩ ⟨hins, hAB, hA⟩
   dsimp only at hins hAB hA ⊢
   cases A with
   | nil =>
    have e2 : ([] : List Nat).length = 0 := rfl
    conv => whnf
    repeat' (first|((with_reducible refine Split.of_false ?_);conv=>whnf)|((with_reducible refine Split.is_false ?_ ?_);decide;conv=>whnf)|((with_reducible refine Wr.inr ?_ ?_);(first|omega|(simp;omega));conv=>whnf)|fail)
    have hfin : R.reverse.length = B.length := by rw [List.length_reverse]; omega
    rw [insR] at hins
    have hins' : insR (priceF y) x R = B.reverse ++ [x] := hins.symm
    have hil : ((insR (priceF y) x R).length : Int) = R.length + 1 := by rw [insR_len]; simp
    have hmp3 : (([] : List Nat).reverse ++ x :: (B ++ r)).map nD = ((insR (priceF y) x R).reverse ++ r).map nD := by rw [hins']; simp
    refine Again.av (insR (priceF y) x R, r) ⟨hgo, by rw [insR_len]; dsimp only; omega, fun z hz => (insR_mem.1 hz).elim (fun e => e ▸ hxP) (hR z), fun z hz => hrest z (List.mem_cons_of_mem _ hz)⟩ (by dsimp only; omega) ?_
    dsimp only
    rw [hil]
    exact (by refine ⟨?_, ?_, rfl⟩<;>(repeat' (first|exact True.intro|exact rfl|(refine ⟨?_,?_⟩)|(intro h;cases h;done)|(simp;done)|exact hmp3|fail));done)
   | cons a A =>
    have e2 : (a :: A).length = A.length + 1 := rfl
    have haP := hA a (by simp)
    have e3 : (((a :: A).reverse ++ x :: (B ++ r)).map nD).length = A.length + 2 + (B.length + r.length) := by simp; omega
    have hx1 : ((a :: A).reverse ++ x :: (B ++ r))[A.length + 1]? = some x := by simp
    have ha1 : ((a :: A).reverse ++ x :: (B ++ r))[A.length]? = some a := by simp
    have hc := hC x a hxP haP
    by_cases hlt : priceF y x < priceF y a
    ·have ec : cmpZ (priceF y x) (priceF y a) = -1 := by rw [cmpZ, if_pos hlt]
     rw [ec] at hc
     have i1 : ((a :: A).length : Int).toNat = A.length + 1 := by omega
     have i2 : (((a :: A).length : Int) - 1).toNat = A.length := by omega
     have hset : ((((a :: A).reverse ++ x :: (B ++ r)).map nD).set ((a :: A).length : Int).toNat (nD a))[(((a :: A).length : Int) - 1).toNat]? = some (nD a) := by
      rw [i1, i2, List.getElem?_set_ne (by omega), List.getElem?_map, ha1]; rfl
     have hmp4 : ((((a :: A).reverse ++ x :: (B ++ r)).map nD).set ((a :: A).length : Int).toNat (nD a)).set (((a :: A).length : Int) - 1).toNat (nD x) = (A.reverse ++ x :: ((a :: B) ++ r)).map nD := by
      rw [i1, i2]
      simp
     have hi3 : (A.length : Int) = ((a :: A).length : Int) - 1 := by omega
     conv => whnf
     repeat' (first|((refine PickE.map A.length ha1 (by omega) ?_);conv=>whnf)|((refine PickE.map (A.length + 1) hx1 (by omega) ?_);conv=>whnf)|((refine PickE.mk _ hset ?_);conv=>whnf)|((with_reducible refine Split.of_false ?_);conv=>whnf)|((with_reducible refine Split.is_true ?_ ?_);decide;conv=>whnf)|((with_reducible refine Split.dec (fun _=>?_) (fun _=>?_))<;>conv=>whnf)|((with_reducible refine Need.mk ?_ ?_);(first|omega|rfl|decide|(refine ⟨?_,?_⟩<;>simp<;>omega)|(simp;omega));conv=>whnf)|((with_reducible refine Wr.inr ?_ ?_);(first|omega|(simp;omega));conv=>whnf)|((with_reducible refine AltK.r ?_);(conv=>whnf);(first|(refine CallX.mk _ _ (hc) rfl ?_));conv=>whnf)|(exfalso;first|omega|contradiction)|fail)
     refine Again.av (A, a :: B) ⟨by dsimp only; rw [← hins, insR, if_pos hlt]; simp, by dsimp only; rw [List.length_cons]; omega, fun z hz => hA z (List.mem_cons_of_mem _ hz)⟩ (by dsimp only; omega) ?_
     dsimp only
     rw [hi3]
     exact (by refine ⟨?_, ?_, rfl⟩<;>(repeat' (first|exact True.intro|exact rfl|(refine ⟨?_,?_⟩)|(intro h;cases h;done)|(simp;done)|fail));done)
    ·have ec : ¬ cmpZ (priceF y x) (priceF y a) < 0 := by unfold cmpZ; split <;> (try split) <;> omega
     generalize cmpZ (priceF y x) (priceF y a) = cz at *
     conv => whnf
     repeat' (first|((refine PickE.map A.length ha1 (by omega) ?_);conv=>whnf)|((refine PickE.map (A.length + 1) hx1 (by omega) ?_);conv=>whnf)|((with_reducible refine Split.of_false ?_);conv=>whnf)|((with_reducible refine Split.dec (fun _=>?_) (fun _=>?_))<;>conv=>whnf)|((with_reducible refine Need.mk ?_ ?_);(first|omega|rfl|decide|(refine ⟨?_,?_⟩<;>simp<;>omega)|(simp;omega));conv=>whnf)|((with_reducible refine Wr.inr ?_ ?_);(first|omega|(simp;omega));conv=>whnf)|((with_reducible refine AltK.r ?_);(conv=>whnf);(first|(refine CallX.mk _ _ (hc) rfl ?_));conv=>whnf)|(exfalso;first|omega|contradiction)|fail)
     all_goals first
      |(exfalso; omega)
      | skip
     rw [insR, if_neg hlt] at hins
     have hins' : insR (priceF y) x R = B.reverse ++ x :: a :: A := hins.symm
     have hil : ((insR (priceF y) x R).length : Int) = R.length + 1 := by rw [insR_len]; simp
     have hmp3 : ((a :: A).reverse ++ x :: (B ++ r)).map nD = ((insR (priceF y) x R).reverse ++ r).map nD := by rw [hins']; simp
     refine Again.av (insR (priceF y) x R, r) ⟨hgo, by rw [insR_len]; dsimp only; omega, fun z hz => (insR_mem.1 hz).elim (fun e => e ▸ hxP) (hR z), fun z hz => hrest z (List.mem_cons_of_mem _ hz)⟩ (by dsimp only; omega) ?_
     dsimp only
     rw [hil]
     exact (by refine ⟨?_, ?_, rfl⟩<;>(repeat' (first|exact True.intro|exact rfl|(refine ⟨?_,?_⟩)|(intro h;cases h;done)|(simp;done)|exact hmp3|fail));done)
theorem xv_stable {y : Yd} {l : List Bt} {vol room : List Int} {fl : List (List Int)} (s : List Nat) (hs : ∀ x ∈ s, x < y.pits.length) (hl : s.length ≤ 8) :
 EvX Tryz.prog 104 [.own 1010 1 (s.map nD).length, .d (iD s.length), .fnv 85 [.box 1011]]
  (tkX y l vol room fl ++ cmX ++ [(1010, .row 3 1 (s.map nD) false)]) (.tup []) (tkX y l vol room fl ++ cmX ++ [(1010, .row 3 1 ((sortGo (priceF y) [] s).map nD) false)]) := by
 have hI := xv_insert (l := l) (vol := vol) (room := room) (fl := fl) s hs hl
 have hsl : (s.map nD).length = s.length := List.length_map _
 unfold tkX cmX at hI ⊢
 refine evx_of_awp tysOk mixed (fn := Tryz.f104) Tryz.func104 rfl rfl rfl ?_
 conv => whnf
 skip
 refine LoopK.unr 1 ?_
 conv => whnf
 repeat' (first|((with_reducible refine Split.dec (fun _=>?_) (fun _=>?_))<;>conv=>whnf)|((with_reducible refine AltK.r ?_);(conv=>whnf);(first|(refine CallX.mk _ _ (hI) rfl ?_));conv=>whnf)|(exfalso;first|omega|contradiction)|fail)
 refine LoopK.unr 1 ?_
 conv => whnf
 repeat' (first|((with_reducible refine Split.dec (fun _=>?_) (fun _=>?_))<;>conv=>whnf)|((with_reducible refine Wr.inr ?_ ?_);(first|omega|(simp;omega));conv=>whnf)|(exfalso;first|omega|contradiction)|fail)
 exact ⟨⟨[], (by refine ⟨?_, ?_, rfl⟩<;>(repeat' (first|exact True.intro|exact rfl|(refine ⟨?_,?_⟩)|(intro h;cases h;done)|(simp;done)|fail));done)⟩, rfl⟩
theorem xv_sortStable {y : Yd} {l : List Bt} {vol room : List Int} {fl : List (List Int)} (s : List Nat) (hs : ∀ x ∈ s, x < y.pits.length) (hl : s.length ≤ 8) :
 EvX Tryz.prog 84 [.own 1010 1 (s.map nD).length, .fnv 85 [.box 1011]]
  (tkX y l vol room fl ++ cmX ++ [(1010, .row 3 1 (s.map nD) false)]) (.tup []) (tkX y l vol room fl ++ cmX ++ [(1010, .row 3 1 ((sortGo (priceF y) [] s).map nD) false)]) := by
 have hI := xv_stable (l := l) (vol := vol) (room := room) (fl := fl) s hs hl
 have hsl : (s.map nD).length = s.length := List.length_map _
 rw [← hsl] at hI
 unfold tkX cmX at hI ⊢
 refine evx_of_awp tysOk mixed (fn := Tryz.f84) Tryz.func84 rfl rfl rfl ?_
 conv => whnf
 repeat' (first|((with_reducible refine AltK.r ?_);(conv=>whnf);(first|(refine CallX.mk _ _ (hI) rfl ?_));conv=>whnf)|fail)
 exact ⟨⟨[], (by refine ⟨?_, ?_, rfl⟩<;>(repeat' (first|exact True.intro|exact rfl|(refine ⟨?_,?_⟩)|(intro h;cases h;done)|(simp;done)|fail));done)⟩, rfl⟩
end Go.Proofs.Tryz
end
