/- Texts DpW, joined; what is not needed is left out. -/
import Derived.Test.YtahnaobdihhppaaMgI
import Derived.Test.YtahnaobdihhppaaMgH
import Derived.Test.YtahnaobdihhppaaProg
import Derived.Test.YtahnaobdihhppaaMcc
section
namespace Go.Proofs.Try
open Go Go.Vm
set_option maxRecDepth 20000
set_option maxHeartbeats 40000000
/-! The task: reached (this text is written by gen_reached.py). -/
theorem xv_reached {y : Yd} {l : List Bt} {vol room : List Int} {fl : List (List Int)} (h : TkOk y l vol room fl) {n : Nat} {w : Rs} (hw : reachF (accF y l) y.pits.length l.length n vol fl = some w) (hn : n ≤ 1000) :
    EvX Try.prog 132 [.ptr 1000 0] (tkX y l vol room fl) (.agg [.mp 9, .mp 2009]) (tkX y l vol room fl ++ [(9, .map 3 3 (.int .i64) (mapD w.bs)), (2009, .map 3 3 (.int .i64) (mapD w.ps))]) := by
  have hl1 : (vol.map iD).length = vol.length := List.length_map _
  have hl2 : (l.map btD).length = l.length := List.length_map _
  have e1 := h.hv
  have e2 := h.hf
  have e3 := h.hL
  have e4 := h.hP
  have hlf : (fl.map fun r => some (r.map iD)).length = fl.length := List.length_map _
  have hLf := fun (b : Nat) (hb : b < l.length) => xv_left h hb
  have hAc := fun (p b : Nat) (hp : p < y.pits.length) (hb : b < l.length) => xv_accepts h hp hb
  unfold tkX at hLf hAc ⊢
  refine evx_of_awp tysOk mixed (fn := Try.f132) Try.func132 rfl rfl rfl ?_
  conv => whnf
  repeat' (first|((with_reducible refine Split.of_true ?_);conv=>whnf)|((with_reducible refine Split.of_false ?_);conv=>whnf)|((with_reducible refine Split.neg ?_))|((with_reducible refine Split.is_true ?_ ?_);decide;conv=>whnf)|((with_reducible refine Split.is_false ?_ ?_);decide;conv=>whnf)|((with_reducible refine Split.eqz (fun _=>?_) (fun _=>?_))<;>conv=>whnf)|((with_reducible refine Split.dec (fun _=>?_) (fun _=>?_))<;>conv=>whnf)|((with_reducible refine NilK.mk (fun _=>?_) ?_)<;>conv=>whnf)|((with_reducible refine AltK.l ?_);(conv=>whnf);(with_reducible refine Need.mk ?_ ?_);(first|omega|(refine ⟨?_, ?_⟩<;>simp<;>omega)|(simp;omega));conv=>whnf)|((with_reducible refine Need.mk ?_ ?_);(first|omega|rfl|decide|(refine ⟨?_, ?_⟩<;>simp<;>omega)|(simp;omega));conv=>whnf)|((with_reducible refine Wr.inr ?_ ?_);(first|omega|(simp;omega));conv=>whnf)|(exfalso;first|omega|contradiction))
  refine LoopK.o3 (fun i : Nat => i ≤ l.length) (fun i => [(4, .own 200 1 (((List.range i).foldl (st1 vol fl) ⟨[], [], []⟩).q.map nD).length), (21, .d (iD i))])
    (fun i => [(200, .row 3 1 (((List.range i).foldl (st1 vol fl) ⟨[], [], []⟩).q.map nD) false), (13, .map 3 3 (.int .i64) (mapD ((List.range i).foldl (st1 vol fl) ⟨[], [], []⟩).bs))]) (fun i => l.length - i) 0 (by omega) (by refine ⟨?_, ?_, rfl⟩<;>(repeat' (first|exact True.intro|exact rfl|refine ⟨?_, ?_⟩|(intro h;cases h;done)|(intro h;exact h)|exact map_snoc|(refine own_congr ?_;simp;done)|(refine int_congr ?_;(first|omega|(simp;omega)))|(simp;done)|(refine view_congr ?_ ?_<;>(first|omega|(simp;done)|(simp;omega)))));done) ?_
  rintro i hi
  dsimp only at hi ⊢
  by_cases hil : i < l.length
  · have hc := hLf i hil
    have hnew := st1_new (vol := vol) (fl := fl) i
    have hql := st1_len (vol := vol) (fl := fl) i
    have hstep := range_snoc (st1 vol fl) ⟨[], [], []⟩ i
    have hql2 : (((List.range i).foldl (st1 vol fl) ⟨[], [], []⟩).q.map nD).length = ((List.range i).foldl (st1 vol fl) ⟨[], [], []⟩).q.length := List.length_map _
    generalize (List.range i).foldl (st1 vol fl) ⟨[], [], []⟩ = s at *
    have hmp1 := mput_mapD (v := -1) hnew
    by_cases hz : 0 < leftF vol fl i
    · have hst : (List.range (i + 1)).foldl (st1 vol fl) ⟨[], [], []⟩ = ⟨s.bs ++ [(i, -1)], s.ps, s.q ++ [i]⟩ := by rw [hstep, st1, if_pos hz]
      generalize leftF vol fl i = z at *
      conv => whnf
      repeat' (first|((with_reducible refine Split.of_true ?_);conv=>whnf)|((with_reducible refine Split.of_false ?_);conv=>whnf)|((with_reducible refine Split.neg ?_))|((with_reducible refine Split.is_true ?_ ?_);decide;conv=>whnf)|((with_reducible refine Split.is_false ?_ ?_);decide;conv=>whnf)|((with_reducible refine Split.eqz (fun _=>?_) (fun _=>?_))<;>conv=>whnf)|((with_reducible refine Split.dec (fun _=>?_) (fun _=>?_))<;>conv=>whnf)|((with_reducible refine NilK.mk (fun _=>?_) ?_)<;>conv=>whnf)|((with_reducible refine AltK.l ?_);(conv=>whnf);(with_reducible refine Need.mk ?_ ?_);(first|omega|(refine ⟨?_, ?_⟩<;>simp<;>omega)|(simp;omega));conv=>whnf)|((with_reducible refine Need.mk ?_ ?_);(first|omega|rfl|decide|(refine ⟨?_, ?_⟩<;>simp<;>omega)|(simp;omega));conv=>whnf)|((with_reducible refine Wr.inr ?_ ?_);(first|omega|(simp;omega));conv=>whnf)|((with_reducible refine AltK.r ?_);(conv=>whnf);(first|(refine CallX.mk _ _ (hc) rfl ?_));conv=>whnf)|(exfalso;first|omega|contradiction))
      all_goals first
        | (refine Again.av (i + 1) (by omega) (by omega) ?_
           rw [hst]
           exact (by refine ⟨?_, ?_, rfl⟩<;>(repeat' (first|exact True.intro|exact rfl|refine ⟨?_, ?_⟩|(intro h;cases h;done)|(intro h;exact h)|exact map_snoc|(refine own_congr ?_;simp;done)|(refine int_congr ?_;(first|omega|(simp;omega)))|(simp;done)|(refine view_congr ?_ ?_<;>(first|omega|(simp;done)|(simp;omega)))|exact hmp1|((first|refine own_congr ?_|refine int_congr ?_|skip);simp [D.cells];done)|((first|refine own_congr ?_|refine int_congr ?_);simp [D.cells];omega)|(show @Eq (List Go.Vm.D) _ [];simp [D.cells];done)|(simp [D.cells, D.cells];done)));done))
        | (exfalso;omega)
    · have hst : (List.range (i + 1)).foldl (st1 vol fl) ⟨[], [], []⟩ = s := by rw [hstep, st1, if_neg hz]
      generalize leftF vol fl i = z at *
      conv => whnf
      repeat' (first|((with_reducible refine Split.of_true ?_);conv=>whnf)|((with_reducible refine Split.of_false ?_);conv=>whnf)|((with_reducible refine Split.neg ?_))|((with_reducible refine Split.is_true ?_ ?_);decide;conv=>whnf)|((with_reducible refine Split.is_false ?_ ?_);decide;conv=>whnf)|((with_reducible refine Split.eqz (fun _=>?_) (fun _=>?_))<;>conv=>whnf)|((with_reducible refine Split.dec (fun _=>?_) (fun _=>?_))<;>conv=>whnf)|((with_reducible refine NilK.mk (fun _=>?_) ?_)<;>conv=>whnf)|((with_reducible refine AltK.l ?_);(conv=>whnf);(with_reducible refine Need.mk ?_ ?_);(first|omega|(refine ⟨?_, ?_⟩<;>simp<;>omega)|(simp;omega));conv=>whnf)|((with_reducible refine Need.mk ?_ ?_);(first|omega|rfl|decide|(refine ⟨?_, ?_⟩<;>simp<;>omega)|(simp;omega));conv=>whnf)|((with_reducible refine Wr.inr ?_ ?_);(first|omega|(simp;omega));conv=>whnf)|((with_reducible refine AltK.r ?_);(conv=>whnf);(first|(refine CallX.mk _ _ (hc) rfl ?_));conv=>whnf)|(exfalso;first|omega|contradiction))
      all_goals first
        | (refine Again.av (i + 1) (by omega) (by omega) ?_
           rw [hst]
           exact (by refine ⟨?_, ?_, rfl⟩<;>(repeat' (first|exact True.intro|exact rfl|refine ⟨?_, ?_⟩|(intro h;cases h;done)|(intro h;exact h)|exact map_snoc|(refine own_congr ?_;simp;done)|(refine int_congr ?_;(first|omega|(simp;omega)))|(simp;done)|(refine view_congr ?_ ?_<;>(first|omega|(simp;done)|(simp;omega)))|exact hmp1|((first|refine own_congr ?_|refine int_congr ?_|skip);simp [D.cells];done)|((first|refine own_congr ?_|refine int_congr ?_);simp [D.cells];omega)|(show @Eq (List Go.Vm.D) _ [];simp [D.cells];done)|(simp [D.cells, D.cells];done)));done))
        | (exfalso;omega)
  · have hie : i = l.length := by omega
    subst hie
    have hql := st1_len (vol := vol) (fl := fl) l.length
    have hr0 : (List.range l.length).foldl (st1 vol fl) ⟨[], [], []⟩ = rs0 l.length vol fl := rfl
    rw [hr0] at hql ⊢
    have hgo : rsGo (accF y l) y.pits.length l.length fl n (rs0 l.length vol fl) = some w := hw
    have hq0 : ∀ b ∈ (rs0 l.length vol fl).q, b < l.length := rs0_lt
    clear hr0 hw hi hil
    generalize rs0 l.length vol fl = s0 at *
    have hlen0 : (s0.q.map nD).length = s0.q.length := List.length_map _
    have hmp0 : ([] : List (D × D)) = mapD s0.ps := by rw [hql.2]; rfl
    conv => whnf
    repeat' (first|((with_reducible refine Split.of_true ?_);conv=>whnf)|((with_reducible refine Split.of_false ?_);conv=>whnf)|((with_reducible refine Split.neg ?_))|((with_reducible refine Split.is_true ?_ ?_);decide;conv=>whnf)|((with_reducible refine Split.is_false ?_ ?_);decide;conv=>whnf)|((with_reducible refine Split.eqz (fun _=>?_) (fun _=>?_))<;>conv=>whnf)|((with_reducible refine Split.dec (fun _=>?_) (fun _=>?_))<;>conv=>whnf)|((with_reducible refine NilK.mk (fun _=>?_) ?_)<;>conv=>whnf)|((with_reducible refine AltK.l ?_);(conv=>whnf);(with_reducible refine Need.mk ?_ ?_);(first|omega|(refine ⟨?_, ?_⟩<;>simp<;>omega)|(simp;omega));conv=>whnf)|((with_reducible refine Need.mk ?_ ?_);(first|omega|rfl|decide|(refine ⟨?_, ?_⟩<;>simp<;>omega)|(simp;omega));conv=>whnf)|((with_reducible refine Wr.inr ?_ ?_);(first|omega|(simp;omega));conv=>whnf)|(exfalso;first|omega|contradiction))
    refine LoopK.o3 (fun x : Nat × Rs × Qs => rsGo (accF y l) y.pits.length l.length fl x.1 x.2.1 = some w ∧ qN x.2.1.q x.2.2 + 100 * x.1 ≤ 200000 ∧ (∀ b ∈ x.2.1.q, b < l.length) ∧ (∀ e, x.2.2 = .fin e → x.2.1.q = []) ∧ (∀ p, x.2.2 = .view p → x.2.1.q ≠ []))
      (fun x => [(4, qV x.2.1.q x.2.2)]) (fun x => qB x.2.1.q x.2.2 ++ [(13, .map 3 3 (.int .i64) (mapD x.2.1.bs)), (14, .map 3 3 (.int .i64) (mapD x.2.1.ps))]) (fun x => x.1) (n, s0, .own) ⟨hgo, by simp only [qN];omega, hq0, by simp, by simp⟩ (by refine ⟨?_, ?_, rfl⟩<;>(repeat' (first|exact True.intro|exact rfl|refine ⟨?_, ?_⟩|(intro h;cases h;done)|(intro h;exact h)|exact map_snoc|(refine own_congr ?_;simp;done)|(refine int_congr ?_;(first|omega|(simp;omega)))|(simp;done)|(refine view_congr ?_ ?_<;>(first|omega|(simp;done)|(simp;omega)))|exact hmp0|((first|refine own_congr ?_|refine int_congr ?_|skip);simp [D.cells];done)|((first|refine own_congr ?_|refine int_congr ?_);simp [D.cells];omega)|(show @Eq (List Go.Vm.D) _ [];simp [D.cells];done)|(simp [D.cells, D.cells];done)));done) ?_
    clear hmp0 hgo hq0 hql
    rintro ⟨n, s, o⟩ ⟨hgo, hqn, hqb, ho1, ho2⟩
    dsimp only at hgo hqn hqb ho1 ho2 ⊢
    by_cases hq : s.q = []
    · have hs : s = w := by cases n <;> simpa [rsGo, hq] using hgo
      subst hs
      rcases o with _ | pre | e
      · dsimp only [qV, qB]
        rw [hq]
        conv => whnf
        repeat' (first|((with_reducible refine Split.of_true ?_);conv=>whnf)|((with_reducible refine Split.of_false ?_);conv=>whnf)|((with_reducible refine Split.neg ?_))|((with_reducible refine Split.is_true ?_ ?_);decide;conv=>whnf)|((with_reducible refine Split.is_false ?_ ?_);decide;conv=>whnf)|((with_reducible refine Split.eqz (fun _=>?_) (fun _=>?_))<;>conv=>whnf)|((with_reducible refine Split.dec (fun _=>?_) (fun _=>?_))<;>conv=>whnf)|((with_reducible refine NilK.mk (fun _=>?_) ?_)<;>conv=>whnf)|((with_reducible refine AltK.l ?_);(conv=>whnf);(with_reducible refine Need.mk ?_ ?_);(first|omega|(refine ⟨?_, ?_⟩<;>simp<;>omega)|(simp;omega));conv=>whnf)|((with_reducible refine Need.mk ?_ ?_);(first|omega|rfl|decide|(refine ⟨?_, ?_⟩<;>simp<;>omega)|(simp;omega));conv=>whnf)|((with_reducible refine Wr.inr ?_ ?_);(first|omega|(simp;omega));conv=>whnf)|(exfalso;first|omega|contradiction))
        exact ⟨⟨[(9, some 13), (2009, some 14)], (by refine ⟨?_, ?_, rfl⟩<;>(repeat' (first|exact True.intro|exact rfl|refine ⟨?_, ?_⟩|(intro h;cases h;done)|(intro h;exact h)|exact map_snoc|(refine own_congr ?_;simp;done)|(refine int_congr ?_;(first|omega|(simp;omega)))|(simp;done)|(refine view_congr ?_ ?_<;>(first|omega|(simp;done)|(simp;omega)))));done)⟩, rfl⟩
      · exact absurd hq (ho2 pre rfl)
      · dsimp only [qV, qB]
        conv => whnf
        repeat' (first|((with_reducible refine Split.of_true ?_);conv=>whnf)|((with_reducible refine Split.of_false ?_);conv=>whnf)|((with_reducible refine Split.neg ?_))|((with_reducible refine Split.is_true ?_ ?_);decide;conv=>whnf)|((with_reducible refine Split.is_false ?_ ?_);decide;conv=>whnf)|((with_reducible refine Split.eqz (fun _=>?_) (fun _=>?_))<;>conv=>whnf)|((with_reducible refine Split.dec (fun _=>?_) (fun _=>?_))<;>conv=>whnf)|((with_reducible refine NilK.mk (fun _=>?_) ?_)<;>conv=>whnf)|((with_reducible refine AltK.l ?_);(conv=>whnf);(with_reducible refine Need.mk ?_ ?_);(first|omega|(refine ⟨?_, ?_⟩<;>simp<;>omega)|(simp;omega));conv=>whnf)|((with_reducible refine Need.mk ?_ ?_);(first|omega|rfl|decide|(refine ⟨?_, ?_⟩<;>simp<;>omega)|(simp;omega));conv=>whnf)|((with_reducible refine Wr.inr ?_ ?_);(first|omega|(simp;omega));conv=>whnf)|(exfalso;first|omega|contradiction))
        exact ⟨⟨[(9, some 13), (2009, some 14)], (by refine ⟨?_, ?_, rfl⟩<;>(repeat' (first|exact True.intro|exact rfl|refine ⟨?_, ?_⟩|(intro h;cases h;done)|(intro h;exact h)|exact map_snoc|(refine own_congr ?_;simp;done)|(refine int_congr ?_;(first|omega|(simp;omega)))|(simp;done)|(refine view_congr ?_ ?_<;>(first|omega|(simp;done)|(simp;omega)))));done)⟩, rfl⟩
    obtain ⟨b, r, hbr⟩ := List.exists_cons_of_ne_nil hq
    cases n with
    | zero => rw [rsGo, if_neg hq] at hgo; cases hgo
    | succ n =>
    rw [rsGo, hbr] at hgo
    dsimp only at hgo
    obtain ⟨Z, hZ⟩ : ∃ Z : Nat → Rs, ∀ i, Z i = (List.range i).foldl (stP (accF y l) l.length fl b) s := ⟨_, fun _ => rfl⟩
    rw [← hZ] at hgo
    have hZ0 : Z 0 = s := hZ 0
    have hZq : ∀ i, qI l.length (12 * i) s.q (Z i).q := fun i => by rw [hZ]; exact stP_q e3 i
    have hZs : ∀ i, Z (i + 1) = stP (accF y l) l.length fl b (Z i) i := fun i => by rw [hZ, range_snoc, ← hZ]
    clear hZ
    have hbL : b < l.length := hqb b (by rw [hbr]; simp)
    have hlq : (s.q.map nD).length = s.q.length := List.length_map _
    have hlq2 : s.q.length = r.length + 1 := by rw [hbr]; simp
    have h0 : s.q[0]? = some b := by rw [hbr]; rfl
    have h1 : ∀ pre : List Nat, (pre ++ s.q)[pre.length]? = some b := fun pre => by rw [hbr]; simp
    have hlp : (y.pits.map ptD).length = y.pits.length := List.length_map _
    rcases o with _ | pre | e
    rotate_left 2
    · exact absurd (ho1 e rfl) hq
    · dsimp only [qV, qB]
      dsimp only [qN] at hqn
      conv => whnf
      repeat' (first|((refine PickE.map 0 h0 (by omega) ?_);conv=>whnf)|((with_reducible refine Split.of_true ?_);conv=>whnf)|((with_reducible refine Split.of_false ?_);conv=>whnf)|((with_reducible refine Split.neg ?_))|((with_reducible refine Split.is_true ?_ ?_);decide;conv=>whnf)|((with_reducible refine Split.is_false ?_ ?_);decide;conv=>whnf)|((with_reducible refine Split.eqz (fun _=>?_) (fun _=>?_))<;>conv=>whnf)|((with_reducible refine Split.dec (fun _=>?_) (fun _=>?_))<;>conv=>whnf)|((with_reducible refine NilK.mk (fun _=>?_) ?_)<;>conv=>whnf)|((with_reducible refine AltK.l ?_);(conv=>whnf);(with_reducible refine Need.mk ?_ ?_);(first|omega|(refine ⟨?_, ?_⟩<;>simp<;>omega)|(simp;omega));conv=>whnf)|((with_reducible refine Need.mk ?_ ?_);(first|omega|rfl|decide|(refine ⟨?_, ?_⟩<;>simp<;>omega)|(simp;omega));conv=>whnf)|((with_reducible refine Wr.inr ?_ ?_);(first|omega|(simp;omega));conv=>whnf)|(exfalso;first|omega|contradiction))
      refine LoopK.o3 (fun x : Nat × Qs => x.1 ≤ y.pits.length ∧ (x.2 = .own) ∧ qN (Z x.1).q x.2 + 100 * (n + 1) ≤ 200000 + 12 * x.1)
        (fun x => [(4, qV (Z x.1).q x.2), (50, .d (iD x.1)), (36, .junk), (41, .junk), (42, .junk)]) (fun x => qB (Z x.1).q x.2 ++ [(13, .map 3 3 (.int .i64) (mapD (Z x.1).bs)), (14, .map 3 3 (.int .i64) (mapD (Z x.1).ps))])
        (fun x => y.pits.length - x.1) (0, .own) ⟨by omega, rfl, by dsimp only [qN];rw [hZ0];omega⟩ (by dsimp only [qV, qB];rw [hZ0];exact (by refine ⟨?_, ?_, rfl⟩<;>(repeat' (first|exact True.intro|exact rfl|refine ⟨?_, ?_⟩|(intro h;cases h;done)|(intro h;exact h)|exact map_snoc|(refine own_congr ?_;simp;done)|(refine int_congr ?_;(first|omega|(simp;omega)))|(simp;done)|(refine view_congr ?_ ?_<;>(first|omega|(simp;done)|(simp;omega)))));done)) ?_
      rintro ⟨i, o⟩ ⟨hi, hof, hon⟩
      dsimp only at hi hof hon ⊢
      have hzs := hZs i
      by_cases hil : i < y.pits.length
      · generalize hu : Z i = u at *
        have hm := mget_mapD i u.ps
        have hac0 := hAc i b hil hbL
        cases hk : hasN u.ps i with
        | true =>
          rw [hk, if_pos rfl] at hm
          have hst : Z (i + 1) = u := by rw [hzs, stP, if_pos hk]
          subst hof
          dsimp only [qV, qB]
          dsimp only [qN] at hon
          conv => whnf
          repeat' (first|((with_reducible refine Split.of_true ?_);conv=>whnf)|((with_reducible refine Split.of_false ?_);conv=>whnf)|((with_reducible refine Split.neg ?_))|((with_reducible refine Split.is_true ?_ ?_);decide;conv=>whnf)|((with_reducible refine Split.is_false ?_ ?_);decide;conv=>whnf)|((with_reducible refine Split.eqz (fun _=>?_) (fun _=>?_))<;>conv=>whnf)|((with_reducible refine Split.dec (fun _=>?_) (fun _=>?_))<;>conv=>whnf)|((with_reducible refine NilK.mk (fun _=>?_) ?_)<;>conv=>whnf)|((with_reducible refine AltK.l ?_);(conv=>whnf);(with_reducible refine Need.mk ?_ ?_);(first|omega|(refine ⟨?_, ?_⟩<;>simp<;>omega)|(simp;omega));conv=>whnf)|((with_reducible refine Need.mk ?_ ?_);(first|omega|rfl|decide|(refine ⟨?_, ?_⟩<;>simp<;>omega)|(simp;omega));conv=>whnf)|((with_reducible refine Wr.inr ?_ ?_);(first|omega|(simp;omega));conv=>whnf)|(exfalso;first|omega|contradiction))
          refine LookK.mk (fun v hv => ?_) (fun hv => ?_)
          · conv => whnf
            repeat' (first|((with_reducible refine Split.of_true ?_);conv=>whnf)|((with_reducible refine Split.of_false ?_);conv=>whnf)|((with_reducible refine Split.neg ?_))|((with_reducible refine Split.is_true ?_ ?_);decide;conv=>whnf)|((with_reducible refine Split.is_false ?_ ?_);decide;conv=>whnf)|((with_reducible refine Split.eqz (fun _=>?_) (fun _=>?_))<;>conv=>whnf)|((with_reducible refine Split.dec (fun _=>?_) (fun _=>?_))<;>conv=>whnf)|((with_reducible refine NilK.mk (fun _=>?_) ?_)<;>conv=>whnf)|((with_reducible refine AltK.l ?_);(conv=>whnf);(with_reducible refine Need.mk ?_ ?_);(first|omega|(refine ⟨?_, ?_⟩<;>simp<;>omega)|(simp;omega));conv=>whnf)|((with_reducible refine Need.mk ?_ ?_);(first|omega|rfl|decide|(refine ⟨?_, ?_⟩<;>simp<;>omega)|(simp;omega));conv=>whnf)|((with_reducible refine Wr.inr ?_ ?_);(first|omega|(simp;omega));conv=>whnf)|(exfalso;first|omega|contradiction))
            refine Again.av (i + 1, .own) ⟨by dsimp only; omega, rfl, by dsimp only [qN]; rw [hst]; (first | omega | (simp only [List.length_append, List.length_singleton]; omega))⟩ (by dsimp only; omega) ?_
            dsimp only [qV, qB]
            rw [hst]
            exact (by refine ⟨?_, ?_, rfl⟩<;>(repeat' (first|exact True.intro|exact rfl|refine ⟨?_, ?_⟩|(intro h;cases h;done)|(intro h;exact h)|exact map_snoc|(refine own_congr ?_;simp;done)|(refine int_congr ?_;(first|omega|(simp;omega)))|(simp;done)|(refine view_congr ?_ ?_<;>(first|omega|(simp;done)|(simp;omega)))));done)
          · rw [hm] at hv; cases hv
        | false =>
          rw [hk, if_neg (by decide)] at hm
          cases hac : accF y l i b with
          | false =>
            have hst : Z (i + 1) = u := by rw [hzs, stP, if_neg (by rw [hk]; decide), if_pos hac]
            rw [hac] at hac0
            subst hof
            dsimp only [qV, qB]
            dsimp only [qN] at hon
            conv => whnf
            repeat' (first|((with_reducible refine Split.of_true ?_);conv=>whnf)|((with_reducible refine Split.of_false ?_);conv=>whnf)|((with_reducible refine Split.neg ?_))|((with_reducible refine Split.is_true ?_ ?_);decide;conv=>whnf)|((with_reducible refine Split.is_false ?_ ?_);decide;conv=>whnf)|((with_reducible refine Split.eqz (fun _=>?_) (fun _=>?_))<;>conv=>whnf)|((with_reducible refine Split.dec (fun _=>?_) (fun _=>?_))<;>conv=>whnf)|((with_reducible refine NilK.mk (fun _=>?_) ?_)<;>conv=>whnf)|((with_reducible refine AltK.l ?_);(conv=>whnf);(with_reducible refine Need.mk ?_ ?_);(first|omega|(refine ⟨?_, ?_⟩<;>simp<;>omega)|(simp;omega));conv=>whnf)|((with_reducible refine Need.mk ?_ ?_);(first|omega|rfl|decide|(refine ⟨?_, ?_⟩<;>simp<;>omega)|(simp;omega));conv=>whnf)|((with_reducible refine Wr.inr ?_ ?_);(first|omega|(simp;omega));conv=>whnf)|(exfalso;first|omega|contradiction))
            refine LookK.mk (fun v hv => ?_) (fun hv => ?_)
            · rw [hm] at hv; cases hv
            · conv => whnf
              repeat' (first|((with_reducible refine Split.of_true ?_);conv=>whnf)|((with_reducible refine Split.of_false ?_);conv=>whnf)|((with_reducible refine Split.neg ?_))|((with_reducible refine Split.is_true ?_ ?_);decide;conv=>whnf)|((with_reducible refine Split.is_false ?_ ?_);decide;conv=>whnf)|((with_reducible refine Split.eqz (fun _=>?_) (fun _=>?_))<;>conv=>whnf)|((with_reducible refine Split.dec (fun _=>?_) (fun _=>?_))<;>conv=>whnf)|((with_reducible refine NilK.mk (fun _=>?_) ?_)<;>conv=>whnf)|((with_reducible refine AltK.l ?_);(conv=>whnf);(with_reducible refine Need.mk ?_ ?_);(first|omega|(refine ⟨?_, ?_⟩<;>simp<;>omega)|(simp;omega));conv=>whnf)|((with_reducible refine Need.mk ?_ ?_);(first|omega|rfl|decide|(refine ⟨?_, ?_⟩<;>simp<;>omega)|(simp;omega));conv=>whnf)|((with_reducible refine Wr.inr ?_ ?_);(first|omega|(simp;omega));conv=>whnf)|((with_reducible refine AltK.r ?_);(conv=>whnf);(first|(refine CallX.mk _ _ (hac0) rfl ?_));conv=>whnf)|(exfalso;first|omega|contradiction))
              refine Again.av (i + 1, .own) ⟨by dsimp only; omega, rfl, by dsimp only [qN]; rw [hst]; (first | omega | (simp only [List.length_append, List.length_singleton]; omega))⟩ (by dsimp only; omega) ?_
              dsimp only [qV, qB]
              rw [hst]
              exact (by refine ⟨?_, ?_, rfl⟩<;>(repeat' (first|exact True.intro|exact rfl|refine ⟨?_, ?_⟩|(intro h;cases h;done)|(intro h;exact h)|exact map_snoc|(refine own_congr ?_;simp;done)|(refine int_congr ?_;(first|omega|(simp;omega)))|(simp;done)|(refine view_congr ?_ ?_<;>(first|omega|(simp;done)|(simp;omega)))));done)
          | true =>
            obtain ⟨V, hV⟩ : ∃ V : Nat → Rs, ∀ k, V k = (List.range k).foldl (stO fl i) ⟨u.bs, u.ps ++ [(i, (b : Int))], u.q⟩ := ⟨_, fun _ => rfl⟩
            have hst : Z (i + 1) = V l.length := by rw [hzs, stP, if_neg (by rw [hk]; decide), if_neg (by rw [hac]; decide), hV]
            have hV0 : V 0 = ⟨u.bs, u.ps ++ [(i, (b : Int))], u.q⟩ := hV 0
            have hVs : ∀ k, V (k + 1) = stO fl i (V k) k := fun k => by rw [hV, range_snoc, ← hV]
            have hVp : (V l.length).ps = u.ps ++ [(i, (b : Int))] := by rw [hV]; exact (stO_q (L := l.length) l.length (Nat.le_refl _)).2
            clear hV
            rw [hac] at hac0
            have hmp1 : mput (mapD u.ps) (iD (i : Int)) (nD b) = mapD (u.ps ++ [(i, (b : Int))]) := mput_mapD hk
            subst hof
            dsimp only [qV, qB]
            dsimp only [qN] at hon
            conv => whnf
            repeat' (first|((with_reducible refine Split.of_true ?_);conv=>whnf)|((with_reducible refine Split.of_false ?_);conv=>whnf)|((with_reducible refine Split.neg ?_))|((with_reducible refine Split.is_true ?_ ?_);decide;conv=>whnf)|((with_reducible refine Split.is_false ?_ ?_);decide;conv=>whnf)|((with_reducible refine Split.eqz (fun _=>?_) (fun _=>?_))<;>conv=>whnf)|((with_reducible refine Split.dec (fun _=>?_) (fun _=>?_))<;>conv=>whnf)|((with_reducible refine NilK.mk (fun _=>?_) ?_)<;>conv=>whnf)|((with_reducible refine AltK.l ?_);(conv=>whnf);(with_reducible refine Need.mk ?_ ?_);(first|omega|(refine ⟨?_, ?_⟩<;>simp<;>omega)|(simp;omega));conv=>whnf)|((with_reducible refine Need.mk ?_ ?_);(first|omega|rfl|decide|(refine ⟨?_, ?_⟩<;>simp<;>omega)|(simp;omega));conv=>whnf)|((with_reducible refine Wr.inr ?_ ?_);(first|omega|(simp;omega));conv=>whnf)|(exfalso;first|omega|contradiction))
            refine LookK.mk (fun v hv => ?_) (fun hv => ?_)
            · rw [hm] at hv; cases hv
            · conv => whnf
              repeat' (first|((with_reducible refine Split.of_true ?_);conv=>whnf)|((with_reducible refine Split.of_false ?_);conv=>whnf)|((with_reducible refine Split.neg ?_))|((with_reducible refine Split.is_true ?_ ?_);decide;conv=>whnf)|((with_reducible refine Split.is_false ?_ ?_);decide;conv=>whnf)|((with_reducible refine Split.eqz (fun _=>?_) (fun _=>?_))<;>conv=>whnf)|((with_reducible refine Split.dec (fun _=>?_) (fun _=>?_))<;>conv=>whnf)|((with_reducible refine NilK.mk (fun _=>?_) ?_)<;>conv=>whnf)|((with_reducible refine AltK.l ?_);(conv=>whnf);(with_reducible refine Need.mk ?_ ?_);(first|omega|(refine ⟨?_, ?_⟩<;>simp<;>omega)|(simp;omega));conv=>whnf)|((with_reducible refine Need.mk ?_ ?_);(first|omega|rfl|decide|(refine ⟨?_, ?_⟩<;>simp<;>omega)|(simp;omega));conv=>whnf)|((with_reducible refine Wr.inr ?_ ?_);(first|omega|(simp;omega));conv=>whnf)|((with_reducible refine AltK.r ?_);(conv=>whnf);(first|(refine CallX.mk _ _ (hac0) rfl ?_));conv=>whnf)|(exfalso;first|omega|contradiction))
              refine LoopK.o3 (fun x : Nat × Qs => x.1 ≤ l.length ∧ (x.2 = .own) ∧ qN (V x.1).q x.2 + 100 * (n + 1) ≤ 200000 + 12 * i + x.1)
                (fun x => [(4, qV (V x.1).q x.2), (77, .d (iD x.1)), (36, .junk), (41, .junk), (42, .junk)]) (fun x => qB (V x.1).q x.2 ++ [(13, .map 3 3 (.int .i64) (mapD (V x.1).bs)), (14, .map 3 3 (.int .i64) (mapD (u.ps ++ [(i, (b : Int))])))])
                (fun x => l.length - x.1) (0, .own) ⟨by omega, rfl, by dsimp only [qN];rw [hV0];dsimp only;omega⟩ (by dsimp only [qV, qB];rw [hV0];exact (by refine ⟨?_, ?_, rfl⟩<;>(repeat' (first|exact True.intro|exact rfl|refine ⟨?_, ?_⟩|(intro h;cases h;done)|(intro h;exact h)|exact map_snoc|(refine own_congr ?_;simp;done)|(refine int_congr ?_;(first|omega|(simp;omega)))|(simp;done)|(refine view_congr ?_ ?_<;>(first|omega|(simp;done)|(simp;omega)))|exact hmp1|((first|refine own_congr ?_|refine int_congr ?_|skip);simp [D.cells];done)|((first|refine own_congr ?_|refine int_congr ?_);simp [D.cells];omega)|(show @Eq (List Go.Vm.D) _ [];simp [D.cells];done)|(simp [D.cells, D.cells];done)));done)) ?_
              clear hon
              rintro ⟨k, o⟩ ⟨hk', hof, hon⟩
              dsimp only at hk' hof hon ⊢
              have hvs := hVs k
              by_cases hkl : k < l.length
              · generalize hv' : V k = v at *
                have hm2 := mget_mapD k v.bs
                have hlv : (v.q.map nD).length = v.q.length := List.length_map _
                have hlv2 : ∀ pr : List Nat, ((pr ++ v.q).map nD).length = pr.length + v.q.length := fun pr => by simp
                cases hkb : hasN v.bs k with
                | true =>
                  rw [hkb, if_pos rfl] at hm2
                  have hst2 : V (k + 1) = v := by rw [hvs, stO, if_pos hkb]
                  subst hof
                  dsimp only [qV, qB]
                  dsimp only [qN] at hon
                  conv => whnf
                  repeat' (first|((with_reducible refine Split.of_true ?_);conv=>whnf)|((with_reducible refine Split.of_false ?_);conv=>whnf)|((with_reducible refine Split.neg ?_))|((with_reducible refine Split.is_true ?_ ?_);decide;conv=>whnf)|((with_reducible refine Split.is_false ?_ ?_);decide;conv=>whnf)|((with_reducible refine Split.eqz (fun _=>?_) (fun _=>?_))<;>conv=>whnf)|((with_reducible refine Split.dec (fun _=>?_) (fun _=>?_))<;>conv=>whnf)|((with_reducible refine NilK.mk (fun _=>?_) ?_)<;>conv=>whnf)|((with_reducible refine AltK.l ?_);(conv=>whnf);(with_reducible refine Need.mk ?_ ?_);(first|omega|(refine ⟨?_, ?_⟩<;>simp<;>omega)|(simp;omega));conv=>whnf)|((with_reducible refine Need.mk ?_ ?_);(first|omega|rfl|decide|(refine ⟨?_, ?_⟩<;>simp<;>omega)|(simp;omega));conv=>whnf)|((with_reducible refine Wr.inr ?_ ?_);(first|omega|(simp;omega));conv=>whnf)|(exfalso;first|omega|contradiction))
                  refine LookK.mk (fun v hv => ?_) (fun hv => ?_)
                  · conv => whnf
                    repeat' (first|((with_reducible refine Split.of_true ?_);conv=>whnf)|((with_reducible refine Split.of_false ?_);conv=>whnf)|((with_reducible refine Split.neg ?_))|((with_reducible refine Split.is_true ?_ ?_);decide;conv=>whnf)|((with_reducible refine Split.is_false ?_ ?_);decide;conv=>whnf)|((with_reducible refine Split.eqz (fun _=>?_) (fun _=>?_))<;>conv=>whnf)|((with_reducible refine Split.dec (fun _=>?_) (fun _=>?_))<;>conv=>whnf)|((with_reducible refine NilK.mk (fun _=>?_) ?_)<;>conv=>whnf)|((with_reducible refine AltK.l ?_);(conv=>whnf);(with_reducible refine Need.mk ?_ ?_);(first|omega|(refine ⟨?_, ?_⟩<;>simp<;>omega)|(simp;omega));conv=>whnf)|((with_reducible refine Need.mk ?_ ?_);(first|omega|rfl|decide|(refine ⟨?_, ?_⟩<;>simp<;>omega)|(simp;omega));conv=>whnf)|((with_reducible refine Wr.inr ?_ ?_);(first|omega|(simp;omega));conv=>whnf)|(exfalso;first|omega|contradiction))
                    refine Again.av (k + 1, .own) ⟨by dsimp only; omega, rfl, by dsimp only [qN]; rw [hst2]; (first | omega | (simp only [List.length_append, List.length_singleton]; omega))⟩ (by dsimp only; omega) ?_
                    dsimp only [qV, qB]
                    rw [hst2]
                    exact (by refine ⟨?_, ?_, rfl⟩<;>(repeat' (first|exact True.intro|exact rfl|refine ⟨?_, ?_⟩|(intro h;cases h;done)|(intro h;exact h)|exact map_snoc|(refine own_congr ?_;simp;done)|(refine int_congr ?_;(first|omega|(simp;omega)))|(simp;done)|(refine view_congr ?_ ?_<;>(first|omega|(simp;done)|(simp;omega)))));done)
                  · rw [hm2] at hv; cases hv
                | false =>
                  rw [hkb, if_neg (by decide)] at hm2
                  obtain ⟨rw', hrw⟩ := some_of_lt (show k < fl.length by omega)
                  have hrwm := List.mem_of_getElem? hrw
                  have hrwl := h.row rw' hrwm
                  obtain ⟨x, hx⟩ := some_of_lt (show i < rw'.length by omega)
                  have hcx : cellZ fl k i = x := by simp [cellZ, List.getD, hrw, hx]
                  have hlr : (rw'.map iD).length = rw'.length := List.length_map _
                  have hmp2 : mput (mapD v.bs) (iD (k : Int)) (iD (i : Int)) = mapD (v.bs ++ [(k, (i : Int))]) := mput_mapD hkb
                  by_cases hx0 : 0 < x
                  · have hst2 : V (k + 1) = ⟨v.bs ++ [(k, (i : Int))], v.ps, v.q ++ [k]⟩ := by rw [hvs, stO, if_neg (by rw [hkb]; decide), if_pos (by rw [hcx]; exact hx0)]
                    subst hof
                    dsimp only [qV, qB]
                    dsimp only [qN] at hon
                    conv => whnf
                    repeat' (first|((with_reducible refine Split.of_true ?_);conv=>whnf)|((with_reducible refine Split.of_false ?_);conv=>whnf)|((with_reducible refine Split.neg ?_))|((with_reducible refine Split.is_true ?_ ?_);decide;conv=>whnf)|((with_reducible refine Split.is_false ?_ ?_);decide;conv=>whnf)|((with_reducible refine Split.eqz (fun _=>?_) (fun _=>?_))<;>conv=>whnf)|((with_reducible refine Split.dec (fun _=>?_) (fun _=>?_))<;>conv=>whnf)|((with_reducible refine NilK.mk (fun _=>?_) ?_)<;>conv=>whnf)|((with_reducible refine AltK.l ?_);(conv=>whnf);(with_reducible refine Need.mk ?_ ?_);(first|omega|(refine ⟨?_, ?_⟩<;>simp<;>omega)|(simp;omega));conv=>whnf)|((with_reducible refine Need.mk ?_ ?_);(first|omega|rfl|decide|(refine ⟨?_, ?_⟩<;>simp<;>omega)|(simp;omega));conv=>whnf)|((with_reducible refine Wr.inr ?_ ?_);(first|omega|(simp;omega));conv=>whnf)|(exfalso;first|omega|contradiction))
                    refine LookK.mk (fun v hv => ?_) (fun hv => ?_)
                    · rw [hm2] at hv; cases hv
                    · conv => whnf
                      repeat' (first|((refine PickE.map i hx (by omega) ?_);conv=>whnf)|((refine PickR.map k hrw (by omega) ?_);conv=>whnf)|((with_reducible refine Split.of_true ?_);conv=>whnf)|((with_reducible refine Split.of_false ?_);conv=>whnf)|((with_reducible refine Split.neg ?_))|((with_reducible refine Split.is_true ?_ ?_);decide;conv=>whnf)|((with_reducible refine Split.is_false ?_ ?_);decide;conv=>whnf)|((with_reducible refine Split.eqz (fun _=>?_) (fun _=>?_))<;>conv=>whnf)|((with_reducible refine Split.dec (fun _=>?_) (fun _=>?_))<;>conv=>whnf)|((with_reducible refine NilK.mk (fun _=>?_) ?_)<;>conv=>whnf)|((with_reducible refine AltK.l ?_);(conv=>whnf);(with_reducible refine Need.mk ?_ ?_);(first|omega|(refine ⟨?_, ?_⟩<;>simp<;>omega)|(simp;omega));conv=>whnf)|((with_reducible refine Need.mk ?_ ?_);(first|omega|rfl|decide|(refine ⟨?_, ?_⟩<;>simp<;>omega)|(simp;omega));conv=>whnf)|((with_reducible refine Wr.inr ?_ ?_);(first|omega|(simp;omega));conv=>whnf)|(exfalso;first|omega|contradiction))
                      all_goals first
                        | (exfalso;omega)
                        | skip
                      refine Again.av (k + 1, .own) ⟨by dsimp only; omega, rfl, by dsimp only [qN]; rw [hst2]; (first | omega | (simp only [List.length_append, List.length_singleton]; omega))⟩ (by dsimp only; omega) ?_
                      dsimp only [qV, qB]
                      rw [hst2]
                      exact (by refine ⟨?_, ?_, rfl⟩<;>(repeat' (first|exact True.intro|exact rfl|refine ⟨?_, ?_⟩|(intro h;cases h;done)|(intro h;exact h)|exact map_snoc|(refine own_congr ?_;simp;done)|(refine int_congr ?_;(first|omega|(simp;omega)))|(simp;done)|(refine view_congr ?_ ?_<;>(first|omega|(simp;done)|(simp;omega)))|exact hmp2|((first|refine own_congr ?_|refine int_congr ?_|skip);simp [D.cells];done)|((first|refine own_congr ?_|refine int_congr ?_);simp [D.cells];omega)|(show @Eq (List Go.Vm.D) _ [];simp [D.cells];done)|(simp [D.cells, D.cells];done)));done)
                  · have hst2 : V (k + 1) = v := by rw [hvs, stO, if_neg (by rw [hkb]; decide), if_neg (by rw [hcx]; exact hx0)]
                    subst hof
                    dsimp only [qV, qB]
                    dsimp only [qN] at hon
                    conv => whnf
                    repeat' (first|((with_reducible refine Split.of_true ?_);conv=>whnf)|((with_reducible refine Split.of_false ?_);conv=>whnf)|((with_reducible refine Split.neg ?_))|((with_reducible refine Split.is_true ?_ ?_);decide;conv=>whnf)|((with_reducible refine Split.is_false ?_ ?_);decide;conv=>whnf)|((with_reducible refine Split.eqz (fun _=>?_) (fun _=>?_))<;>conv=>whnf)|((with_reducible refine Split.dec (fun _=>?_) (fun _=>?_))<;>conv=>whnf)|((with_reducible refine NilK.mk (fun _=>?_) ?_)<;>conv=>whnf)|((with_reducible refine AltK.l ?_);(conv=>whnf);(with_reducible refine Need.mk ?_ ?_);(first|omega|(refine ⟨?_, ?_⟩<;>simp<;>omega)|(simp;omega));conv=>whnf)|((with_reducible refine Need.mk ?_ ?_);(first|omega|rfl|decide|(refine ⟨?_, ?_⟩<;>simp<;>omega)|(simp;omega));conv=>whnf)|((with_reducible refine Wr.inr ?_ ?_);(first|omega|(simp;omega));conv=>whnf)|(exfalso;first|omega|contradiction))
                    refine LookK.mk (fun v hv => ?_) (fun hv => ?_)
                    · rw [hm2] at hv; cases hv
                    · conv => whnf
                      repeat' (first|((refine PickE.map i hx (by omega) ?_);conv=>whnf)|((refine PickR.map k hrw (by omega) ?_);conv=>whnf)|((with_reducible refine Split.of_true ?_);conv=>whnf)|((with_reducible refine Split.of_false ?_);conv=>whnf)|((with_reducible refine Split.neg ?_))|((with_reducible refine Split.is_true ?_ ?_);decide;conv=>whnf)|((with_reducible refine Split.is_false ?_ ?_);decide;conv=>whnf)|((with_reducible refine Split.eqz (fun _=>?_) (fun _=>?_))<;>conv=>whnf)|((with_reducible refine Split.dec (fun _=>?_) (fun _=>?_))<;>conv=>whnf)|((with_reducible refine NilK.mk (fun _=>?_) ?_)<;>conv=>whnf)|((with_reducible refine AltK.l ?_);(conv=>whnf);(with_reducible refine Need.mk ?_ ?_);(first|omega|(refine ⟨?_, ?_⟩<;>simp<;>omega)|(simp;omega));conv=>whnf)|((with_reducible refine Need.mk ?_ ?_);(first|omega|rfl|decide|(refine ⟨?_, ?_⟩<;>simp<;>omega)|(simp;omega));conv=>whnf)|((with_reducible refine Wr.inr ?_ ?_);(first|omega|(simp;omega));conv=>whnf)|(exfalso;first|omega|contradiction))
                      all_goals first
                        | (exfalso;omega)
                        | skip
                      refine Again.av (k + 1, .own) ⟨by dsimp only; omega, rfl, by dsimp only [qN]; rw [hst2]; (first | omega | (simp only [List.length_append, List.length_singleton]; omega))⟩ (by dsimp only; omega) ?_
                      dsimp only [qV, qB]
                      rw [hst2]
                      exact (by refine ⟨?_, ?_, rfl⟩<;>(repeat' (first|exact True.intro|exact rfl|refine ⟨?_, ?_⟩|(intro h;cases h;done)|(intro h;exact h)|exact map_snoc|(refine own_congr ?_;simp;done)|(refine int_congr ?_;(first|omega|(simp;omega)))|(simp;done)|(refine view_congr ?_ ?_<;>(first|omega|(simp;done)|(simp;omega)))));done)
              · have hke : k = l.length := by omega
                subst hke
                have hmp5 : mapD (u.ps ++ [(i, (b : Int))]) = mapD (V l.length).ps := by rw [hVp]
                subst hof
                dsimp only [qV, qB]
                dsimp only [qN] at hon
                conv => whnf
                repeat' (first|((with_reducible refine Split.of_true ?_);conv=>whnf)|((with_reducible refine Split.of_false ?_);conv=>whnf)|((with_reducible refine Split.neg ?_))|((with_reducible refine Split.is_true ?_ ?_);decide;conv=>whnf)|((with_reducible refine Split.is_false ?_ ?_);decide;conv=>whnf)|((with_reducible refine Split.eqz (fun _=>?_) (fun _=>?_))<;>conv=>whnf)|((with_reducible refine Split.dec (fun _=>?_) (fun _=>?_))<;>conv=>whnf)|((with_reducible refine NilK.mk (fun _=>?_) ?_)<;>conv=>whnf)|((with_reducible refine AltK.l ?_);(conv=>whnf);(with_reducible refine Need.mk ?_ ?_);(first|omega|(refine ⟨?_, ?_⟩<;>simp<;>omega)|(simp;omega));conv=>whnf)|((with_reducible refine Need.mk ?_ ?_);(first|omega|rfl|decide|(refine ⟨?_, ?_⟩<;>simp<;>omega)|(simp;omega));conv=>whnf)|((with_reducible refine Wr.inr ?_ ?_);(first|omega|(simp;omega));conv=>whnf)|(exfalso;first|omega|contradiction))
                refine Again.av (i + 1, .own) ⟨by dsimp only; omega, rfl, by dsimp only [qN]; rw [hst]; (first | omega | (simp only [List.length_append, List.length_singleton]; omega))⟩ (by dsimp only; omega) ?_
                dsimp only [qV, qB]
                rw [hst]
                exact (by refine ⟨?_, ?_, rfl⟩<;>(repeat' (first|exact True.intro|exact rfl|refine ⟨?_, ?_⟩|(intro h;cases h;done)|(intro h;exact h)|exact map_snoc|(refine own_congr ?_;simp;done)|(refine int_congr ?_;(first|omega|(simp;omega)))|(simp;done)|(refine view_congr ?_ ?_<;>(first|omega|(simp;done)|(simp;omega)))|exact hmp5|((first|refine own_congr ?_|refine int_congr ?_|skip);simp [D.cells];done)|((first|refine own_congr ?_|refine int_congr ?_);simp [D.cells];omega)|(show @Eq (List Go.Vm.D) _ [];simp [D.cells];done)|(simp [D.cells, D.cells];done)));done)
      · have hie : i = y.pits.length := by omega
        subst hie
        clear hzs
        obtain ⟨t, htq, -, htl⟩ := hZq y.pits.length
        have htq' : (Z y.pits.length).q = b :: (r ++ t) := by rw [htq, hbr]; rfl
        have hrt : ∀ z ∈ r ++ t, z < l.length := fun z hz => by
          rcases List.mem_append.1 hz with h | h
          · exact hqb z (by rw [hbr]; exact List.mem_cons_of_mem _ h)
          · exact htl z h
        generalize Z y.pits.length = u at *
        have hlu : (u.q.map nD).length = (r ++ t).length + 1 := by rw [htq']; simp
        have hlu2 : ∀ pr : List Nat, ((pr ++ u.q).map nD).length = pr.length + ((r ++ t).length + 1) := fun pr => by rw [htq']; simp
        have hlu3 : u.q.length = (r ++ t).length + 1 := by rw [htq']; simp
        have hrl : (r ++ t).length = r.length + t.length := List.length_append
        have hut : u.q.tail = r ++ t := by rw [htq']; rfl
        subst hof
        dsimp only [qV, qB]
        dsimp only [qN] at hon
        conv => whnf
        repeat' (first|((with_reducible refine Split.of_true ?_);conv=>whnf)|((with_reducible refine Split.of_false ?_);conv=>whnf)|((with_reducible refine Split.neg ?_))|((with_reducible refine Split.is_true ?_ ?_);decide;conv=>whnf)|((with_reducible refine Split.is_false ?_ ?_);decide;conv=>whnf)|((with_reducible refine Split.eqz (fun _=>?_) (fun _=>?_))<;>conv=>whnf)|((with_reducible refine Split.dec (fun _=>?_) (fun _=>?_))<;>conv=>whnf)|((with_reducible refine NilK.mk (fun _=>?_) ?_)<;>conv=>whnf)|((with_reducible refine Need.mk ?_ ?_);(first|omega|rfl|decide|(refine ⟨?_, ?_⟩<;>simp<;>omega)|(simp;omega));conv=>whnf)|((with_reducible refine Wr.inr ?_ ?_);(first|omega|(simp;omega));conv=>whnf)|(exfalso;first|omega|contradiction))
        by_cases hrt0 : r ++ t = []
        · have hl0 : (r ++ t).length = 0 := by rw [hrt0]; rfl
          have hmp6 : AV.d (D.sl 1 (List.drop (Int.toNat 1) (List.take ((u.q.map nD).length : Int).toNat (u.q.map nD)))) = AV.d (D.sl 1 []) := by rw [htq', hrt0]; rfl
          refine AltK.l ?_
          conv => whnf
          repeat' (first|((with_reducible refine Split.of_true ?_);conv=>whnf)|((with_reducible refine Split.of_false ?_);conv=>whnf)|((with_reducible refine Split.neg ?_))|((with_reducible refine Split.is_true ?_ ?_);decide;conv=>whnf)|((with_reducible refine Split.is_false ?_ ?_);decide;conv=>whnf)|((with_reducible refine Split.eqz (fun _=>?_) (fun _=>?_))<;>conv=>whnf)|((with_reducible refine Split.dec (fun _=>?_) (fun _=>?_))<;>conv=>whnf)|((with_reducible refine NilK.mk (fun _=>?_) ?_)<;>conv=>whnf)|((with_reducible refine AltK.l ?_);(conv=>whnf);(with_reducible refine Need.mk ?_ ?_);(first|omega|(refine ⟨?_, ?_⟩<;>simp<;>omega)|(simp;omega));conv=>whnf)|((with_reducible refine Need.mk ?_ ?_);(first|omega|rfl|decide|(refine ⟨?_, ?_⟩<;>simp<;>omega)|(simp;omega));conv=>whnf)|((with_reducible refine Wr.inr ?_ ?_);(first|omega|(simp;omega));conv=>whnf)|(exfalso;first|omega|contradiction))
          refine Again.av (n, ⟨u.bs, u.ps, u.q.tail⟩, .fin u.q) ⟨hgo, by dsimp only [qN]; omega, by dsimp only; rw [hut]; exact hrt, by dsimp only; rw [hut]; intro e _; exact hrt0, fun p hp => by cases hp⟩ (by dsimp only; omega) ?_
          dsimp only [qV, qB]
          exact (by refine ⟨?_, ?_, rfl⟩<;>(repeat' (first|exact True.intro|exact rfl|refine ⟨?_, ?_⟩|(intro h;cases h;done)|(intro h;exact h)|exact map_snoc|(refine own_congr ?_;simp;done)|(refine int_congr ?_;(first|omega|(simp;omega)))|(simp;done)|(refine view_congr ?_ ?_<;>(first|omega|(simp;done)|(simp;omega)))|exact hmp6|((first|refine own_congr ?_|refine int_congr ?_|skip);simp [hrt0];done)|((first|refine own_congr ?_|refine int_congr ?_);simp [hrt0];omega)|(show @Eq (List Go.Vm.D) _ [];simp [hrt0];done)|(simp [D.cells, hrt0];done)));done)
        · have hl0 := List.length_pos_iff.2 hrt0
          have hmp6 : u.q.map nD = ([b] ++ (r ++ t)).map nD := by rw [htq']; rfl
          refine AltK.r ?_
          conv => whnf
          refine AltK.l ?_
          conv => whnf
          repeat' (first|((with_reducible refine Split.of_true ?_);conv=>whnf)|((with_reducible refine Split.of_false ?_);conv=>whnf)|((with_reducible refine Split.neg ?_))|((with_reducible refine Split.is_true ?_ ?_);decide;conv=>whnf)|((with_reducible refine Split.is_false ?_ ?_);decide;conv=>whnf)|((with_reducible refine Split.eqz (fun _=>?_) (fun _=>?_))<;>conv=>whnf)|((with_reducible refine Split.dec (fun _=>?_) (fun _=>?_))<;>conv=>whnf)|((with_reducible refine NilK.mk (fun _=>?_) ?_)<;>conv=>whnf)|((with_reducible refine AltK.l ?_);(conv=>whnf);(with_reducible refine Need.mk ?_ ?_);(first|omega|(refine ⟨?_, ?_⟩<;>simp<;>omega)|(simp;omega));conv=>whnf)|((with_reducible refine Need.mk ?_ ?_);(first|omega|rfl|decide|(refine ⟨?_, ?_⟩<;>simp<;>omega)|(simp;omega));conv=>whnf)|((with_reducible refine Wr.inr ?_ ?_);(first|omega|(simp;omega));conv=>whnf)|(exfalso;first|omega|contradiction))
          refine Again.av (n, ⟨u.bs, u.ps, u.q.tail⟩, .view [b]) ⟨hgo, by dsimp only [qN]; rw [hut]; (first | omega | (simp only [List.length_append, List.length_singleton]; omega)), by dsimp only; rw [hut]; exact hrt, fun e he => (by cases he), by dsimp only; rw [hut]; intro e _; exact hrt0⟩ (by dsimp only; omega) ?_
          dsimp only [qV, qB]
          rw [hut]
          exact (by refine ⟨?_, ?_, rfl⟩<;>(repeat' (first|exact True.intro|exact rfl|refine ⟨?_, ?_⟩|(intro h;cases h;done)|(intro h;exact h)|exact map_snoc|(refine own_congr ?_;simp;done)|(refine int_congr ?_;(first|omega|(simp;omega)))|(simp;done)|(refine view_congr ?_ ?_<;>(first|omega|(simp;done)|(simp;omega)))|exact hmp6|((first|refine own_congr ?_|refine int_congr ?_|skip);simp [D.cells];done)|((first|refine own_congr ?_|refine int_congr ?_);simp [D.cells];omega)|(show @Eq (List Go.Vm.D) _ [];simp [D.cells];done)|(simp [D.cells, D.cells];done)));done)
    · dsimp only [qV, qB]
      dsimp only [qN] at hqn
      conv => whnf
      repeat' (first|((refine PickE.map pre.length (h1 pre) (by omega) ?_);conv=>whnf)|((with_reducible refine Split.of_true ?_);conv=>whnf)|((with_reducible refine Split.of_false ?_);conv=>whnf)|((with_reducible refine Split.neg ?_))|((with_reducible refine Split.is_true ?_ ?_);decide;conv=>whnf)|((with_reducible refine Split.is_false ?_ ?_);decide;conv=>whnf)|((with_reducible refine Split.eqz (fun _=>?_) (fun _=>?_))<;>conv=>whnf)|((with_reducible refine Split.dec (fun _=>?_) (fun _=>?_))<;>conv=>whnf)|((with_reducible refine NilK.mk (fun _=>?_) ?_)<;>conv=>whnf)|((with_reducible refine AltK.l ?_);(conv=>whnf);(with_reducible refine Need.mk ?_ ?_);(first|omega|(refine ⟨?_, ?_⟩<;>simp<;>omega)|(simp;omega));conv=>whnf)|((with_reducible refine Need.mk ?_ ?_);(first|omega|rfl|decide|(refine ⟨?_, ?_⟩<;>simp<;>omega)|(simp;omega));conv=>whnf)|((with_reducible refine Wr.inr ?_ ?_);(first|omega|(simp;omega));conv=>whnf)|(exfalso;first|omega|contradiction))
      refine LoopK.o3 (fun x : Nat × Qs => x.1 ≤ y.pits.length ∧ (∀ e, x.2 ≠ .fin e) ∧ qN (Z x.1).q x.2 + 100 * (n + 1) ≤ 200000 + 12 * x.1)
        (fun x => [(4, qV (Z x.1).q x.2), (50, .d (iD x.1)), (36, .junk), (41, .junk), (42, .junk)]) (fun x => qB (Z x.1).q x.2 ++ [(13, .map 3 3 (.int .i64) (mapD (Z x.1).bs)), (14, .map 3 3 (.int .i64) (mapD (Z x.1).ps))])
        (fun x => y.pits.length - x.1) (0, .view pre) ⟨by omega, fun e => by simp, by dsimp only [qN];rw [hZ0];omega⟩ (by dsimp only [qV, qB];rw [hZ0];exact (by refine ⟨?_, ?_, rfl⟩<;>(repeat' (first|exact True.intro|exact rfl|refine ⟨?_, ?_⟩|(intro h;cases h;done)|(intro h;exact h)|exact map_snoc|(refine own_congr ?_;simp;done)|(refine int_congr ?_;(first|omega|(simp;omega)))|(simp;done)|(refine view_congr ?_ ?_<;>(first|omega|(simp;done)|(simp;omega)))));done)) ?_
      rintro ⟨i, o⟩ ⟨hi, hof, hon⟩
      dsimp only at hi hof hon ⊢
      have hzs := hZs i
      by_cases hil : i < y.pits.length
      · generalize hu : Z i = u at *
        have hm := mget_mapD i u.ps
        have hac0 := hAc i b hil hbL
        cases hk : hasN u.ps i with
        | true =>
          rw [hk, if_pos rfl] at hm
          have hst : Z (i + 1) = u := by rw [hzs, stP, if_pos hk]
          rcases o with _ | pr1 | e
          rotate_left 2
          · exact absurd rfl (hof e)
          · dsimp only [qV, qB]
            dsimp only [qN] at hon
            conv => whnf
            repeat' (first|((with_reducible refine Split.of_true ?_);conv=>whnf)|((with_reducible refine Split.of_false ?_);conv=>whnf)|((with_reducible refine Split.neg ?_))|((with_reducible refine Split.is_true ?_ ?_);decide;conv=>whnf)|((with_reducible refine Split.is_false ?_ ?_);decide;conv=>whnf)|((with_reducible refine Split.eqz (fun _=>?_) (fun _=>?_))<;>conv=>whnf)|((with_reducible refine Split.dec (fun _=>?_) (fun _=>?_))<;>conv=>whnf)|((with_reducible refine NilK.mk (fun _=>?_) ?_)<;>conv=>whnf)|((with_reducible refine AltK.l ?_);(conv=>whnf);(with_reducible refine Need.mk ?_ ?_);(first|omega|(refine ⟨?_, ?_⟩<;>simp<;>omega)|(simp;omega));conv=>whnf)|((with_reducible refine Need.mk ?_ ?_);(first|omega|rfl|decide|(refine ⟨?_, ?_⟩<;>simp<;>omega)|(simp;omega));conv=>whnf)|((with_reducible refine Wr.inr ?_ ?_);(first|omega|(simp;omega));conv=>whnf)|(exfalso;first|omega|contradiction))
            refine LookK.mk (fun v hv => ?_) (fun hv => ?_)
            · conv => whnf
              repeat' (first|((with_reducible refine Split.of_true ?_);conv=>whnf)|((with_reducible refine Split.of_false ?_);conv=>whnf)|((with_reducible refine Split.neg ?_))|((with_reducible refine Split.is_true ?_ ?_);decide;conv=>whnf)|((with_reducible refine Split.is_false ?_ ?_);decide;conv=>whnf)|((with_reducible refine Split.eqz (fun _=>?_) (fun _=>?_))<;>conv=>whnf)|((with_reducible refine Split.dec (fun _=>?_) (fun _=>?_))<;>conv=>whnf)|((with_reducible refine NilK.mk (fun _=>?_) ?_)<;>conv=>whnf)|((with_reducible refine AltK.l ?_);(conv=>whnf);(with_reducible refine Need.mk ?_ ?_);(first|omega|(refine ⟨?_, ?_⟩<;>simp<;>omega)|(simp;omega));conv=>whnf)|((with_reducible refine Need.mk ?_ ?_);(first|omega|rfl|decide|(refine ⟨?_, ?_⟩<;>simp<;>omega)|(simp;omega));conv=>whnf)|((with_reducible refine Wr.inr ?_ ?_);(first|omega|(simp;omega));conv=>whnf)|(exfalso;first|omega|contradiction))
              refine Again.av (i + 1, .own) ⟨by dsimp only; omega, fun e => by simp, by dsimp only [qN]; rw [hst]; (first | omega | (simp only [List.length_append, List.length_singleton]; omega))⟩ (by dsimp only; omega) ?_
              dsimp only [qV, qB]
              rw [hst]
              exact (by refine ⟨?_, ?_, rfl⟩<;>(repeat' (first|exact True.intro|exact rfl|refine ⟨?_, ?_⟩|(intro h;cases h;done)|(intro h;exact h)|exact map_snoc|(refine own_congr ?_;simp;done)|(refine int_congr ?_;(first|omega|(simp;omega)))|(simp;done)|(refine view_congr ?_ ?_<;>(first|omega|(simp;done)|(simp;omega)))));done)
            · rw [hm] at hv; cases hv
          · dsimp only [qV, qB]
            dsimp only [qN] at hon
            conv => whnf
            repeat' (first|((with_reducible refine Split.of_true ?_);conv=>whnf)|((with_reducible refine Split.of_false ?_);conv=>whnf)|((with_reducible refine Split.neg ?_))|((with_reducible refine Split.is_true ?_ ?_);decide;conv=>whnf)|((with_reducible refine Split.is_false ?_ ?_);decide;conv=>whnf)|((with_reducible refine Split.eqz (fun _=>?_) (fun _=>?_))<;>conv=>whnf)|((with_reducible refine Split.dec (fun _=>?_) (fun _=>?_))<;>conv=>whnf)|((with_reducible refine NilK.mk (fun _=>?_) ?_)<;>conv=>whnf)|((with_reducible refine AltK.l ?_);(conv=>whnf);(with_reducible refine Need.mk ?_ ?_);(first|omega|(refine ⟨?_, ?_⟩<;>simp<;>omega)|(simp;omega));conv=>whnf)|((with_reducible refine Need.mk ?_ ?_);(first|omega|rfl|decide|(refine ⟨?_, ?_⟩<;>simp<;>omega)|(simp;omega));conv=>whnf)|((with_reducible refine Wr.inr ?_ ?_);(first|omega|(simp;omega));conv=>whnf)|(exfalso;first|omega|contradiction))
            refine LookK.mk (fun v hv => ?_) (fun hv => ?_)
            · conv => whnf
              repeat' (first|((with_reducible refine Split.of_true ?_);conv=>whnf)|((with_reducible refine Split.of_false ?_);conv=>whnf)|((with_reducible refine Split.neg ?_))|((with_reducible refine Split.is_true ?_ ?_);decide;conv=>whnf)|((with_reducible refine Split.is_false ?_ ?_);decide;conv=>whnf)|((with_reducible refine Split.eqz (fun _=>?_) (fun _=>?_))<;>conv=>whnf)|((with_reducible refine Split.dec (fun _=>?_) (fun _=>?_))<;>conv=>whnf)|((with_reducible refine NilK.mk (fun _=>?_) ?_)<;>conv=>whnf)|((with_reducible refine AltK.l ?_);(conv=>whnf);(with_reducible refine Need.mk ?_ ?_);(first|omega|(refine ⟨?_, ?_⟩<;>simp<;>omega)|(simp;omega));conv=>whnf)|((with_reducible refine Need.mk ?_ ?_);(first|omega|rfl|decide|(refine ⟨?_, ?_⟩<;>simp<;>omega)|(simp;omega));conv=>whnf)|((with_reducible refine Wr.inr ?_ ?_);(first|omega|(simp;omega));conv=>whnf)|(exfalso;first|omega|contradiction))
              refine Again.av (i + 1, .view pr1) ⟨by dsimp only; omega, fun e => by simp, by dsimp only [qN]; rw [hst]; (first | omega | (simp only [List.length_append, List.length_singleton]; omega))⟩ (by dsimp only; omega) ?_
              dsimp only [qV, qB]
              rw [hst]
              exact (by refine ⟨?_, ?_, rfl⟩<;>(repeat' (first|exact True.intro|exact rfl|refine ⟨?_, ?_⟩|(intro h;cases h;done)|(intro h;exact h)|exact map_snoc|(refine own_congr ?_;simp;done)|(refine int_congr ?_;(first|omega|(simp;omega)))|(simp;done)|(refine view_congr ?_ ?_<;>(first|omega|(simp;done)|(simp;omega)))));done)
            · rw [hm] at hv; cases hv
        | false =>
          rw [hk, if_neg (by decide)] at hm
          cases hac : accF y l i b with
          | false =>
            have hst : Z (i + 1) = u := by rw [hzs, stP, if_neg (by rw [hk]; decide), if_pos hac]
            rw [hac] at hac0
            rcases o with _ | pr1 | e
            rotate_left 2
            · exact absurd rfl (hof e)
            · dsimp only [qV, qB]
              dsimp only [qN] at hon
              conv => whnf
              repeat' (first|((with_reducible refine Split.of_true ?_);conv=>whnf)|((with_reducible refine Split.of_false ?_);conv=>whnf)|((with_reducible refine Split.neg ?_))|((with_reducible refine Split.is_true ?_ ?_);decide;conv=>whnf)|((with_reducible refine Split.is_false ?_ ?_);decide;conv=>whnf)|((with_reducible refine Split.eqz (fun _=>?_) (fun _=>?_))<;>conv=>whnf)|((with_reducible refine Split.dec (fun _=>?_) (fun _=>?_))<;>conv=>whnf)|((with_reducible refine NilK.mk (fun _=>?_) ?_)<;>conv=>whnf)|((with_reducible refine AltK.l ?_);(conv=>whnf);(with_reducible refine Need.mk ?_ ?_);(first|omega|(refine ⟨?_, ?_⟩<;>simp<;>omega)|(simp;omega));conv=>whnf)|((with_reducible refine Need.mk ?_ ?_);(first|omega|rfl|decide|(refine ⟨?_, ?_⟩<;>simp<;>omega)|(simp;omega));conv=>whnf)|((with_reducible refine Wr.inr ?_ ?_);(first|omega|(simp;omega));conv=>whnf)|(exfalso;first|omega|contradiction))
              refine LookK.mk (fun v hv => ?_) (fun hv => ?_)
              · rw [hm] at hv; cases hv
              · conv => whnf
                repeat' (first|((with_reducible refine Split.of_true ?_);conv=>whnf)|((with_reducible refine Split.of_false ?_);conv=>whnf)|((with_reducible refine Split.neg ?_))|((with_reducible refine Split.is_true ?_ ?_);decide;conv=>whnf)|((with_reducible refine Split.is_false ?_ ?_);decide;conv=>whnf)|((with_reducible refine Split.eqz (fun _=>?_) (fun _=>?_))<;>conv=>whnf)|((with_reducible refine Split.dec (fun _=>?_) (fun _=>?_))<;>conv=>whnf)|((with_reducible refine NilK.mk (fun _=>?_) ?_)<;>conv=>whnf)|((with_reducible refine AltK.l ?_);(conv=>whnf);(with_reducible refine Need.mk ?_ ?_);(first|omega|(refine ⟨?_, ?_⟩<;>simp<;>omega)|(simp;omega));conv=>whnf)|((with_reducible refine Need.mk ?_ ?_);(first|omega|rfl|decide|(refine ⟨?_, ?_⟩<;>simp<;>omega)|(simp;omega));conv=>whnf)|((with_reducible refine Wr.inr ?_ ?_);(first|omega|(simp;omega));conv=>whnf)|((with_reducible refine AltK.r ?_);(conv=>whnf);(first|(refine CallX.mk _ _ (hac0) rfl ?_));conv=>whnf)|(exfalso;first|omega|contradiction))
                refine Again.av (i + 1, .own) ⟨by dsimp only; omega, fun e => by simp, by dsimp only [qN]; rw [hst]; (first | omega | (simp only [List.length_append, List.length_singleton]; omega))⟩ (by dsimp only; omega) ?_
                dsimp only [qV, qB]
                rw [hst]
                exact (by refine ⟨?_, ?_, rfl⟩<;>(repeat' (first|exact True.intro|exact rfl|refine ⟨?_, ?_⟩|(intro h;cases h;done)|(intro h;exact h)|exact map_snoc|(refine own_congr ?_;simp;done)|(refine int_congr ?_;(first|omega|(simp;omega)))|(simp;done)|(refine view_congr ?_ ?_<;>(first|omega|(simp;done)|(simp;omega)))));done)
            · dsimp only [qV, qB]
              dsimp only [qN] at hon
              conv => whnf
              repeat' (first|((with_reducible refine Split.of_true ?_);conv=>whnf)|((with_reducible refine Split.of_false ?_);conv=>whnf)|((with_reducible refine Split.neg ?_))|((with_reducible refine Split.is_true ?_ ?_);decide;conv=>whnf)|((with_reducible refine Split.is_false ?_ ?_);decide;conv=>whnf)|((with_reducible refine Split.eqz (fun _=>?_) (fun _=>?_))<;>conv=>whnf)|((with_reducible refine Split.dec (fun _=>?_) (fun _=>?_))<;>conv=>whnf)|((with_reducible refine NilK.mk (fun _=>?_) ?_)<;>conv=>whnf)|((with_reducible refine AltK.l ?_);(conv=>whnf);(with_reducible refine Need.mk ?_ ?_);(first|omega|(refine ⟨?_, ?_⟩<;>simp<;>omega)|(simp;omega));conv=>whnf)|((with_reducible refine Need.mk ?_ ?_);(first|omega|rfl|decide|(refine ⟨?_, ?_⟩<;>simp<;>omega)|(simp;omega));conv=>whnf)|((with_reducible refine Wr.inr ?_ ?_);(first|omega|(simp;omega));conv=>whnf)|(exfalso;first|omega|contradiction))
              refine LookK.mk (fun v hv => ?_) (fun hv => ?_)
              · rw [hm] at hv; cases hv
              · conv => whnf
                repeat' (first|((with_reducible refine Split.of_true ?_);conv=>whnf)|((with_reducible refine Split.of_false ?_);conv=>whnf)|((with_reducible refine Split.neg ?_))|((with_reducible refine Split.is_true ?_ ?_);decide;conv=>whnf)|((with_reducible refine Split.is_false ?_ ?_);decide;conv=>whnf)|((with_reducible refine Split.eqz (fun _=>?_) (fun _=>?_))<;>conv=>whnf)|((with_reducible refine Split.dec (fun _=>?_) (fun _=>?_))<;>conv=>whnf)|((with_reducible refine NilK.mk (fun _=>?_) ?_)<;>conv=>whnf)|((with_reducible refine AltK.l ?_);(conv=>whnf);(with_reducible refine Need.mk ?_ ?_);(first|omega|(refine ⟨?_, ?_⟩<;>simp<;>omega)|(simp;omega));conv=>whnf)|((with_reducible refine Need.mk ?_ ?_);(first|omega|rfl|decide|(refine ⟨?_, ?_⟩<;>simp<;>omega)|(simp;omega));conv=>whnf)|((with_reducible refine Wr.inr ?_ ?_);(first|omega|(simp;omega));conv=>whnf)|((with_reducible refine AltK.r ?_);(conv=>whnf);(first|(refine CallX.mk _ _ (hac0) rfl ?_));conv=>whnf)|(exfalso;first|omega|contradiction))
                refine Again.av (i + 1, .view pr1) ⟨by dsimp only; omega, fun e => by simp, by dsimp only [qN]; rw [hst]; (first | omega | (simp only [List.length_append, List.length_singleton]; omega))⟩ (by dsimp only; omega) ?_
                dsimp only [qV, qB]
                rw [hst]
                exact (by refine ⟨?_, ?_, rfl⟩<;>(repeat' (first|exact True.intro|exact rfl|refine ⟨?_, ?_⟩|(intro h;cases h;done)|(intro h;exact h)|exact map_snoc|(refine own_congr ?_;simp;done)|(refine int_congr ?_;(first|omega|(simp;omega)))|(simp;done)|(refine view_congr ?_ ?_<;>(first|omega|(simp;done)|(simp;omega)))));done)
          | true =>
            obtain ⟨V, hV⟩ : ∃ V : Nat → Rs, ∀ k, V k = (List.range k).foldl (stO fl i) ⟨u.bs, u.ps ++ [(i, (b : Int))], u.q⟩ := ⟨_, fun _ => rfl⟩
            have hst : Z (i + 1) = V l.length := by rw [hzs, stP, if_neg (by rw [hk]; decide), if_neg (by rw [hac]; decide), hV]
            have hV0 : V 0 = ⟨u.bs, u.ps ++ [(i, (b : Int))], u.q⟩ := hV 0
            have hVs : ∀ k, V (k + 1) = stO fl i (V k) k := fun k => by rw [hV, range_snoc, ← hV]
            have hVp : (V l.length).ps = u.ps ++ [(i, (b : Int))] := by rw [hV]; exact (stO_q (L := l.length) l.length (Nat.le_refl _)).2
            clear hV
            rw [hac] at hac0
            have hmp1 : mput (mapD u.ps) (iD (i : Int)) (nD b) = mapD (u.ps ++ [(i, (b : Int))]) := mput_mapD hk
            rcases o with _ | pr1 | e
            rotate_left 2
            · exact absurd rfl (hof e)
            · dsimp only [qV, qB]
              dsimp only [qN] at hon
              conv => whnf
              repeat' (first|((with_reducible refine Split.of_true ?_);conv=>whnf)|((with_reducible refine Split.of_false ?_);conv=>whnf)|((with_reducible refine Split.neg ?_))|((with_reducible refine Split.is_true ?_ ?_);decide;conv=>whnf)|((with_reducible refine Split.is_false ?_ ?_);decide;conv=>whnf)|((with_reducible refine Split.eqz (fun _=>?_) (fun _=>?_))<;>conv=>whnf)|((with_reducible refine Split.dec (fun _=>?_) (fun _=>?_))<;>conv=>whnf)|((with_reducible refine NilK.mk (fun _=>?_) ?_)<;>conv=>whnf)|((with_reducible refine AltK.l ?_);(conv=>whnf);(with_reducible refine Need.mk ?_ ?_);(first|omega|(refine ⟨?_, ?_⟩<;>simp<;>omega)|(simp;omega));conv=>whnf)|((with_reducible refine Need.mk ?_ ?_);(first|omega|rfl|decide|(refine ⟨?_, ?_⟩<;>simp<;>omega)|(simp;omega));conv=>whnf)|((with_reducible refine Wr.inr ?_ ?_);(first|omega|(simp;omega));conv=>whnf)|(exfalso;first|omega|contradiction))
              refine LookK.mk (fun v hv => ?_) (fun hv => ?_)
              · rw [hm] at hv; cases hv
              · conv => whnf
                repeat' (first|((with_reducible refine Split.of_true ?_);conv=>whnf)|((with_reducible refine Split.of_false ?_);conv=>whnf)|((with_reducible refine Split.neg ?_))|((with_reducible refine Split.is_true ?_ ?_);decide;conv=>whnf)|((with_reducible refine Split.is_false ?_ ?_);decide;conv=>whnf)|((with_reducible refine Split.eqz (fun _=>?_) (fun _=>?_))<;>conv=>whnf)|((with_reducible refine Split.dec (fun _=>?_) (fun _=>?_))<;>conv=>whnf)|((with_reducible refine NilK.mk (fun _=>?_) ?_)<;>conv=>whnf)|((with_reducible refine AltK.l ?_);(conv=>whnf);(with_reducible refine Need.mk ?_ ?_);(first|omega|(refine ⟨?_, ?_⟩<;>simp<;>omega)|(simp;omega));conv=>whnf)|((with_reducible refine Need.mk ?_ ?_);(first|omega|rfl|decide|(refine ⟨?_, ?_⟩<;>simp<;>omega)|(simp;omega));conv=>whnf)|((with_reducible refine Wr.inr ?_ ?_);(first|omega|(simp;omega));conv=>whnf)|((with_reducible refine AltK.r ?_);(conv=>whnf);(first|(refine CallX.mk _ _ (hac0) rfl ?_));conv=>whnf)|(exfalso;first|omega|contradiction))
                refine LoopK.o3 (fun x : Nat × Qs => x.1 ≤ l.length ∧ (x.2 = .own) ∧ qN (V x.1).q x.2 + 100 * (n + 1) ≤ 200000 + 12 * i + x.1)
                  (fun x => [(4, qV (V x.1).q x.2), (77, .d (iD x.1)), (36, .junk), (41, .junk), (42, .junk)]) (fun x => qB (V x.1).q x.2 ++ [(13, .map 3 3 (.int .i64) (mapD (V x.1).bs)), (14, .map 3 3 (.int .i64) (mapD (u.ps ++ [(i, (b : Int))])))])
                  (fun x => l.length - x.1) (0, .own) ⟨by omega, rfl, by dsimp only [qN];rw [hV0];dsimp only;omega⟩ (by dsimp only [qV, qB];rw [hV0];exact (by refine ⟨?_, ?_, rfl⟩<;>(repeat' (first|exact True.intro|exact rfl|refine ⟨?_, ?_⟩|(intro h;cases h;done)|(intro h;exact h)|exact map_snoc|(refine own_congr ?_;simp;done)|(refine int_congr ?_;(first|omega|(simp;omega)))|(simp;done)|(refine view_congr ?_ ?_<;>(first|omega|(simp;done)|(simp;omega)))|exact hmp1|((first|refine own_congr ?_|refine int_congr ?_|skip);simp [D.cells];done)|((first|refine own_congr ?_|refine int_congr ?_);simp [D.cells];omega)|(show @Eq (List Go.Vm.D) _ [];simp [D.cells];done)|(simp [D.cells, D.cells];done)));done)) ?_
                clear hon
                rintro ⟨k, o⟩ ⟨hk', hof, hon⟩
                dsimp only at hk' hof hon ⊢
                have hvs := hVs k
                by_cases hkl : k < l.length
                · generalize hv' : V k = v at *
                  have hm2 := mget_mapD k v.bs
                  have hlv : (v.q.map nD).length = v.q.length := List.length_map _
                  have hlv2 : ∀ pr : List Nat, ((pr ++ v.q).map nD).length = pr.length + v.q.length := fun pr => by simp
                  cases hkb : hasN v.bs k with
                  | true =>
                    rw [hkb, if_pos rfl] at hm2
                    have hst2 : V (k + 1) = v := by rw [hvs, stO, if_pos hkb]
                    subst hof
                    dsimp only [qV, qB]
                    dsimp only [qN] at hon
                    conv => whnf
                    repeat' (first|((with_reducible refine Split.of_true ?_);conv=>whnf)|((with_reducible refine Split.of_false ?_);conv=>whnf)|((with_reducible refine Split.neg ?_))|((with_reducible refine Split.is_true ?_ ?_);decide;conv=>whnf)|((with_reducible refine Split.is_false ?_ ?_);decide;conv=>whnf)|((with_reducible refine Split.eqz (fun _=>?_) (fun _=>?_))<;>conv=>whnf)|((with_reducible refine Split.dec (fun _=>?_) (fun _=>?_))<;>conv=>whnf)|((with_reducible refine NilK.mk (fun _=>?_) ?_)<;>conv=>whnf)|((with_reducible refine AltK.l ?_);(conv=>whnf);(with_reducible refine Need.mk ?_ ?_);(first|omega|(refine ⟨?_, ?_⟩<;>simp<;>omega)|(simp;omega));conv=>whnf)|((with_reducible refine Need.mk ?_ ?_);(first|omega|rfl|decide|(refine ⟨?_, ?_⟩<;>simp<;>omega)|(simp;omega));conv=>whnf)|((with_reducible refine Wr.inr ?_ ?_);(first|omega|(simp;omega));conv=>whnf)|(exfalso;first|omega|contradiction))
                    refine LookK.mk (fun v hv => ?_) (fun hv => ?_)
                    · conv => whnf
                      repeat' (first|((with_reducible refine Split.of_true ?_);conv=>whnf)|((with_reducible refine Split.of_false ?_);conv=>whnf)|((with_reducible refine Split.neg ?_))|((with_reducible refine Split.is_true ?_ ?_);decide;conv=>whnf)|((with_reducible refine Split.is_false ?_ ?_);decide;conv=>whnf)|((with_reducible refine Split.eqz (fun _=>?_) (fun _=>?_))<;>conv=>whnf)|((with_reducible refine Split.dec (fun _=>?_) (fun _=>?_))<;>conv=>whnf)|((with_reducible refine NilK.mk (fun _=>?_) ?_)<;>conv=>whnf)|((with_reducible refine AltK.l ?_);(conv=>whnf);(with_reducible refine Need.mk ?_ ?_);(first|omega|(refine ⟨?_, ?_⟩<;>simp<;>omega)|(simp;omega));conv=>whnf)|((with_reducible refine Need.mk ?_ ?_);(first|omega|rfl|decide|(refine ⟨?_, ?_⟩<;>simp<;>omega)|(simp;omega));conv=>whnf)|((with_reducible refine Wr.inr ?_ ?_);(first|omega|(simp;omega));conv=>whnf)|(exfalso;first|omega|contradiction))
                      refine Again.av (k + 1, .own) ⟨by dsimp only; omega, rfl, by dsimp only [qN]; rw [hst2]; (first | omega | (simp only [List.length_append, List.length_singleton]; omega))⟩ (by dsimp only; omega) ?_
                      dsimp only [qV, qB]
                      rw [hst2]
                      exact (by refine ⟨?_, ?_, rfl⟩<;>(repeat' (first|exact True.intro|exact rfl|refine ⟨?_, ?_⟩|(intro h;cases h;done)|(intro h;exact h)|exact map_snoc|(refine own_congr ?_;simp;done)|(refine int_congr ?_;(first|omega|(simp;omega)))|(simp;done)|(refine view_congr ?_ ?_<;>(first|omega|(simp;done)|(simp;omega)))));done)
                    · rw [hm2] at hv; cases hv
                  | false =>
                    rw [hkb, if_neg (by decide)] at hm2
                    obtain ⟨rw', hrw⟩ := some_of_lt (show k < fl.length by omega)
                    have hrwm := List.mem_of_getElem? hrw
                    have hrwl := h.row rw' hrwm
                    obtain ⟨x, hx⟩ := some_of_lt (show i < rw'.length by omega)
                    have hcx : cellZ fl k i = x := by simp [cellZ, List.getD, hrw, hx]
                    have hlr : (rw'.map iD).length = rw'.length := List.length_map _
                    have hmp2 : mput (mapD v.bs) (iD (k : Int)) (iD (i : Int)) = mapD (v.bs ++ [(k, (i : Int))]) := mput_mapD hkb
                    by_cases hx0 : 0 < x
                    · have hst2 : V (k + 1) = ⟨v.bs ++ [(k, (i : Int))], v.ps, v.q ++ [k]⟩ := by rw [hvs, stO, if_neg (by rw [hkb]; decide), if_pos (by rw [hcx]; exact hx0)]
                      subst hof
                      dsimp only [qV, qB]
                      dsimp only [qN] at hon
                      conv => whnf
                      repeat' (first|((with_reducible refine Split.of_true ?_);conv=>whnf)|((with_reducible refine Split.of_false ?_);conv=>whnf)|((with_reducible refine Split.neg ?_))|((with_reducible refine Split.is_true ?_ ?_);decide;conv=>whnf)|((with_reducible refine Split.is_false ?_ ?_);decide;conv=>whnf)|((with_reducible refine Split.eqz (fun _=>?_) (fun _=>?_))<;>conv=>whnf)|((with_reducible refine Split.dec (fun _=>?_) (fun _=>?_))<;>conv=>whnf)|((with_reducible refine NilK.mk (fun _=>?_) ?_)<;>conv=>whnf)|((with_reducible refine AltK.l ?_);(conv=>whnf);(with_reducible refine Need.mk ?_ ?_);(first|omega|(refine ⟨?_, ?_⟩<;>simp<;>omega)|(simp;omega));conv=>whnf)|((with_reducible refine Need.mk ?_ ?_);(first|omega|rfl|decide|(refine ⟨?_, ?_⟩<;>simp<;>omega)|(simp;omega));conv=>whnf)|((with_reducible refine Wr.inr ?_ ?_);(first|omega|(simp;omega));conv=>whnf)|(exfalso;first|omega|contradiction))
                      refine LookK.mk (fun v hv => ?_) (fun hv => ?_)
                      · rw [hm2] at hv; cases hv
                      · conv => whnf
                        repeat' (first|((refine PickE.map i hx (by omega) ?_);conv=>whnf)|((refine PickR.map k hrw (by omega) ?_);conv=>whnf)|((with_reducible refine Split.of_true ?_);conv=>whnf)|((with_reducible refine Split.of_false ?_);conv=>whnf)|((with_reducible refine Split.neg ?_))|((with_reducible refine Split.is_true ?_ ?_);decide;conv=>whnf)|((with_reducible refine Split.is_false ?_ ?_);decide;conv=>whnf)|((with_reducible refine Split.eqz (fun _=>?_) (fun _=>?_))<;>conv=>whnf)|((with_reducible refine Split.dec (fun _=>?_) (fun _=>?_))<;>conv=>whnf)|((with_reducible refine NilK.mk (fun _=>?_) ?_)<;>conv=>whnf)|((with_reducible refine AltK.l ?_);(conv=>whnf);(with_reducible refine Need.mk ?_ ?_);(first|omega|(refine ⟨?_, ?_⟩<;>simp<;>omega)|(simp;omega));conv=>whnf)|((with_reducible refine Need.mk ?_ ?_);(first|omega|rfl|decide|(refine ⟨?_, ?_⟩<;>simp<;>omega)|(simp;omega));conv=>whnf)|((with_reducible refine Wr.inr ?_ ?_);(first|omega|(simp;omega));conv=>whnf)|(exfalso;first|omega|contradiction))
                        all_goals first
                          | (exfalso;omega)
                          | skip
                        refine Again.av (k + 1, .own) ⟨by dsimp only; omega, rfl, by dsimp only [qN]; rw [hst2]; (first | omega | (simp only [List.length_append, List.length_singleton]; omega))⟩ (by dsimp only; omega) ?_
                        dsimp only [qV, qB]
                        rw [hst2]
                        exact (by refine ⟨?_, ?_, rfl⟩<;>(repeat' (first|exact True.intro|exact rfl|refine ⟨?_, ?_⟩|(intro h;cases h;done)|(intro h;exact h)|exact map_snoc|(refine own_congr ?_;simp;done)|(refine int_congr ?_;(first|omega|(simp;omega)))|(simp;done)|(refine view_congr ?_ ?_<;>(first|omega|(simp;done)|(simp;omega)))|exact hmp2|((first|refine own_congr ?_|refine int_congr ?_|skip);simp [D.cells];done)|((first|refine own_congr ?_|refine int_congr ?_);simp [D.cells];omega)|(show @Eq (List Go.Vm.D) _ [];simp [D.cells];done)|(simp [D.cells, D.cells];done)));done)
                    · have hst2 : V (k + 1) = v := by rw [hvs, stO, if_neg (by rw [hkb]; decide), if_neg (by rw [hcx]; exact hx0)]
                      subst hof
                      dsimp only [qV, qB]
                      dsimp only [qN] at hon
                      conv => whnf
                      repeat' (first|((with_reducible refine Split.of_true ?_);conv=>whnf)|((with_reducible refine Split.of_false ?_);conv=>whnf)|((with_reducible refine Split.neg ?_))|((with_reducible refine Split.is_true ?_ ?_);decide;conv=>whnf)|((with_reducible refine Split.is_false ?_ ?_);decide;conv=>whnf)|((with_reducible refine Split.eqz (fun _=>?_) (fun _=>?_))<;>conv=>whnf)|((with_reducible refine Split.dec (fun _=>?_) (fun _=>?_))<;>conv=>whnf)|((with_reducible refine NilK.mk (fun _=>?_) ?_)<;>conv=>whnf)|((with_reducible refine AltK.l ?_);(conv=>whnf);(with_reducible refine Need.mk ?_ ?_);(first|omega|(refine ⟨?_, ?_⟩<;>simp<;>omega)|(simp;omega));conv=>whnf)|((with_reducible refine Need.mk ?_ ?_);(first|omega|rfl|decide|(refine ⟨?_, ?_⟩<;>simp<;>omega)|(simp;omega));conv=>whnf)|((with_reducible refine Wr.inr ?_ ?_);(first|omega|(simp;omega));conv=>whnf)|(exfalso;first|omega|contradiction))
                      refine LookK.mk (fun v hv => ?_) (fun hv => ?_)
                      · rw [hm2] at hv; cases hv
                      · conv => whnf
                        repeat' (first|((refine PickE.map i hx (by omega) ?_);conv=>whnf)|((refine PickR.map k hrw (by omega) ?_);conv=>whnf)|((with_reducible refine Split.of_true ?_);conv=>whnf)|((with_reducible refine Split.of_false ?_);conv=>whnf)|((with_reducible refine Split.neg ?_))|((with_reducible refine Split.is_true ?_ ?_);decide;conv=>whnf)|((with_reducible refine Split.is_false ?_ ?_);decide;conv=>whnf)|((with_reducible refine Split.eqz (fun _=>?_) (fun _=>?_))<;>conv=>whnf)|((with_reducible refine Split.dec (fun _=>?_) (fun _=>?_))<;>conv=>whnf)|((with_reducible refine NilK.mk (fun _=>?_) ?_)<;>conv=>whnf)|((with_reducible refine AltK.l ?_);(conv=>whnf);(with_reducible refine Need.mk ?_ ?_);(first|omega|(refine ⟨?_, ?_⟩<;>simp<;>omega)|(simp;omega));conv=>whnf)|((with_reducible refine Need.mk ?_ ?_);(first|omega|rfl|decide|(refine ⟨?_, ?_⟩<;>simp<;>omega)|(simp;omega));conv=>whnf)|((with_reducible refine Wr.inr ?_ ?_);(first|omega|(simp;omega));conv=>whnf)|(exfalso;first|omega|contradiction))
                        all_goals first
                          | (exfalso;omega)
                          | skip
                        refine Again.av (k + 1, .own) ⟨by dsimp only; omega, rfl, by dsimp only [qN]; rw [hst2]; (first | omega | (simp only [List.length_append, List.length_singleton]; omega))⟩ (by dsimp only; omega) ?_
                        dsimp only [qV, qB]
                        rw [hst2]
                        exact (by refine ⟨?_, ?_, rfl⟩<;>(repeat' (first|exact True.intro|exact rfl|refine ⟨?_, ?_⟩|(intro h;cases h;done)|(intro h;exact h)|exact map_snoc|(refine own_congr ?_;simp;done)|(refine int_congr ?_;(first|omega|(simp;omega)))|(simp;done)|(refine view_congr ?_ ?_<;>(first|omega|(simp;done)|(simp;omega)))));done)
                · have hke : k = l.length := by omega
                  subst hke
                  have hmp5 : mapD (u.ps ++ [(i, (b : Int))]) = mapD (V l.length).ps := by rw [hVp]
                  subst hof
                  dsimp only [qV, qB]
                  dsimp only [qN] at hon
                  conv => whnf
                  repeat' (first|((with_reducible refine Split.of_true ?_);conv=>whnf)|((with_reducible refine Split.of_false ?_);conv=>whnf)|((with_reducible refine Split.neg ?_))|((with_reducible refine Split.is_true ?_ ?_);decide;conv=>whnf)|((with_reducible refine Split.is_false ?_ ?_);decide;conv=>whnf)|((with_reducible refine Split.eqz (fun _=>?_) (fun _=>?_))<;>conv=>whnf)|((with_reducible refine Split.dec (fun _=>?_) (fun _=>?_))<;>conv=>whnf)|((with_reducible refine NilK.mk (fun _=>?_) ?_)<;>conv=>whnf)|((with_reducible refine AltK.l ?_);(conv=>whnf);(with_reducible refine Need.mk ?_ ?_);(first|omega|(refine ⟨?_, ?_⟩<;>simp<;>omega)|(simp;omega));conv=>whnf)|((with_reducible refine Need.mk ?_ ?_);(first|omega|rfl|decide|(refine ⟨?_, ?_⟩<;>simp<;>omega)|(simp;omega));conv=>whnf)|((with_reducible refine Wr.inr ?_ ?_);(first|omega|(simp;omega));conv=>whnf)|(exfalso;first|omega|contradiction))
                  refine Again.av (i + 1, .own) ⟨by dsimp only; omega, fun e => by simp, by dsimp only [qN]; rw [hst]; (first | omega | (simp only [List.length_append, List.length_singleton]; omega))⟩ (by dsimp only; omega) ?_
                  dsimp only [qV, qB]
                  rw [hst]
                  exact (by refine ⟨?_, ?_, rfl⟩<;>(repeat' (first|exact True.intro|exact rfl|refine ⟨?_, ?_⟩|(intro h;cases h;done)|(intro h;exact h)|exact map_snoc|(refine own_congr ?_;simp;done)|(refine int_congr ?_;(first|omega|(simp;omega)))|(simp;done)|(refine view_congr ?_ ?_<;>(first|omega|(simp;done)|(simp;omega)))|exact hmp5|((first|refine own_congr ?_|refine int_congr ?_|skip);simp [D.cells];done)|((first|refine own_congr ?_|refine int_congr ?_);simp [D.cells];omega)|(show @Eq (List Go.Vm.D) _ [];simp [D.cells];done)|(simp [D.cells, D.cells];done)));done)
            · dsimp only [qV, qB]
              dsimp only [qN] at hon
              conv => whnf
              repeat' (first|((with_reducible refine Split.of_true ?_);conv=>whnf)|((with_reducible refine Split.of_false ?_);conv=>whnf)|((with_reducible refine Split.neg ?_))|((with_reducible refine Split.is_true ?_ ?_);decide;conv=>whnf)|((with_reducible refine Split.is_false ?_ ?_);decide;conv=>whnf)|((with_reducible refine Split.eqz (fun _=>?_) (fun _=>?_))<;>conv=>whnf)|((with_reducible refine Split.dec (fun _=>?_) (fun _=>?_))<;>conv=>whnf)|((with_reducible refine NilK.mk (fun _=>?_) ?_)<;>conv=>whnf)|((with_reducible refine AltK.l ?_);(conv=>whnf);(with_reducible refine Need.mk ?_ ?_);(first|omega|(refine ⟨?_, ?_⟩<;>simp<;>omega)|(simp;omega));conv=>whnf)|((with_reducible refine Need.mk ?_ ?_);(first|omega|rfl|decide|(refine ⟨?_, ?_⟩<;>simp<;>omega)|(simp;omega));conv=>whnf)|((with_reducible refine Wr.inr ?_ ?_);(first|omega|(simp;omega));conv=>whnf)|(exfalso;first|omega|contradiction))
              refine LookK.mk (fun v hv => ?_) (fun hv => ?_)
              · rw [hm] at hv; cases hv
              · conv => whnf
                repeat' (first|((with_reducible refine Split.of_true ?_);conv=>whnf)|((with_reducible refine Split.of_false ?_);conv=>whnf)|((with_reducible refine Split.neg ?_))|((with_reducible refine Split.is_true ?_ ?_);decide;conv=>whnf)|((with_reducible refine Split.is_false ?_ ?_);decide;conv=>whnf)|((with_reducible refine Split.eqz (fun _=>?_) (fun _=>?_))<;>conv=>whnf)|((with_reducible refine Split.dec (fun _=>?_) (fun _=>?_))<;>conv=>whnf)|((with_reducible refine NilK.mk (fun _=>?_) ?_)<;>conv=>whnf)|((with_reducible refine AltK.l ?_);(conv=>whnf);(with_reducible refine Need.mk ?_ ?_);(first|omega|(refine ⟨?_, ?_⟩<;>simp<;>omega)|(simp;omega));conv=>whnf)|((with_reducible refine Need.mk ?_ ?_);(first|omega|rfl|decide|(refine ⟨?_, ?_⟩<;>simp<;>omega)|(simp;omega));conv=>whnf)|((with_reducible refine Wr.inr ?_ ?_);(first|omega|(simp;omega));conv=>whnf)|((with_reducible refine AltK.r ?_);(conv=>whnf);(first|(refine CallX.mk _ _ (hac0) rfl ?_));conv=>whnf)|(exfalso;first|omega|contradiction))
                refine LoopK.o3 (fun x : Nat × Qs => x.1 ≤ l.length ∧ (∀ e, x.2 ≠ .fin e) ∧ qN (V x.1).q x.2 + 100 * (n + 1) ≤ 200000 + 12 * i + x.1)
                  (fun x => [(4, qV (V x.1).q x.2), (77, .d (iD x.1)), (36, .junk), (41, .junk), (42, .junk)]) (fun x => qB (V x.1).q x.2 ++ [(13, .map 3 3 (.int .i64) (mapD (V x.1).bs)), (14, .map 3 3 (.int .i64) (mapD (u.ps ++ [(i, (b : Int))])))])
                  (fun x => l.length - x.1) (0, .view pr1) ⟨by omega, fun e => by simp, by dsimp only [qN];rw [hV0];dsimp only;omega⟩ (by dsimp only [qV, qB];rw [hV0];exact (by refine ⟨?_, ?_, rfl⟩<;>(repeat' (first|exact True.intro|exact rfl|refine ⟨?_, ?_⟩|(intro h;cases h;done)|(intro h;exact h)|exact map_snoc|(refine own_congr ?_;simp;done)|(refine int_congr ?_;(first|omega|(simp;omega)))|(simp;done)|(refine view_congr ?_ ?_<;>(first|omega|(simp;done)|(simp;omega)))|exact hmp1|((first|refine own_congr ?_|refine int_congr ?_|skip);simp [D.cells];done)|((first|refine own_congr ?_|refine int_congr ?_);simp [D.cells];omega)|(show @Eq (List Go.Vm.D) _ [];simp [D.cells];done)|(simp [D.cells, D.cells];done)));done)) ?_
                clear hon
                rintro ⟨k, o⟩ ⟨hk', hof, hon⟩
                dsimp only at hk' hof hon ⊢
                have hvs := hVs k
                by_cases hkl : k < l.length
                · generalize hv' : V k = v at *
                  have hm2 := mget_mapD k v.bs
                  have hlv : (v.q.map nD).length = v.q.length := List.length_map _
                  have hlv2 : ∀ pr : List Nat, ((pr ++ v.q).map nD).length = pr.length + v.q.length := fun pr => by simp
                  cases hkb : hasN v.bs k with
                  | true =>
                    rw [hkb, if_pos rfl] at hm2
                    have hst2 : V (k + 1) = v := by rw [hvs, stO, if_pos hkb]
                    rcases o with _ | pr2 | e
                    rotate_left 2
                    · exact absurd rfl (hof e)
                    · dsimp only [qV, qB]
                      dsimp only [qN] at hon
                      conv => whnf
                      repeat' (first|((with_reducible refine Split.of_true ?_);conv=>whnf)|((with_reducible refine Split.of_false ?_);conv=>whnf)|((with_reducible refine Split.neg ?_))|((with_reducible refine Split.is_true ?_ ?_);decide;conv=>whnf)|((with_reducible refine Split.is_false ?_ ?_);decide;conv=>whnf)|((with_reducible refine Split.eqz (fun _=>?_) (fun _=>?_))<;>conv=>whnf)|((with_reducible refine Split.dec (fun _=>?_) (fun _=>?_))<;>conv=>whnf)|((with_reducible refine NilK.mk (fun _=>?_) ?_)<;>conv=>whnf)|((with_reducible refine AltK.l ?_);(conv=>whnf);(with_reducible refine Need.mk ?_ ?_);(first|omega|(refine ⟨?_, ?_⟩<;>simp<;>omega)|(simp;omega));conv=>whnf)|((with_reducible refine Need.mk ?_ ?_);(first|omega|rfl|decide|(refine ⟨?_, ?_⟩<;>simp<;>omega)|(simp;omega));conv=>whnf)|((with_reducible refine Wr.inr ?_ ?_);(first|omega|(simp;omega));conv=>whnf)|(exfalso;first|omega|contradiction))
                      refine LookK.mk (fun v hv => ?_) (fun hv => ?_)
                      · conv => whnf
                        repeat' (first|((with_reducible refine Split.of_true ?_);conv=>whnf)|((with_reducible refine Split.of_false ?_);conv=>whnf)|((with_reducible refine Split.neg ?_))|((with_reducible refine Split.is_true ?_ ?_);decide;conv=>whnf)|((with_reducible refine Split.is_false ?_ ?_);decide;conv=>whnf)|((with_reducible refine Split.eqz (fun _=>?_) (fun _=>?_))<;>conv=>whnf)|((with_reducible refine Split.dec (fun _=>?_) (fun _=>?_))<;>conv=>whnf)|((with_reducible refine NilK.mk (fun _=>?_) ?_)<;>conv=>whnf)|((with_reducible refine AltK.l ?_);(conv=>whnf);(with_reducible refine Need.mk ?_ ?_);(first|omega|(refine ⟨?_, ?_⟩<;>simp<;>omega)|(simp;omega));conv=>whnf)|((with_reducible refine Need.mk ?_ ?_);(first|omega|rfl|decide|(refine ⟨?_, ?_⟩<;>simp<;>omega)|(simp;omega));conv=>whnf)|((with_reducible refine Wr.inr ?_ ?_);(first|omega|(simp;omega));conv=>whnf)|(exfalso;first|omega|contradiction))
                        refine Again.av (k + 1, .own) ⟨by dsimp only; omega, fun e => by simp, by dsimp only [qN]; rw [hst2]; (first | omega | (simp only [List.length_append, List.length_singleton]; omega))⟩ (by dsimp only; omega) ?_
                        dsimp only [qV, qB]
                        rw [hst2]
                        exact (by refine ⟨?_, ?_, rfl⟩<;>(repeat' (first|exact True.intro|exact rfl|refine ⟨?_, ?_⟩|(intro h;cases h;done)|(intro h;exact h)|exact map_snoc|(refine own_congr ?_;simp;done)|(refine int_congr ?_;(first|omega|(simp;omega)))|(simp;done)|(refine view_congr ?_ ?_<;>(first|omega|(simp;done)|(simp;omega)))));done)
                      · rw [hm2] at hv; cases hv
                    · dsimp only [qV, qB]
                      dsimp only [qN] at hon
                      conv => whnf
                      repeat' (first|((with_reducible refine Split.of_true ?_);conv=>whnf)|((with_reducible refine Split.of_false ?_);conv=>whnf)|((with_reducible refine Split.neg ?_))|((with_reducible refine Split.is_true ?_ ?_);decide;conv=>whnf)|((with_reducible refine Split.is_false ?_ ?_);decide;conv=>whnf)|((with_reducible refine Split.eqz (fun _=>?_) (fun _=>?_))<;>conv=>whnf)|((with_reducible refine Split.dec (fun _=>?_) (fun _=>?_))<;>conv=>whnf)|((with_reducible refine NilK.mk (fun _=>?_) ?_)<;>conv=>whnf)|((with_reducible refine AltK.l ?_);(conv=>whnf);(with_reducible refine Need.mk ?_ ?_);(first|omega|(refine ⟨?_, ?_⟩<;>simp<;>omega)|(simp;omega));conv=>whnf)|((with_reducible refine Need.mk ?_ ?_);(first|omega|rfl|decide|(refine ⟨?_, ?_⟩<;>simp<;>omega)|(simp;omega));conv=>whnf)|((with_reducible refine Wr.inr ?_ ?_);(first|omega|(simp;omega));conv=>whnf)|(exfalso;first|omega|contradiction))
                      refine LookK.mk (fun v hv => ?_) (fun hv => ?_)
                      · conv => whnf
                        repeat' (first|((with_reducible refine Split.of_true ?_);conv=>whnf)|((with_reducible refine Split.of_false ?_);conv=>whnf)|((with_reducible refine Split.neg ?_))|((with_reducible refine Split.is_true ?_ ?_);decide;conv=>whnf)|((with_reducible refine Split.is_false ?_ ?_);decide;conv=>whnf)|((with_reducible refine Split.eqz (fun _=>?_) (fun _=>?_))<;>conv=>whnf)|((with_reducible refine Split.dec (fun _=>?_) (fun _=>?_))<;>conv=>whnf)|((with_reducible refine NilK.mk (fun _=>?_) ?_)<;>conv=>whnf)|((with_reducible refine AltK.l ?_);(conv=>whnf);(with_reducible refine Need.mk ?_ ?_);(first|omega|(refine ⟨?_, ?_⟩<;>simp<;>omega)|(simp;omega));conv=>whnf)|((with_reducible refine Need.mk ?_ ?_);(first|omega|rfl|decide|(refine ⟨?_, ?_⟩<;>simp<;>omega)|(simp;omega));conv=>whnf)|((with_reducible refine Wr.inr ?_ ?_);(first|omega|(simp;omega));conv=>whnf)|(exfalso;first|omega|contradiction))
                        refine Again.av (k + 1, .view pr2) ⟨by dsimp only; omega, fun e => by simp, by dsimp only [qN]; rw [hst2]; (first | omega | (simp only [List.length_append, List.length_singleton]; omega))⟩ (by dsimp only; omega) ?_
                        dsimp only [qV, qB]
                        rw [hst2]
                        exact (by refine ⟨?_, ?_, rfl⟩<;>(repeat' (first|exact True.intro|exact rfl|refine ⟨?_, ?_⟩|(intro h;cases h;done)|(intro h;exact h)|exact map_snoc|(refine own_congr ?_;simp;done)|(refine int_congr ?_;(first|omega|(simp;omega)))|(simp;done)|(refine view_congr ?_ ?_<;>(first|omega|(simp;done)|(simp;omega)))));done)
                      · rw [hm2] at hv; cases hv
                  | false =>
                    rw [hkb, if_neg (by decide)] at hm2
                    obtain ⟨rw', hrw⟩ := some_of_lt (show k < fl.length by omega)
                    have hrwm := List.mem_of_getElem? hrw
                    have hrwl := h.row rw' hrwm
                    obtain ⟨x, hx⟩ := some_of_lt (show i < rw'.length by omega)
                    have hcx : cellZ fl k i = x := by simp [cellZ, List.getD, hrw, hx]
                    have hlr : (rw'.map iD).length = rw'.length := List.length_map _
                    have hmp2 : mput (mapD v.bs) (iD (k : Int)) (iD (i : Int)) = mapD (v.bs ++ [(k, (i : Int))]) := mput_mapD hkb
                    by_cases hx0 : 0 < x
                    · have hst2 : V (k + 1) = ⟨v.bs ++ [(k, (i : Int))], v.ps, v.q ++ [k]⟩ := by rw [hvs, stO, if_neg (by rw [hkb]; decide), if_pos (by rw [hcx]; exact hx0)]
                      rcases o with _ | pr2 | e
                      rotate_left 2
                      · exact absurd rfl (hof e)
                      · dsimp only [qV, qB]
                        dsimp only [qN] at hon
                        conv => whnf
                        repeat' (first|((with_reducible refine Split.of_true ?_);conv=>whnf)|((with_reducible refine Split.of_false ?_);conv=>whnf)|((with_reducible refine Split.neg ?_))|((with_reducible refine Split.is_true ?_ ?_);decide;conv=>whnf)|((with_reducible refine Split.is_false ?_ ?_);decide;conv=>whnf)|((with_reducible refine Split.eqz (fun _=>?_) (fun _=>?_))<;>conv=>whnf)|((with_reducible refine Split.dec (fun _=>?_) (fun _=>?_))<;>conv=>whnf)|((with_reducible refine NilK.mk (fun _=>?_) ?_)<;>conv=>whnf)|((with_reducible refine AltK.l ?_);(conv=>whnf);(with_reducible refine Need.mk ?_ ?_);(first|omega|(refine ⟨?_, ?_⟩<;>simp<;>omega)|(simp;omega));conv=>whnf)|((with_reducible refine Need.mk ?_ ?_);(first|omega|rfl|decide|(refine ⟨?_, ?_⟩<;>simp<;>omega)|(simp;omega));conv=>whnf)|((with_reducible refine Wr.inr ?_ ?_);(first|omega|(simp;omega));conv=>whnf)|(exfalso;first|omega|contradiction))
                        refine LookK.mk (fun v hv => ?_) (fun hv => ?_)
                        · rw [hm2] at hv; cases hv
                        · conv => whnf
                          repeat' (first|((refine PickE.map i hx (by omega) ?_);conv=>whnf)|((refine PickR.map k hrw (by omega) ?_);conv=>whnf)|((with_reducible refine Split.of_true ?_);conv=>whnf)|((with_reducible refine Split.of_false ?_);conv=>whnf)|((with_reducible refine Split.neg ?_))|((with_reducible refine Split.is_true ?_ ?_);decide;conv=>whnf)|((with_reducible refine Split.is_false ?_ ?_);decide;conv=>whnf)|((with_reducible refine Split.eqz (fun _=>?_) (fun _=>?_))<;>conv=>whnf)|((with_reducible refine Split.dec (fun _=>?_) (fun _=>?_))<;>conv=>whnf)|((with_reducible refine NilK.mk (fun _=>?_) ?_)<;>conv=>whnf)|((with_reducible refine AltK.l ?_);(conv=>whnf);(with_reducible refine Need.mk ?_ ?_);(first|omega|(refine ⟨?_, ?_⟩<;>simp<;>omega)|(simp;omega));conv=>whnf)|((with_reducible refine Need.mk ?_ ?_);(first|omega|rfl|decide|(refine ⟨?_, ?_⟩<;>simp<;>omega)|(simp;omega));conv=>whnf)|((with_reducible refine Wr.inr ?_ ?_);(first|omega|(simp;omega));conv=>whnf)|(exfalso;first|omega|contradiction))
                          all_goals first
                            | (exfalso;omega)
                            | skip
                          refine Again.av (k + 1, .own) ⟨by dsimp only; omega, fun e => by simp, by dsimp only [qN]; rw [hst2]; (first | omega | (simp only [List.length_append, List.length_singleton]; omega))⟩ (by dsimp only; omega) ?_
                          dsimp only [qV, qB]
                          rw [hst2]
                          exact (by refine ⟨?_, ?_, rfl⟩<;>(repeat' (first|exact True.intro|exact rfl|refine ⟨?_, ?_⟩|(intro h;cases h;done)|(intro h;exact h)|exact map_snoc|(refine own_congr ?_;simp;done)|(refine int_congr ?_;(first|omega|(simp;omega)))|(simp;done)|(refine view_congr ?_ ?_<;>(first|omega|(simp;done)|(simp;omega)))|exact hmp2|((first|refine own_congr ?_|refine int_congr ?_|skip);simp [D.cells];done)|((first|refine own_congr ?_|refine int_congr ?_);simp [D.cells];omega)|(show @Eq (List Go.Vm.D) _ [];simp [D.cells];done)|(simp [D.cells, D.cells];done)));done)
                      · dsimp only [qV, qB]
                        dsimp only [qN] at hon
                        conv => whnf
                        repeat' (first|((with_reducible refine Split.of_true ?_);conv=>whnf)|((with_reducible refine Split.of_false ?_);conv=>whnf)|((with_reducible refine Split.neg ?_))|((with_reducible refine Split.is_true ?_ ?_);decide;conv=>whnf)|((with_reducible refine Split.is_false ?_ ?_);decide;conv=>whnf)|((with_reducible refine Split.eqz (fun _=>?_) (fun _=>?_))<;>conv=>whnf)|((with_reducible refine Split.dec (fun _=>?_) (fun _=>?_))<;>conv=>whnf)|((with_reducible refine NilK.mk (fun _=>?_) ?_)<;>conv=>whnf)|((with_reducible refine AltK.l ?_);(conv=>whnf);(with_reducible refine Need.mk ?_ ?_);(first|omega|(refine ⟨?_, ?_⟩<;>simp<;>omega)|(simp;omega));conv=>whnf)|((with_reducible refine Need.mk ?_ ?_);(first|omega|rfl|decide|(refine ⟨?_, ?_⟩<;>simp<;>omega)|(simp;omega));conv=>whnf)|((with_reducible refine Wr.inr ?_ ?_);(first|omega|(simp;omega));conv=>whnf)|(exfalso;first|omega|contradiction))
                        refine LookK.mk (fun v hv => ?_) (fun hv => ?_)
                        · rw [hm2] at hv; cases hv
                        · have hmp3 : ((pr2 ++ v.q).map nD).drop pr2.length ++ iD (k : Int) :: List.replicate 0 (D.int .i64 0) = (v.q ++ [k]).map nD := by simp [nD]
                          have hmp4 : (pr2 ++ v.q).map nD ++ iD (k : Int) :: List.replicate 0 (D.int .i64 0) = (pr2 ++ (v.q ++ [k])).map nD := by simp [nD]
                          conv => whnf
                          repeat' (first|((refine PickE.map i hx (by omega) ?_);conv=>whnf)|((refine PickR.map k hrw (by omega) ?_);conv=>whnf)|((with_reducible refine Split.of_true ?_);conv=>whnf)|((with_reducible refine Split.of_false ?_);conv=>whnf)|((with_reducible refine Split.neg ?_))|((with_reducible refine Split.is_true ?_ ?_);decide;conv=>whnf)|((with_reducible refine Split.is_false ?_ ?_);decide;conv=>whnf)|((with_reducible refine Split.eqz (fun _=>?_) (fun _=>?_))<;>conv=>whnf)|((with_reducible refine Split.dec (fun _=>?_) (fun _=>?_))<;>conv=>whnf)|((with_reducible refine NilK.mk (fun _=>?_) ?_)<;>conv=>whnf)|((with_reducible refine AltK.l ?_);(conv=>whnf);(with_reducible refine Need.mk ?_ ?_);(first|omega|(refine ⟨?_, ?_⟩<;>simp<;>omega)|(simp;omega));conv=>whnf)|((with_reducible refine Need.mk ?_ ?_);(first|omega|rfl|decide|(refine ⟨?_, ?_⟩<;>simp<;>omega)|(simp;omega));conv=>whnf)|((with_reducible refine Wr.inr ?_ ?_);(first|omega|(simp;omega));conv=>whnf)|(exfalso;first|omega|contradiction))
                          · refine Again.av (k + 1, .view pr2) ⟨by dsimp only; omega, fun e => by simp, by dsimp only [qN]; rw [hst2]; (first | omega | (simp only [List.length_append, List.length_singleton]; omega))⟩ (by dsimp only; omega) ?_
                            dsimp only [qV, qB]
                            rw [hst2]
                            exact (by refine ⟨?_, ?_, rfl⟩<;>(repeat' (first|exact True.intro|exact rfl|refine ⟨?_, ?_⟩|(intro h;cases h;done)|(intro h;exact h)|exact map_snoc|(refine own_congr ?_;simp;done)|(refine int_congr ?_;(first|omega|(simp;omega)))|(simp;done)|(refine view_congr ?_ ?_<;>(first|omega|(simp;done)|(simp;omega)))|exact hmp2|exact hmp4|((first|refine own_congr ?_|refine int_congr ?_|skip);simp [D.cells];done)|((first|refine own_congr ?_|refine int_congr ?_);simp [D.cells];omega)|(show @Eq (List Go.Vm.D) _ [];simp [D.cells];done)|(simp [D.cells, D.cells];done)));done)
                          · refine Again.av (k + 1, .own) ⟨by dsimp only; omega, fun e => by simp, by dsimp only [qN]; rw [hst2]; (first | omega | (simp only [List.length_append, List.length_singleton]; omega))⟩ (by dsimp only; omega) ?_
                            dsimp only [qV, qB]
                            rw [hst2]
                            exact (by refine ⟨?_, ?_, rfl⟩<;>(repeat' (first|exact True.intro|exact rfl|refine ⟨?_, ?_⟩|(intro h;cases h;done)|(intro h;exact h)|exact map_snoc|(refine own_congr ?_;simp;done)|(refine int_congr ?_;(first|omega|(simp;omega)))|(simp;done)|(refine view_congr ?_ ?_<;>(first|omega|(simp;done)|(simp;omega)))|exact hmp2|exact hmp3|((first|refine own_congr ?_|refine int_congr ?_|skip);simp [D.cells];done)|((first|refine own_congr ?_|refine int_congr ?_);simp [D.cells];omega)|(show @Eq (List Go.Vm.D) _ [];simp [D.cells];done)|(simp [D.cells, D.cells];done)));done)
                    · have hst2 : V (k + 1) = v := by rw [hvs, stO, if_neg (by rw [hkb]; decide), if_neg (by rw [hcx]; exact hx0)]
                      rcases o with _ | pr2 | e
                      rotate_left 2
                      · exact absurd rfl (hof e)
                      · dsimp only [qV, qB]
                        dsimp only [qN] at hon
                        conv => whnf
                        repeat' (first|((with_reducible refine Split.of_true ?_);conv=>whnf)|((with_reducible refine Split.of_false ?_);conv=>whnf)|((with_reducible refine Split.neg ?_))|((with_reducible refine Split.is_true ?_ ?_);decide;conv=>whnf)|((with_reducible refine Split.is_false ?_ ?_);decide;conv=>whnf)|((with_reducible refine Split.eqz (fun _=>?_) (fun _=>?_))<;>conv=>whnf)|((with_reducible refine Split.dec (fun _=>?_) (fun _=>?_))<;>conv=>whnf)|((with_reducible refine NilK.mk (fun _=>?_) ?_)<;>conv=>whnf)|((with_reducible refine AltK.l ?_);(conv=>whnf);(with_reducible refine Need.mk ?_ ?_);(first|omega|(refine ⟨?_, ?_⟩<;>simp<;>omega)|(simp;omega));conv=>whnf)|((with_reducible refine Need.mk ?_ ?_);(first|omega|rfl|decide|(refine ⟨?_, ?_⟩<;>simp<;>omega)|(simp;omega));conv=>whnf)|((with_reducible refine Wr.inr ?_ ?_);(first|omega|(simp;omega));conv=>whnf)|(exfalso;first|omega|contradiction))
                        refine LookK.mk (fun v hv => ?_) (fun hv => ?_)
                        · rw [hm2] at hv; cases hv
                        · conv => whnf
                          repeat' (first|((refine PickE.map i hx (by omega) ?_);conv=>whnf)|((refine PickR.map k hrw (by omega) ?_);conv=>whnf)|((with_reducible refine Split.of_true ?_);conv=>whnf)|((with_reducible refine Split.of_false ?_);conv=>whnf)|((with_reducible refine Split.neg ?_))|((with_reducible refine Split.is_true ?_ ?_);decide;conv=>whnf)|((with_reducible refine Split.is_false ?_ ?_);decide;conv=>whnf)|((with_reducible refine Split.eqz (fun _=>?_) (fun _=>?_))<;>conv=>whnf)|((with_reducible refine Split.dec (fun _=>?_) (fun _=>?_))<;>conv=>whnf)|((with_reducible refine NilK.mk (fun _=>?_) ?_)<;>conv=>whnf)|((with_reducible refine AltK.l ?_);(conv=>whnf);(with_reducible refine Need.mk ?_ ?_);(first|omega|(refine ⟨?_, ?_⟩<;>simp<;>omega)|(simp;omega));conv=>whnf)|((with_reducible refine Need.mk ?_ ?_);(first|omega|rfl|decide|(refine ⟨?_, ?_⟩<;>simp<;>omega)|(simp;omega));conv=>whnf)|((with_reducible refine Wr.inr ?_ ?_);(first|omega|(simp;omega));conv=>whnf)|(exfalso;first|omega|contradiction))
                          all_goals first
                            | (exfalso;omega)
                            | skip
                          refine Again.av (k + 1, .own) ⟨by dsimp only; omega, fun e => by simp, by dsimp only [qN]; rw [hst2]; (first | omega | (simp only [List.length_append, List.length_singleton]; omega))⟩ (by dsimp only; omega) ?_
                          dsimp only [qV, qB]
                          rw [hst2]
                          exact (by refine ⟨?_, ?_, rfl⟩<;>(repeat' (first|exact True.intro|exact rfl|refine ⟨?_, ?_⟩|(intro h;cases h;done)|(intro h;exact h)|exact map_snoc|(refine own_congr ?_;simp;done)|(refine int_congr ?_;(first|omega|(simp;omega)))|(simp;done)|(refine view_congr ?_ ?_<;>(first|omega|(simp;done)|(simp;omega)))));done)
                      · dsimp only [qV, qB]
                        dsimp only [qN] at hon
                        conv => whnf
                        repeat' (first|((with_reducible refine Split.of_true ?_);conv=>whnf)|((with_reducible refine Split.of_false ?_);conv=>whnf)|((with_reducible refine Split.neg ?_))|((with_reducible refine Split.is_true ?_ ?_);decide;conv=>whnf)|((with_reducible refine Split.is_false ?_ ?_);decide;conv=>whnf)|((with_reducible refine Split.eqz (fun _=>?_) (fun _=>?_))<;>conv=>whnf)|((with_reducible refine Split.dec (fun _=>?_) (fun _=>?_))<;>conv=>whnf)|((with_reducible refine NilK.mk (fun _=>?_) ?_)<;>conv=>whnf)|((with_reducible refine AltK.l ?_);(conv=>whnf);(with_reducible refine Need.mk ?_ ?_);(first|omega|(refine ⟨?_, ?_⟩<;>simp<;>omega)|(simp;omega));conv=>whnf)|((with_reducible refine Need.mk ?_ ?_);(first|omega|rfl|decide|(refine ⟨?_, ?_⟩<;>simp<;>omega)|(simp;omega));conv=>whnf)|((with_reducible refine Wr.inr ?_ ?_);(first|omega|(simp;omega));conv=>whnf)|(exfalso;first|omega|contradiction))
                        refine LookK.mk (fun v hv => ?_) (fun hv => ?_)
                        · rw [hm2] at hv; cases hv
                        · conv => whnf
                          repeat' (first|((refine PickE.map i hx (by omega) ?_);conv=>whnf)|((refine PickR.map k hrw (by omega) ?_);conv=>whnf)|((with_reducible refine Split.of_true ?_);conv=>whnf)|((with_reducible refine Split.of_false ?_);conv=>whnf)|((with_reducible refine Split.neg ?_))|((with_reducible refine Split.is_true ?_ ?_);decide;conv=>whnf)|((with_reducible refine Split.is_false ?_ ?_);decide;conv=>whnf)|((with_reducible refine Split.eqz (fun _=>?_) (fun _=>?_))<;>conv=>whnf)|((with_reducible refine Split.dec (fun _=>?_) (fun _=>?_))<;>conv=>whnf)|((with_reducible refine NilK.mk (fun _=>?_) ?_)<;>conv=>whnf)|((with_reducible refine AltK.l ?_);(conv=>whnf);(with_reducible refine Need.mk ?_ ?_);(first|omega|(refine ⟨?_, ?_⟩<;>simp<;>omega)|(simp;omega));conv=>whnf)|((with_reducible refine Need.mk ?_ ?_);(first|omega|rfl|decide|(refine ⟨?_, ?_⟩<;>simp<;>omega)|(simp;omega));conv=>whnf)|((with_reducible refine Wr.inr ?_ ?_);(first|omega|(simp;omega));conv=>whnf)|(exfalso;first|omega|contradiction))
                          all_goals first
                            | (exfalso;omega)
                            | skip
                          refine Again.av (k + 1, .view pr2) ⟨by dsimp only; omega, fun e => by simp, by dsimp only [qN]; rw [hst2]; (first | omega | (simp only [List.length_append, List.length_singleton]; omega))⟩ (by dsimp only; omega) ?_
                          dsimp only [qV, qB]
                          rw [hst2]
                          exact (by refine ⟨?_, ?_, rfl⟩<;>(repeat' (first|exact True.intro|exact rfl|refine ⟨?_, ?_⟩|(intro h;cases h;done)|(intro h;exact h)|exact map_snoc|(refine own_congr ?_;simp;done)|(refine int_congr ?_;(first|omega|(simp;omega)))|(simp;done)|(refine view_congr ?_ ?_<;>(first|omega|(simp;done)|(simp;omega)))));done)
                · have hke : k = l.length := by omega
                  subst hke
                  have hmp5 : mapD (u.ps ++ [(i, (b : Int))]) = mapD (V l.length).ps := by rw [hVp]
                  rcases o with _ | pr2 | e
                  rotate_left 2
                  · exact absurd rfl (hof e)
                  · dsimp only [qV, qB]
                    dsimp only [qN] at hon
                    conv => whnf
                    repeat' (first|((with_reducible refine Split.of_true ?_);conv=>whnf)|((with_reducible refine Split.of_false ?_);conv=>whnf)|((with_reducible refine Split.neg ?_))|((with_reducible refine Split.is_true ?_ ?_);decide;conv=>whnf)|((with_reducible refine Split.is_false ?_ ?_);decide;conv=>whnf)|((with_reducible refine Split.eqz (fun _=>?_) (fun _=>?_))<;>conv=>whnf)|((with_reducible refine Split.dec (fun _=>?_) (fun _=>?_))<;>conv=>whnf)|((with_reducible refine NilK.mk (fun _=>?_) ?_)<;>conv=>whnf)|((with_reducible refine AltK.l ?_);(conv=>whnf);(with_reducible refine Need.mk ?_ ?_);(first|omega|(refine ⟨?_, ?_⟩<;>simp<;>omega)|(simp;omega));conv=>whnf)|((with_reducible refine Need.mk ?_ ?_);(first|omega|rfl|decide|(refine ⟨?_, ?_⟩<;>simp<;>omega)|(simp;omega));conv=>whnf)|((with_reducible refine Wr.inr ?_ ?_);(first|omega|(simp;omega));conv=>whnf)|(exfalso;first|omega|contradiction))
                    refine Again.av (i + 1, .own) ⟨by dsimp only; omega, fun e => by simp, by dsimp only [qN]; rw [hst]; (first | omega | (simp only [List.length_append, List.length_singleton]; omega))⟩ (by dsimp only; omega) ?_
                    dsimp only [qV, qB]
                    rw [hst]
                    exact (by refine ⟨?_, ?_, rfl⟩<;>(repeat' (first|exact True.intro|exact rfl|refine ⟨?_, ?_⟩|(intro h;cases h;done)|(intro h;exact h)|exact map_snoc|(refine own_congr ?_;simp;done)|(refine int_congr ?_;(first|omega|(simp;omega)))|(simp;done)|(refine view_congr ?_ ?_<;>(first|omega|(simp;done)|(simp;omega)))|exact hmp5|((first|refine own_congr ?_|refine int_congr ?_|skip);simp [D.cells];done)|((first|refine own_congr ?_|refine int_congr ?_);simp [D.cells];omega)|(show @Eq (List Go.Vm.D) _ [];simp [D.cells];done)|(simp [D.cells, D.cells];done)));done)
                  · dsimp only [qV, qB]
                    dsimp only [qN] at hon
                    conv => whnf
                    repeat' (first|((with_reducible refine Split.of_true ?_);conv=>whnf)|((with_reducible refine Split.of_false ?_);conv=>whnf)|((with_reducible refine Split.neg ?_))|((with_reducible refine Split.is_true ?_ ?_);decide;conv=>whnf)|((with_reducible refine Split.is_false ?_ ?_);decide;conv=>whnf)|((with_reducible refine Split.eqz (fun _=>?_) (fun _=>?_))<;>conv=>whnf)|((with_reducible refine Split.dec (fun _=>?_) (fun _=>?_))<;>conv=>whnf)|((with_reducible refine NilK.mk (fun _=>?_) ?_)<;>conv=>whnf)|((with_reducible refine AltK.l ?_);(conv=>whnf);(with_reducible refine Need.mk ?_ ?_);(first|omega|(refine ⟨?_, ?_⟩<;>simp<;>omega)|(simp;omega));conv=>whnf)|((with_reducible refine Need.mk ?_ ?_);(first|omega|rfl|decide|(refine ⟨?_, ?_⟩<;>simp<;>omega)|(simp;omega));conv=>whnf)|((with_reducible refine Wr.inr ?_ ?_);(first|omega|(simp;omega));conv=>whnf)|(exfalso;first|omega|contradiction))
                    refine Again.av (i + 1, .view pr2) ⟨by dsimp only; omega, fun e => by simp, by dsimp only [qN]; rw [hst]; (first | omega | (simp only [List.length_append, List.length_singleton]; omega))⟩ (by dsimp only; omega) ?_
                    dsimp only [qV, qB]
                    rw [hst]
                    exact (by refine ⟨?_, ?_, rfl⟩<;>(repeat' (first|exact True.intro|exact rfl|refine ⟨?_, ?_⟩|(intro h;cases h;done)|(intro h;exact h)|exact map_snoc|(refine own_congr ?_;simp;done)|(refine int_congr ?_;(first|omega|(simp;omega)))|(simp;done)|(refine view_congr ?_ ?_<;>(first|omega|(simp;done)|(simp;omega)))|exact hmp5|((first|refine own_congr ?_|refine int_congr ?_|skip);simp [D.cells];done)|((first|refine own_congr ?_|refine int_congr ?_);simp [D.cells];omega)|(show @Eq (List Go.Vm.D) _ [];simp [D.cells];done)|(simp [D.cells, D.cells];done)));done)
      · have hie : i = y.pits.length := by omega
        subst hie
        clear hzs
        obtain ⟨t, htq, -, htl⟩ := hZq y.pits.length
        have htq' : (Z y.pits.length).q = b :: (r ++ t) := by rw [htq, hbr]; rfl
        have hrt : ∀ z ∈ r ++ t, z < l.length := fun z hz => by
          rcases List.mem_append.1 hz with h | h
          · exact hqb z (by rw [hbr]; exact List.mem_cons_of_mem _ h)
          · exact htl z h
        generalize Z y.pits.length = u at *
        have hlu : (u.q.map nD).length = (r ++ t).length + 1 := by rw [htq']; simp
        have hlu2 : ∀ pr : List Nat, ((pr ++ u.q).map nD).length = pr.length + ((r ++ t).length + 1) := fun pr => by rw [htq']; simp
        have hlu3 : u.q.length = (r ++ t).length + 1 := by rw [htq']; simp
        have hrl : (r ++ t).length = r.length + t.length := List.length_append
        have hut : u.q.tail = r ++ t := by rw [htq']; rfl
        rcases o with _ | pr1 | e
        rotate_left 2
        · exact absurd rfl (hof e)
        · dsimp only [qV, qB]
          dsimp only [qN] at hon
          conv => whnf
          repeat' (first|((with_reducible refine Split.of_true ?_);conv=>whnf)|((with_reducible refine Split.of_false ?_);conv=>whnf)|((with_reducible refine Split.neg ?_))|((with_reducible refine Split.is_true ?_ ?_);decide;conv=>whnf)|((with_reducible refine Split.is_false ?_ ?_);decide;conv=>whnf)|((with_reducible refine Split.eqz (fun _=>?_) (fun _=>?_))<;>conv=>whnf)|((with_reducible refine Split.dec (fun _=>?_) (fun _=>?_))<;>conv=>whnf)|((with_reducible refine NilK.mk (fun _=>?_) ?_)<;>conv=>whnf)|((with_reducible refine Need.mk ?_ ?_);(first|omega|rfl|decide|(refine ⟨?_, ?_⟩<;>simp<;>omega)|(simp;omega));conv=>whnf)|((with_reducible refine Wr.inr ?_ ?_);(first|omega|(simp;omega));conv=>whnf)|(exfalso;first|omega|contradiction))
          by_cases hrt0 : r ++ t = []
          · have hl0 : (r ++ t).length = 0 := by rw [hrt0]; rfl
            have hmp6 : AV.d (D.sl 1 (List.drop (Int.toNat 1) (List.take ((u.q.map nD).length : Int).toNat (u.q.map nD)))) = AV.d (D.sl 1 []) := by rw [htq', hrt0]; rfl
            refine AltK.l ?_
            conv => whnf
            repeat' (first|((with_reducible refine Split.of_true ?_);conv=>whnf)|((with_reducible refine Split.of_false ?_);conv=>whnf)|((with_reducible refine Split.neg ?_))|((with_reducible refine Split.is_true ?_ ?_);decide;conv=>whnf)|((with_reducible refine Split.is_false ?_ ?_);decide;conv=>whnf)|((with_reducible refine Split.eqz (fun _=>?_) (fun _=>?_))<;>conv=>whnf)|((with_reducible refine Split.dec (fun _=>?_) (fun _=>?_))<;>conv=>whnf)|((with_reducible refine NilK.mk (fun _=>?_) ?_)<;>conv=>whnf)|((with_reducible refine AltK.l ?_);(conv=>whnf);(with_reducible refine Need.mk ?_ ?_);(first|omega|(refine ⟨?_, ?_⟩<;>simp<;>omega)|(simp;omega));conv=>whnf)|((with_reducible refine Need.mk ?_ ?_);(first|omega|rfl|decide|(refine ⟨?_, ?_⟩<;>simp<;>omega)|(simp;omega));conv=>whnf)|((with_reducible refine Wr.inr ?_ ?_);(first|omega|(simp;omega));conv=>whnf)|(exfalso;first|omega|contradiction))
            refine Again.av (n, ⟨u.bs, u.ps, u.q.tail⟩, .fin u.q) ⟨hgo, by dsimp only [qN]; omega, by dsimp only; rw [hut]; exact hrt, by dsimp only; rw [hut]; intro e _; exact hrt0, fun p hp => by cases hp⟩ (by dsimp only; omega) ?_
            dsimp only [qV, qB]
            exact (by refine ⟨?_, ?_, rfl⟩<;>(repeat' (first|exact True.intro|exact rfl|refine ⟨?_, ?_⟩|(intro h;cases h;done)|(intro h;exact h)|exact map_snoc|(refine own_congr ?_;simp;done)|(refine int_congr ?_;(first|omega|(simp;omega)))|(simp;done)|(refine view_congr ?_ ?_<;>(first|omega|(simp;done)|(simp;omega)))|exact hmp6|((first|refine own_congr ?_|refine int_congr ?_|skip);simp [hrt0];done)|((first|refine own_congr ?_|refine int_congr ?_);simp [hrt0];omega)|(show @Eq (List Go.Vm.D) _ [];simp [hrt0];done)|(simp [D.cells, hrt0];done)));done)
          · have hl0 := List.length_pos_iff.2 hrt0
            have hmp6 : u.q.map nD = ([b] ++ (r ++ t)).map nD := by rw [htq']; rfl
            refine AltK.r ?_
            conv => whnf
            refine AltK.l ?_
            conv => whnf
            repeat' (first|((with_reducible refine Split.of_true ?_);conv=>whnf)|((with_reducible refine Split.of_false ?_);conv=>whnf)|((with_reducible refine Split.neg ?_))|((with_reducible refine Split.is_true ?_ ?_);decide;conv=>whnf)|((with_reducible refine Split.is_false ?_ ?_);decide;conv=>whnf)|((with_reducible refine Split.eqz (fun _=>?_) (fun _=>?_))<;>conv=>whnf)|((with_reducible refine Split.dec (fun _=>?_) (fun _=>?_))<;>conv=>whnf)|((with_reducible refine NilK.mk (fun _=>?_) ?_)<;>conv=>whnf)|((with_reducible refine AltK.l ?_);(conv=>whnf);(with_reducible refine Need.mk ?_ ?_);(first|omega|(refine ⟨?_, ?_⟩<;>simp<;>omega)|(simp;omega));conv=>whnf)|((with_reducible refine Need.mk ?_ ?_);(first|omega|rfl|decide|(refine ⟨?_, ?_⟩<;>simp<;>omega)|(simp;omega));conv=>whnf)|((with_reducible refine Wr.inr ?_ ?_);(first|omega|(simp;omega));conv=>whnf)|(exfalso;first|omega|contradiction))
            refine Again.av (n, ⟨u.bs, u.ps, u.q.tail⟩, .view [b]) ⟨hgo, by dsimp only [qN]; rw [hut]; (first | omega | (simp only [List.length_append, List.length_singleton]; omega)), by dsimp only; rw [hut]; exact hrt, fun e he => (by cases he), by dsimp only; rw [hut]; intro e _; exact hrt0⟩ (by dsimp only; omega) ?_
            dsimp only [qV, qB]
            rw [hut]
            exact (by refine ⟨?_, ?_, rfl⟩<;>(repeat' (first|exact True.intro|exact rfl|refine ⟨?_, ?_⟩|(intro h;cases h;done)|(intro h;exact h)|exact map_snoc|(refine own_congr ?_;simp;done)|(refine int_congr ?_;(first|omega|(simp;omega)))|(simp;done)|(refine view_congr ?_ ?_<;>(first|omega|(simp;done)|(simp;omega)))|exact hmp6|((first|refine own_congr ?_|refine int_congr ?_|skip);simp [D.cells];done)|((first|refine own_congr ?_|refine int_congr ?_);simp [D.cells];omega)|(show @Eq (List Go.Vm.D) _ [];simp [D.cells];done)|(simp [D.cells, D.cells];done)));done)
        · dsimp only [qV, qB]
          dsimp only [qN] at hon
          conv => whnf
          repeat' (first|((with_reducible refine Split.of_true ?_);conv=>whnf)|((with_reducible refine Split.of_false ?_);conv=>whnf)|((with_reducible refine Split.neg ?_))|((with_reducible refine Split.is_true ?_ ?_);decide;conv=>whnf)|((with_reducible refine Split.is_false ?_ ?_);decide;conv=>whnf)|((with_reducible refine Split.eqz (fun _=>?_) (fun _=>?_))<;>conv=>whnf)|((with_reducible refine Split.dec (fun _=>?_) (fun _=>?_))<;>conv=>whnf)|((with_reducible refine NilK.mk (fun _=>?_) ?_)<;>conv=>whnf)|((with_reducible refine Need.mk ?_ ?_);(first|omega|rfl|decide|(refine ⟨?_, ?_⟩<;>simp<;>omega)|(simp;omega));conv=>whnf)|((with_reducible refine Wr.inr ?_ ?_);(first|omega|(simp;omega));conv=>whnf)|(exfalso;first|omega|contradiction))
          by_cases hrt0 : r ++ t = []
          · have hl0 : (r ++ t).length = 0 := by rw [hrt0]; rfl
            refine AltK.r ?_
            conv => whnf
            repeat' (first|((with_reducible refine Split.of_true ?_);conv=>whnf)|((with_reducible refine Split.of_false ?_);conv=>whnf)|((with_reducible refine Split.neg ?_))|((with_reducible refine Split.is_true ?_ ?_);decide;conv=>whnf)|((with_reducible refine Split.is_false ?_ ?_);decide;conv=>whnf)|((with_reducible refine Split.eqz (fun _=>?_) (fun _=>?_))<;>conv=>whnf)|((with_reducible refine Split.dec (fun _=>?_) (fun _=>?_))<;>conv=>whnf)|((with_reducible refine NilK.mk (fun _=>?_) ?_)<;>conv=>whnf)|((with_reducible refine AltK.l ?_);(conv=>whnf);(with_reducible refine Need.mk ?_ ?_);(first|omega|(refine ⟨?_, ?_⟩<;>simp<;>omega)|(simp;omega));conv=>whnf)|((with_reducible refine Need.mk ?_ ?_);(first|omega|rfl|decide|(refine ⟨?_, ?_⟩<;>simp<;>omega)|(simp;omega));conv=>whnf)|((with_reducible refine Wr.inr ?_ ?_);(first|omega|(simp;omega));conv=>whnf)|(exfalso;first|omega|contradiction))
            refine Again.av (n, ⟨u.bs, u.ps, u.q.tail⟩, .fin (pr1 ++ u.q)) ⟨hgo, by dsimp only [qN]; omega, by dsimp only; rw [hut]; exact hrt, by dsimp only; rw [hut]; intro e _; exact hrt0, fun p hp => by cases hp⟩ (by dsimp only; omega) ?_
            dsimp only [qV, qB]
            exact (by refine ⟨?_, ?_, rfl⟩<;>(repeat' (first|exact True.intro|exact rfl|refine ⟨?_, ?_⟩|(intro h;cases h;done)|(intro h;exact h)|exact map_snoc|(refine own_congr ?_;simp;done)|(refine int_congr ?_;(first|omega|(simp;omega)))|(simp;done)|(refine view_congr ?_ ?_<;>(first|omega|(simp;done)|(simp;omega)))|((first|refine own_congr ?_|refine int_congr ?_|skip);simp [hrt0];done)|((first|refine own_congr ?_|refine int_congr ?_);simp [hrt0];omega)|(show @Eq (List Go.Vm.D) _ [];simp [hrt0];done)|(simp [D.cells, hrt0];done)));done)
          · have hl0 := List.length_pos_iff.2 hrt0
            have hmp6 : (pr1 ++ u.q).map nD = ((pr1 ++ [b]) ++ (r ++ t)).map nD := by rw [htq', List.append_assoc]; rfl
            refine AltK.l ?_
            conv => whnf
            repeat' (first|((with_reducible refine Split.of_true ?_);conv=>whnf)|((with_reducible refine Split.of_false ?_);conv=>whnf)|((with_reducible refine Split.neg ?_))|((with_reducible refine Split.is_true ?_ ?_);decide;conv=>whnf)|((with_reducible refine Split.is_false ?_ ?_);decide;conv=>whnf)|((with_reducible refine Split.eqz (fun _=>?_) (fun _=>?_))<;>conv=>whnf)|((with_reducible refine Split.dec (fun _=>?_) (fun _=>?_))<;>conv=>whnf)|((with_reducible refine NilK.mk (fun _=>?_) ?_)<;>conv=>whnf)|((with_reducible refine AltK.l ?_);(conv=>whnf);(with_reducible refine Need.mk ?_ ?_);(first|omega|(refine ⟨?_, ?_⟩<;>simp<;>omega)|(simp;omega));conv=>whnf)|((with_reducible refine Need.mk ?_ ?_);(first|omega|rfl|decide|(refine ⟨?_, ?_⟩<;>simp<;>omega)|(simp;omega));conv=>whnf)|((with_reducible refine Wr.inr ?_ ?_);(first|omega|(simp;omega));conv=>whnf)|(exfalso;first|omega|contradiction))
            refine Again.av (n, ⟨u.bs, u.ps, u.q.tail⟩, .view (pr1 ++ [b])) ⟨hgo, by dsimp only [qN]; rw [hut]; (first | omega | (simp only [List.length_append, List.length_singleton]; omega)), by dsimp only; rw [hut]; exact hrt, fun e he => (by cases he), by dsimp only; rw [hut]; intro e _; exact hrt0⟩ (by dsimp only; omega) ?_
            dsimp only [qV, qB]
            rw [hut]
            exact (by refine ⟨?_, ?_, rfl⟩<;>(repeat' (first|exact True.intro|exact rfl|refine ⟨?_, ?_⟩|(intro h;cases h;done)|(intro h;exact h)|exact map_snoc|(refine own_congr ?_;simp;done)|(refine int_congr ?_;(first|omega|(simp;omega)))|(simp;done)|(refine view_congr ?_ ?_<;>(first|omega|(simp;done)|(simp;omega)))|exact hmp6|((first|refine own_congr ?_|refine int_congr ?_|skip);simp [D.cells];done)|((first|refine own_congr ?_|refine int_congr ?_);simp [D.cells];omega)|(show @Eq (List Go.Vm.D) _ [];simp [D.cells];done)|(simp [D.cells, D.cells];done)));done)
end Go.Proofs.Try
end
